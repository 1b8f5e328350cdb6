import Derived.AtR
import Derived.Test.YtgnebdiembekpaaGreatDoorA10
import Derived.Test.YtgnebdiembekpaaGreatDoorA1
/- Part of the proof: the abstract evaluator, its soundness, its runs: AeRel, AeWorld, AeOp1, AeOp2 -/
set_option linter.unusedSectionVars false
set_option linter.unusedSimpArgs false
set_option linter.unusedVariables false
set_option linter.unnecessarySimpa false
namespace Go.AE
/-! what abstract values and objects say of real ones -/
structure Ent where
  blk : Nat
  sh : Nat
  tot : Nat
abbrev Sg := Ix → Option Ent
def Sg.le (σ τ : Sg) : Prop := ∀ a e, σ a = some e → τ a = some e
theorem Sg.le.refl (σ : Sg) : σ.le σ := fun _ _ h => h
theorem Sg.le.trans {σ τ υ : Sg} (h : σ.le τ) (h' : τ.le υ) : σ.le υ := fun a e he => h' a e (h a e he)
def Sg.set (σ : Sg) (a : Ix) (e : Ent) : Sg := fun b => if b = a then some e else σ b
theorem Sg.set_same (σ : Sg) (a : Ix) (e : Ent) : σ.set a e a = some e := by simp [Sg.set]
theorem Sg.set_other (σ : Sg) {a b : Ix} (e : Ent) (h : b ≠ a) : σ.set a e b = σ b := by simp [Sg.set, h]
theorem Sg.le_set {σ : Sg} {a : Ix} {e : Ent} (h : σ a = none) : σ.le (σ.set a e) := by
  intro b f hb
  by_cases hba : b = a
  · subst hba; rw [h] at hb; cases hb
  · rw [Sg.set_other σ e hba]; exact hb

mutual
def VRel (σ : Sg) : AV → Value → Prop
  | .undef, _ => True
  | .bool b, v => v = .bool b
  | .int k n, v => v = .int k n
  | .str l, v => ∃ s : ByteArray, v = .string s ∧ s.data.toList.map UInt8.toNat = l
  | .ptr a off, v => ∃ e, σ a = some e ∧ v = .pointer (some ⟨e.blk, e.sh + off, none⟩)
  | .nilptr, v => v = .pointer none
  | .slice a off len (.k c), v => ∃ e, σ a = some e ∧ v = .slice (some ⟨e.blk, e.sh + off, none⟩) len c
  | .slice a off len (.g z), v => ∃ e c, σ a = some e ∧ v = .slice (some ⟨e.blk, e.sh + off, none⟩) len c ∧ len ≤ c ∧ off + c * z ≤ e.tot ∧ 0 < z
  | .zslice, v => ∃ a c, v = .slice (some a) 0 c
  | .nilslice, v => v = .slice none 0 0
  | .map a, v => ∃ e, σ a = some e ∧ v = .map (some e.blk)
  | .nilmap, v => v = .map none
  | .func f first cap, v => ∃ cs ds, v = .func (.func f) cs ds ∧ VRels σ first cs.toList ∧ VRels σ cap ds.toList
  | .yield l, v => ∃ e, σ l = some e ∧ v = .func (.yield e.blk) #[] #[]
  | .nilfunc, v => v = .nilFunc
  | .iface t x, v => ∃ y, v = .iface t y ∧ VRel σ x y
  | .niliface, v => v = .nilIface
  | .agg l, v => ∃ cs, v = .agg cs ∧ VRels σ l cs.toList
  | .tup l, v => ∃ cs, v = .tuple cs ∧ VRels σ l cs.toList
  | .cls m k, v => ∃ n : Int, v = .int .i64 n ∧ n % (m : Int) = (k : Int)
def VRels (σ : Sg) : List AV → List Value → Prop
  | [], vs => vs = []
  | x :: l, vs => ∃ v rest, vs = v :: rest ∧ VRel σ x v ∧ VRels σ l rest
end

mutual
theorem VRel.mono {σ τ : Sg} (h : σ.le τ) : ∀ (x : AV) (v : Value), VRel σ x v → VRel τ x v
  | .undef, _, _ => by simp only [VRel]
  | .bool _, _, hv => by simpa only [VRel] using hv
  | .int _ _, _, hv => by simpa only [VRel] using hv
  | .str _, _, hv => by simpa only [VRel] using hv
  | .ptr _ _, _, hv => by simp only [VRel] at hv ⊢; obtain ⟨e, he, hv⟩ := hv; exact ⟨e, h _ _ he, hv⟩
  | .nilptr, _, hv => by simpa only [VRel] using hv
  | .slice _ _ _ (.k _), _, hv => by simp only [VRel] at hv ⊢; obtain ⟨e, he, hv⟩ := hv; exact ⟨e, h _ _ he, hv⟩
  | .slice _ _ _ (.g _), _, hv => by simp only [VRel] at hv ⊢; obtain ⟨e, c, he, hv⟩ := hv; exact ⟨e, c, h _ _ he, hv⟩
  | .zslice, _, hv => by simpa only [VRel] using hv
  | .nilslice, _, hv => by simpa only [VRel] using hv
  | .map _, _, hv => by simp only [VRel] at hv ⊢; obtain ⟨e, he, hv⟩ := hv; exact ⟨e, h _ _ he, hv⟩
  | .nilmap, _, hv => by simpa only [VRel] using hv
  | .func _ first cap, _, hv => by
    simp only [VRel] at hv ⊢; obtain ⟨cs, ds, hv, h1, h2⟩ := hv; exact ⟨cs, ds, hv, VRels.mono h first _ h1, VRels.mono h cap _ h2⟩
  | .yield _, _, hv => by simp only [VRel] at hv ⊢; obtain ⟨e, he, hv⟩ := hv; exact ⟨e, h _ _ he, hv⟩
  | .nilfunc, _, hv => by simpa only [VRel] using hv
  | .iface _ x, _, hv => by simp only [VRel] at hv ⊢; obtain ⟨y, hv, h1⟩ := hv; exact ⟨y, hv, VRel.mono h x _ h1⟩
  | .niliface, _, hv => by simpa only [VRel] using hv
  | .agg l, _, hv => by simp only [VRel] at hv ⊢; obtain ⟨cs, hv, h1⟩ := hv; exact ⟨cs, hv, VRels.mono h l _ h1⟩
  | .tup l, _, hv => by simp only [VRel] at hv ⊢; obtain ⟨cs, hv, h1⟩ := hv; exact ⟨cs, hv, VRels.mono h l _ h1⟩
  | .cls _ _, _, hv => by simpa only [VRel] using hv
theorem VRels.mono {σ τ : Sg} (h : σ.le τ) : ∀ (x : List AV) (v : List Value), VRels σ x v → VRels τ x v
  | [], _, hv => by simpa only [VRels] using hv
  | x :: l, _, hv => by
    simp only [VRels] at hv ⊢; obtain ⟨v, rest, hv, h1, h2⟩ := hv; exact ⟨v, rest, hv, VRel.mono h x _ h1, VRels.mono h l _ h2⟩
end

section lists
variable {σ : Sg}
theorem VRels.nil : VRels σ [] [] := by simp [VRels]
theorem VRels.cons {x : AV} {v : Value} {l : List AV} {vs : List Value} (h : VRel σ x v) (h' : VRels σ l vs) : VRels σ (x :: l) (v :: vs) := by
  simp only [VRels]; exact ⟨v, vs, rfl, h, h'⟩
theorem VRels.cons_iff {x : AV} {v : Value} {l : List AV} {vs : List Value} : VRels σ (x :: l) (v :: vs) ↔ VRel σ x v ∧ VRels σ l vs := by
  simp only [VRels]; constructor
  · rintro ⟨_, _, h, h1, h2⟩; cases h; exact ⟨h1, h2⟩
  · rintro ⟨h1, h2⟩; exact ⟨v, vs, rfl, h1, h2⟩
theorem VRels.nil_iff {vs : List Value} : VRels σ [] vs ↔ vs = [] := by simp [VRels]
theorem VRels.length : ∀ {l : List AV} {vs : List Value}, VRels σ l vs → l.length = vs.length
  | [], _, h => by simp only [VRels] at h; subst h; rfl
  | x :: l, _, h => by
    simp only [VRels] at h; obtain ⟨v, rest, rfl, _, h2⟩ := h; simp [VRels.length h2]
theorem VRels.append : ∀ {l m : List AV} {vs ws : List Value}, VRels σ l vs → VRels σ m ws → VRels σ (l ++ m) (vs ++ ws)
  | [], _, _, _, h, h' => by simp only [VRels] at h; subst h; exact h'
  | x :: l, _, _, _, h, h' => by
    simp only [VRels] at h; obtain ⟨v, rest, rfl, h1, h2⟩ := h; exact VRels.cons h1 (VRels.append h2 h')
theorem VRels.take : ∀ (n : Nat) {l : List AV} {vs : List Value}, VRels σ l vs → VRels σ (l.take n) (vs.take n)
  | 0, _, _, _ => by simp [VRels]
  | n + 1, [], _, h => by simp only [VRels] at h; subst h; simp [VRels]
  | n + 1, x :: l, _, h => by
    simp only [VRels] at h; obtain ⟨v, rest, rfl, h1, h2⟩ := h; exact VRels.cons h1 (VRels.take n h2)
theorem VRels.drop : ∀ (n : Nat) {l : List AV} {vs : List Value}, VRels σ l vs → VRels σ (l.drop n) (vs.drop n)
  | 0, _, _, h => h
  | n + 1, [], _, h => by simp only [VRels] at h; subst h; simp [VRels]
  | n + 1, x :: l, _, h => by
    simp only [VRels] at h; obtain ⟨v, rest, rfl, h1, h2⟩ := h; exact VRels.drop n h2
theorem VRels.get : ∀ {l : List AV} {vs : List Value} {n : Nat} {x : AV}, VRels σ l vs → l[n]? = some x → ∃ v, vs[n]? = some v ∧ VRel σ x v
  | [], _, _, _, _, h => by simp at h
  | y :: l, _, 0, _, h, hx => by
    simp only [VRels] at h; obtain ⟨v, rest, rfl, h1, _⟩ := h
    simp at hx; subst hx; exact ⟨v, rfl, h1⟩
  | y :: l, _, n + 1, _, h, hx => by
    simp only [VRels] at h; obtain ⟨v, rest, rfl, _, h2⟩ := h
    simp at hx; obtain ⟨w, hw, hr⟩ := VRels.get h2 hx; exact ⟨w, by simpa using hw, hr⟩
theorem VRels.set : ∀ {l : List AV} {vs : List Value} (n : Nat) {x : AV} {v : Value}, VRels σ l vs → VRel σ x v → VRels σ (l.set n x) (vs.set n v)
  | [], _, _, _, _, h, _ => by simp only [VRels] at h; subst h; simp [VRels]
  | y :: l, _, 0, _, _, h, hx => by
    simp only [VRels] at h; obtain ⟨w, rest, rfl, _, h2⟩ := h; exact VRels.cons hx h2
  | y :: l, _, n + 1, _, _, h, hx => by
    simp only [VRels] at h; obtain ⟨w, rest, rfl, h1, h2⟩ := h; exact VRels.cons h1 (VRels.set n h2 hx)
end lists

/-! the evaluator's own words on lists -/
theorem listGet_eq {α : Type} : ∀ (l : List α) (n : Nat), listGet l n = l[n]?
  | [], _ => by simp [listGet]
  | _ :: _, 0 => by simp [listGet]
  | _ :: l, n + 1 => by simp [listGet, listGet_eq l n]
theorem listDrop_eq {α : Type} : ∀ (n : Nat) (l : List α), listDrop n l = l.drop n
  | 0, l => by simp [listDrop]
  | _ + 1, [] => by simp [listDrop]
  | n + 1, _ :: l => by simp [listDrop, listDrop_eq n l]
theorem listSet_eq {α : Type} : ∀ (l : List α) (n : Nat) (x : α), listSet l n x = l.set n x
  | [], _, _ => by simp [listSet]
  | _ :: _, 0, _ => by simp [listSet]
  | _ :: l, n + 1, x => by simp [listSet, listSet_eq l n x]
theorem takeN_some {α : Type} : ∀ {n : Nat} {l r : List α}, takeN n l = some r → n ≤ l.length ∧ r = l.take n
  | 0, l, r, h => by simp [takeN] at h; simp [← h]
  | n + 1, [], r, h => by simp [takeN] at h
  | n + 1, x :: l, r, h => by
    simp only [takeN] at h
    split at h
    · rename_i r' hr
      obtain ⟨h1, h2⟩ := takeN_some hr
      simp at h; subst h; simp [h2]; omega
    · simp at h
theorem putFrom_some {α : Type} : ∀ {l : List α} {n : Nat} {ys r : List α}, putFrom l n ys = some r → ys ≠ [] →
    n + ys.length ≤ l.length ∧ r = l.take n ++ ys ++ l.drop (n + ys.length)
  | l, n, [], r, _, hy => absurd rfl hy
  | [], n, y :: ys, r, h, _ => by simp [putFrom] at h
  | x :: l, 0, y :: ys, r, h, _ => by
    simp only [putFrom] at h
    split at h
    · rename_i r' hr
      simp at h; subst h
      by_cases hys : ys = []
      · subst hys; simp [putFrom] at hr; subst hr; simp
      · obtain ⟨h1, h2⟩ := putFrom_some hr hys
        simp at h1 h2
        subst h2; simp; omega
    · simp at h
  | x :: l, n + 1, y :: ys, r, h, hy => by
    simp only [putFrom] at h
    split at h
    · rename_i r' hr
      simp at h; subst h
      obtain ⟨h1, h2⟩ := putFrom_some hr hy
      subst h2
      constructor
      · simp at h1 ⊢; omega
      · have : n + 1 + (y :: ys).length = (n + (y :: ys).length) + 1 := by simp; omega
        rw [this]; simp
    · simp at h
theorem putFrom_nil {α : Type} : ∀ (l : List α) (n : Nat), putFrom l n [] = some l
  | [], _ => by simp [putFrom]
  | _ :: _, 0 => by simp [putFrom]
  | _ :: _, _ + 1 => by simp [putFrom]

theorem Tr.get_set_same {α : Type} : ∀ (t : Tr α) (k : Ix) (x : α), (Tr.set x t k).get k = some x
  | .leaf, .h, _ => rfl
  | .leaf, .o p, x => by simp [Tr.set, Tr.get, Tr.get_set_same .leaf p x]
  | .leaf, .i p, x => by simp [Tr.set, Tr.get, Tr.get_set_same .leaf p x]
  | .node _ _ _, .h, _ => rfl
  | .node l _ _, .o p, x => by simp [Tr.set, Tr.get, Tr.get_set_same l p x]
  | .node _ _ r, .i p, x => by simp [Tr.set, Tr.get, Tr.get_set_same r p x]
theorem Tr.get_leaf {α : Type} (k : Ix) : (Tr.leaf : Tr α).get k = none := by cases k <;> rfl
theorem Tr.get_set_other {α : Type} : ∀ (t : Tr α) (k j : Ix) (x : α), j ≠ k → (Tr.set x t k).get j = t.get j
  | .leaf, .h, j, _, h => by cases j <;> first | exact absurd rfl h | rfl
  | .leaf, .o p, j, x, h => by
    cases j with
    | h => rfl
    | o q => simp only [Tr.set, Tr.get]; rw [Tr.get_set_other .leaf p q x (fun e => h (by rw [e]))]; simp [Tr.get_leaf]
    | i q => rfl
  | .leaf, .i p, j, x, h => by
    cases j with
    | h => rfl
    | i q => simp only [Tr.set, Tr.get]; rw [Tr.get_set_other .leaf p q x (fun e => h (by rw [e]))]; simp [Tr.get_leaf]
    | o q => rfl
  | .node _ _ _, .h, j, _, h => by cases j <;> first | exact absurd rfl h | rfl
  | .node l _ _, .o p, j, x, h => by
    cases j with
    | h => rfl
    | o q => simp only [Tr.set, Tr.get]; exact Tr.get_set_other l p q x (fun e => h (by rw [e]))
    | i q => rfl
  | .node _ _ r, .i p, j, x, h => by
    cases j with
    | h => rfl
    | i q => simp only [Tr.set, Tr.get]; exact Tr.get_set_other r p q x (fun e => h (by rw [e]))
    | o q => rfl
theorem Tr.get_del_same {α : Type} : ∀ (t : Tr α) (k : Ix), (t.del k).get k = none
  | .leaf, k => by simp [Tr.del, Tr.get_leaf]
  | .node _ _ _, .h => rfl
  | .node l _ _, .o p => by simp [Tr.del, Tr.get, Tr.get_del_same l p]
  | .node _ _ r, .i p => by simp [Tr.del, Tr.get, Tr.get_del_same r p]
theorem Tr.get_del_other {α : Type} : ∀ (t : Tr α) (k j : Ix), j ≠ k → (t.del k).get j = t.get j
  | .leaf, _, _, _ => by simp [Tr.del]
  | .node _ _ _, .h, j, h => by cases j <;> first | exact absurd rfl h | rfl
  | .node l _ _, .o p, j, h => by
    cases j with
    | h => rfl
    | o q => simp only [Tr.del, Tr.get]; exact Tr.get_del_other l p q (fun e => h (by rw [e]))
    | i q => rfl
  | .node _ _ r, .i p, j, h => by
    cases j with
    | h => rfl
    | i q => simp only [Tr.del, Tr.get]; exact Tr.get_del_other r p q (fun e => h (by rw [e]))
    | o q => rfl

theorem Ix.toNat_pos : ∀ i : Ix, 0 < i.toNat
  | .h => by simp [Ix.toNat]
  | .o p => by have := Ix.toNat_pos p; simp [Ix.toNat]; omega
  | .i p => by simp [Ix.toNat]
theorem Ix.toNat_succ : ∀ i : Ix, i.succ.toNat = i.toNat + 1
  | .h => rfl
  | .o p => rfl
  | .i p => by simp [Ix.succ, Ix.toNat, Ix.toNat_succ p]; omega
theorem Ix.toNat_inj : ∀ {i j : Ix}, i.toNat = j.toNat → i = j
  | .h, .h, _ => rfl
  | .h, .o q, w => by have := Ix.toNat_pos q; simp [Ix.toNat] at w; omega
  | .h, .i q, w => by have := Ix.toNat_pos q; simp [Ix.toNat] at w; omega
  | .o p, .h, w => by have := Ix.toNat_pos p; simp [Ix.toNat] at w; omega
  | .i p, .h, w => by have := Ix.toNat_pos p; simp [Ix.toNat] at w; omega
  | .o p, .o q, w => by simp only [Ix.toNat] at w; rw [Ix.toNat_inj (i := p) (j := q) (by omega)]
  | .i p, .i q, w => by simp only [Ix.toNat] at w; rw [Ix.toNat_inj (i := p) (j := q) (by omega)]
  | .o p, .i q, w => by simp [Ix.toNat] at w; omega
  | .i p, .o q, w => by simp [Ix.toNat] at w; omega
theorem Ix.toNat_ofNatF : ∀ (f n : Nat), 0 < n → n ≤ f → (Ix.ofNatF f n).toNat = n
  | 0, n, w, w' => by omega
  | f + 1, n, w, w' => by
    simp only [Ix.ofNatF]
    split
    · simp [Ix.toNat]; omega
    · split
      · simp only [Ix.toNat]; rw [Ix.toNat_ofNatF f (n / 2) (by omega) (by omega)]; omega
      · simp only [Ix.toNat]; rw [Ix.toNat_ofNatF f (n / 2) (by omega) (by omega)]; omega
theorem Ix.toNat_ofTmp (t : Nat) : (Ix.ofTmp t).toNat = t + 1 := Ix.toNat_ofNatF _ _ (by omega) (by omega)
theorem Ix.ofTmp_inj {s t : Nat} (w : Ix.ofTmp s = Ix.ofTmp t) : s = t := by
  have := congrArg Ix.toNat w
  rw [Ix.toNat_ofTmp, Ix.toNat_ofTmp] at this; omega
end Go.AE
namespace Go.AE
def ESRel (σ : Sg) : List (AV × AV × Nat) → List MapEntry → Prop
  | [], l => l = []
  | (k, v, b) :: es, l => ∃ c rest, l = c :: rest ∧ VRel σ k c.key ∧ VRel σ v c.val ∧ c.born = b ∧ ESRel σ es rest
theorem ESRel.mono {σ τ : Sg} (h : σ.le τ) : ∀ {es : List (AV × AV × Nat)} {l : List MapEntry}, ESRel σ es l → ESRel τ es l
  | [], _, hv => hv
  | (k, v, b) :: es, _, hv => by
    obtain ⟨c, rest, rfl, h1, h2, h3, h4⟩ := hv
    exact ⟨c, rest, rfl, VRel.mono h _ _ h1, VRel.mono h _ _ h2, h3, ESRel.mono h h4⟩
/-- temporaries -/
def TM.at_ (T : TM) (p : Ix) : AV := match T.get p with
  | some v => v
  | none => .undef
def TRel (σ : Sg) (T : TM) (tmps : Array Value) : Prop := ∀ t, VRel σ (T.at_ (Ix.ofTmp t)) (tmps.getD t undef)
theorem TRel.mono {σ τ : Sg} (h : σ.le τ) {T : TM} {tmps : Array Value} (hT : TRel σ T tmps) : TRel τ T tmps := fun t => VRel.mono h _ _ (hT t)
def OR (_ : Program) (σ : Sg) (e : Ent) (ob : Obj) : AO → Prop
  | .cells l et grown frz => ∃ c fz, ob = .cells c et fz ∧ e.sh + l.length ≤ c.size ∧ VRels σ l ((c.toList.drop e.sh).take l.length) ∧
      (grown = false → e.sh = 0 ∧ l.length = c.size) ∧ (grown = true → e.sh + e.tot ≤ c.size) ∧ (frz = false → ∀ o, o < c.size → ¬ (fz.1 ≤ o ∧ o < fz.2))
  | .map es clock => ∃ ces, ob = .map ces clock ∧ ESRel σ es ces.toList ∧ ∀ x, x ∈ es → x.2.2 < clock
  | .siter s pos => e.sh = 0 ∧ ∃ bs, ob = .stringIter bs pos ∧ (bs.data.toList.drop pos).map UInt8.toNat = s
  | .miter m since seen last => e.sh = 0 ∧ ∃ f, σ m = some f ∧ ob = .mapIter (some f.blk) since seen.toArray last
  | .miternil => e.sh = 0 ∧ ∃ a b c, ob = .mapIter none a b c
  | .mitR m born last => e.sh = 0 ∧ ∃ f since seen, σ m = some f ∧ ob = .mapIter (some f.blk) since seen last ∧ seen.back? = some born

variable {P : Program}
theorem OR.mono {σ τ : Sg} (h : σ.le τ) {e : Ent} {ob : Obj} : ∀ {o : AO}, OR P σ e ob o → OR P τ e ob o
  | .cells _ _ _ _, ⟨c, fz, h1, h2, h3, h4⟩ => ⟨c, fz, h1, h2, VRels.mono h _ _ h3, h4⟩
  | .map _ _, ⟨ces, h1, h2, h3⟩ => ⟨ces, h1, ESRel.mono h h2, h3⟩
  | .siter _ _, hv => hv
  | .miter _ _ _ _, ⟨h0, f, h1, h2⟩ => ⟨h0, f, h _ _ h1, h2⟩
  | .miternil, hv => hv
  | .mitR _ _ _, ⟨h0, f, a, b, h1, h2⟩ => ⟨h0, f, a, b, h _ _ h1, h2⟩

/-- what an abstract world says of a real one -/
structure WRel (P : Program) (σ : Sg) (A : AW) (W : World) : Prop where
  obj : ∀ a o, A.get a = some o → ∃ e ob, σ a = some e ∧ W.heap[e.blk]? = some ob ∧ OR P σ e ob o
  inj : ∀ a b e f, (A.get a).isSome = true → (A.get b).isSome = true → σ a = some e → σ b = some f → a ≠ b → e.blk ≠ f.blk
  fresh : ∀ a e, σ a = some e → a.toNat < A.nx.toNat
theorem WRel.heap {σ : Sg} {A : AW} {W W' : World} (h : WRel P σ A W) (hh : W'.heap = W.heap) : WRel P σ A W' :=
  ⟨fun a o ha => by rw [hh]; exact h.obj a o ha, h.inj, h.fresh⟩
theorem WRel.none_nx {σ : Sg} {A : AW} {W : World} (h : WRel P σ A W) : σ A.nx = none := by
  cases hs : σ A.nx with
  | none => rfl
  | some e => have := h.fresh _ _ hs; omega
theorem WRel.lt {σ : Sg} {A : AW} {W : World} (h : WRel P σ A W) {a : Ix} {e : Ent} (ha : (A.get a).isSome = true) (he : σ a = some e) : e.blk < W.heap.size := by
  obtain ⟨o, ho⟩ := Option.isSome_iff_exists.1 ha
  obtain ⟨e', ob, he', hb, _⟩ := h.obj a o ho
  rw [he] at he'; cases he'
  exact (Array.getElem?_eq_some_iff.1 hb).1

/-- a stretch of a run -/
structure Step (P : Program) (σ : Sg) (A : AW) (W : World) (σ' : Sg) (A' : AW) (W' : World) : Prop where
  le : σ.le σ'
  rel : WRel P σ' A' W'
  size : W.heap.size ≤ W'.heap.size
  pres : ∀ b, b < W.heap.size → (∀ a e, (A.get a).isSome = true → σ a = some e → e.blk ≠ b) → W'.heap[b]? = W.heap[b]?
  img : ∀ a e, (A'.get a).isSome = true → σ' a = some e → e.blk < W.heap.size → ∃ a0 e0, (A.get a0).isSome = true ∧ σ a0 = some e0 ∧ e0.blk = e.blk
  olds : A'.olds = A.olds
  nx : A.nx.toNat ≤ A'.nx.toNat
  dom : ∀ a e, σ' a = some e → σ a = some e ∨ A.nx.toNat ≤ a.toNat
  cdom : ∀ a, (A'.cur.get a).isSome = true → (A.cur.get a).isSome = true ∨ A.nx.toNat ≤ a.toNat
  keepA : ∀ a m b l, a.toNat < A.nx.toNat → A'.get a = some (.mitR m b l) → A.get a = some (.mitR m b l)
  keepH : ∀ a m b l e, a.toNat < A.nx.toNat → A'.get a = some (.mitR m b l) → σ a = some e → W'.heap[e.blk]? = W.heap[e.blk]?
  ro : ∀ a l et e, A.get a = some (.cells l et false true) → σ a = some e → A'.get a = some (.cells l et false true) ∧ W'.heap[e.blk]? = W.heap[e.blk]?
  io : W'.os = W.os ∧ W'.output = W.output
theorem Step.refl {σ : Sg} {A : AW} {W : World} (h : WRel P σ A W) : Step P σ A W σ A W :=
  ⟨.refl σ, h, Nat.le_refl _, fun _ _ _ => rfl, fun a e ha he _ => ⟨a, e, ha, he, rfl⟩, rfl, Nat.le_refl _, fun _ _ h => .inl h, fun _ h => .inl h, fun _ _ _ _ _ h => h, fun _ _ _ _ _ _ _ _ => rfl, fun _ _ _ _ h _ => ⟨h, rfl⟩, rfl, rfl⟩
theorem Step.trans {σ σ1 σ2 : Sg} {A A1 A2 : AW} {W W1 W2 : World} (h : Step P σ A W σ1 A1 W1) (h' : Step P σ1 A1 W1 σ2 A2 W2) : Step P σ A W σ2 A2 W2 where
  le := h.le.trans h'.le
  rel := h'.rel
  size := Nat.le_trans h.size h'.size
  pres := fun b hb hn => by
    rw [h'.pres b (Nat.lt_of_lt_of_le hb h.size) ?_, h.pres b hb hn]
    intro a e ha he hbe
    subst hbe
    obtain ⟨a0, e0, h1, h2, h3⟩ := h.img a e ha he hb
    exact hn a0 e0 h1 h2 h3
  img := fun a e ha he hb => by
    obtain ⟨a1, e1, h1, h2, h3⟩ := h'.img a e ha he (Nat.lt_of_lt_of_le hb h.size)
    obtain ⟨a0, e0, g1, g2, g3⟩ := h.img a1 e1 h1 h2 (by omega)
    exact ⟨a0, e0, g1, g2, g3.trans h3⟩
  olds := h'.olds.trans h.olds
  nx := Nat.le_trans h.nx h'.nx
  dom := fun a e he => by
    rcases h'.dom a e he with h1 | h1
    · exact h.dom a e h1
    · exact .inr (Nat.le_trans h.nx h1)
  cdom := fun a ha => by
    rcases h'.cdom a ha with h1 | h1
    · exact h.cdom a h1
    · exact .inr (Nat.le_trans h.nx h1)
  keepA := fun a m b l hlt ha => h.keepA a m b l hlt (h'.keepA a m b l (Nat.lt_of_lt_of_le hlt h.nx) ha)
  keepH := fun a m b l e hlt ha he => by
    have h1 := h'.keepA a m b l (Nat.lt_of_lt_of_le hlt h.nx) ha
    rw [h'.keepH a m b l e (Nat.lt_of_lt_of_le hlt h.nx) ha (h.le _ _ he), h.keepH a m b l e hlt h1 he]
  ro := fun a l et e ha he => by
    obtain ⟨h1, h2⟩ := h.ro a l et e ha he
    obtain ⟨h3, h4⟩ := h'.ro a l et e h1 (h.le _ _ he)
    exact ⟨h3, h4.trans h2⟩
  io := ⟨h'.io.1.trans h.io.1, h'.io.2.trans h.io.2⟩
theorem Step.heap {σ : Sg} {A : AW} {W W' : World} (h : WRel P σ A W) (hh : W'.heap = W.heap) (hio : W'.os = W.os ∧ W'.output = W.output) : Step P σ A W σ A W' :=
  ⟨.refl σ, h.heap hh, by rw [hh]; exact Nat.le_refl _, fun _ _ _ => by rw [hh], fun a e ha he _ => ⟨a, e, ha, he, rfl⟩, rfl, Nat.le_refl _, fun _ _ h => .inl h, fun _ h => .inl h, fun _ _ _ _ _ h => h, fun _ _ _ _ _ _ _ _ => by rw [hh], fun _ _ _ _ h _ => ⟨h, by rw [hh]⟩, hio⟩
theorem Step.heap' {σ σ' : Sg} {A A' : AW} {W W' W'' : World} (h : Step P σ A W σ' A' W') (hh : W''.heap = W'.heap) (hio : W''.os = W'.os ∧ W''.output = W'.output) : Step P σ A W σ' A' W'' :=
  h.trans (Step.heap h.rel hh hio)

theorem AW.get_new_same (A : AW) (o : AO) : (A.new o).get A.nx = some o := by simp [AW.new, AW.get, Tr.get_set_same]
theorem AW.get_new_other (A : AW) (o : AO) {a : Ix} (h : a ≠ A.nx) : (A.new o).get a = A.get a := by
  simp [AW.new, AW.get, Tr.get_set_other _ _ _ _ h]
theorem AW.put_some {A A' : AW} {a : Ix} {o : AO} (h : A.put a o = some A') : (A.get a).isSome = true ∧ A'.get a = some o ∧ (∀ b, b ≠ a → A'.get b = A.get b) ∧ A'.olds = A.olds ∧ A'.nx = A.nx := by
  simp only [AW.put] at h
  split at h
  · rename_i o' ho
    cases h
    refine ⟨by simp [AW.get, ho], by simp [AW.get, Tr.get_set_same], fun b hb => by simp [AW.get, Tr.get_set_other _ _ _ _ hb], rfl, rfl⟩
  · cases h
theorem AW.drop_some {A A' : AW} {a : Ix} (h : A.drop a = some A') : (A.get a).isSome = true ∧ A'.get a = none ∧ (∀ b, b ≠ a → A'.get b = A.get b) ∧ A'.olds = A.olds ∧ A'.nx = A.nx := by
  simp only [AW.drop] at h
  split at h
  · rename_i o' ho
    split at h
    · rename_i hn
      cases h
      refine ⟨by simp [AW.get, ho], by simp [AW.get, Tr.get_del_same, hn], fun b hb => by simp [AW.get, Tr.get_del_other _ _ _ hb], rfl, rfl⟩
    · cases h
  · cases h

theorem AW.drop_cur {A A' : AW} {a b : Ix} (hp : A.drop a = some A') (hb : (A'.cur.get b).isSome = true) : (A.cur.get b).isSome = true := by
  simp only [AW.drop] at hp
  split at hp
  · rename_i o' ho'
    split at hp
    · cases hp
      by_cases hba : b = a
      · subst hba; rw [ho']; rfl
      · simp only [Tr.get_del_other _ _ _ hba] at hb; exact hb
    · cases hp
  · cases hp
/-- a new object -/
theorem Step.new {σ : Sg} {A : AW} {W : World} (h : WRel P σ A W) (o : AO) (ob : Obj) (sh tot : Nat) (drawn : Nat)
    (ho : ∀ τ, σ.le τ → OR P τ ⟨W.heap.size, sh, tot⟩ ob o) :
    Step P σ A W (σ.set A.nx ⟨W.heap.size, sh, tot⟩) (A.new o) { W with heap := W.heap.push ob, drawn := drawn } where
  le := Sg.le_set h.none_nx
  rel := {
    obj := fun a o' ha => by
      by_cases hax : a = A.nx
      · subst hax
        rw [AW.get_new_same] at ha; cases ha
        exact ⟨_, ob, Sg.set_same _ _ _, by simp, ho _ (Sg.le_set h.none_nx)⟩
      · rw [AW.get_new_other _ _ hax] at ha
        obtain ⟨e, ob', h1, h2, h3⟩ := h.obj a o' ha
        refine ⟨e, ob', by rw [Sg.set_other _ _ hax]; exact h1, ?_, h3.mono (Sg.le_set h.none_nx)⟩
        have := (Array.getElem?_eq_some_iff.1 h2).1
        simp [Array.getElem?_push, Nat.ne_of_lt this, h2]
    inj := fun a b e f ha hb he hf hab => by
      by_cases hax : a = A.nx
      · subst hax
        rw [Sg.set_same] at he; cases he
        have hbx : b ≠ A.nx := fun e => hab e.symm
        rw [Sg.set_other _ _ hbx] at hf
        rw [AW.get_new_other _ _ hbx] at hb
        have := h.lt hb hf
        simp; omega
      · rw [Sg.set_other _ _ hax] at he
        rw [AW.get_new_other _ _ hax] at ha
        by_cases hbx : b = A.nx
        · subst hbx
          rw [Sg.set_same] at hf; cases hf
          have := h.lt ha he
          simp; omega
        · rw [Sg.set_other _ _ hbx] at hf
          rw [AW.get_new_other _ _ hbx] at hb
          exact h.inj a b e f ha hb he hf hab
    fresh := fun a e he => by
      simp only [AW.new, Ix.toNat_succ]
      by_cases hax : a = A.nx
      · subst hax; omega
      · rw [Sg.set_other _ _ hax] at he
        have := h.fresh a e he; omega }
  size := by simp
  pres := fun b hb _ => by simp [Array.getElem?_push, Nat.ne_of_lt hb]
  img := fun a e ha he hb => by
    by_cases hax : a = A.nx
    · subst hax
      rw [Sg.set_same] at he; cases he
      simp at hb
    · rw [Sg.set_other _ _ hax] at he
      rw [AW.get_new_other _ _ hax] at ha
      exact ⟨a, e, ha, he, rfl⟩
  olds := rfl
  nx := by simp [AW.new, Ix.toNat_succ]
  dom := fun a e he => by
    by_cases hax : a = A.nx
    · subst hax; right; exact Nat.le_refl _
    · rw [Sg.set_other _ _ hax] at he; exact .inl he
  cdom := fun a ha => by
    by_cases hax : a = A.nx
    · subst hax; right; exact Nat.le_refl _
    · simp only [AW.new, Tr.get_set_other _ _ _ _ hax] at ha; exact .inl ha
  keepA := fun a m b l hlt ha => by
    rw [AW.get_new_other _ _ (fun e => by rw [e] at hlt; exact Nat.lt_irrefl _ hlt)] at ha; exact ha
  keepH := fun a m b l e hlt ha he => by
    rw [AW.get_new_other _ _ (fun e => by rw [e] at hlt; exact Nat.lt_irrefl _ hlt)] at ha
    have := h.lt (by rw [ha]; rfl) he
    simp [Array.getElem?_push, Nat.ne_of_lt this]
  ro := fun a l et e ha he => by
    have hlt := h.lt (by rw [ha]; rfl) he
    have hne : a ≠ A.nx := fun q => by rw [q, h.none_nx] at he; cases he
    exact ⟨by rw [AW.get_new_other _ _ hne]; exact ha, by simp [Array.getElem?_push, Nat.ne_of_lt hlt]⟩
  io := ⟨rfl, rfl⟩

/-- an object turned -/
theorem Step.put {σ : Sg} {A A' : AW} {W : World} (h : WRel P σ A W) {a : Ix} {o : AO} {e : Ent} (hp : A.put a o = some A') (he : σ a = some e) (ob : Obj) (drawn : Nat)
    (ho : OR P σ e ob o) (hm : ∀ m b l, o ≠ .mitR m b l := by simp) (hro : ∀ l et, A.get a ≠ some (.cells l et false true) := by intro l et hcon; simp_all) : Step P σ A W σ A' { W with heap := W.heap.setIfInBounds e.blk ob, drawn := drawn } := by
  obtain ⟨h1, h2, h3, h4, h5⟩ := AW.put_some hp
  have hlt := h.lt h1 he
  have hs : ∀ b, (A'.get b).isSome = true → (A.get b).isSome = true := fun b hb => by
    by_cases hba : b = a
    · rw [hba]; exact h1
    · rw [← h3 b hba]; exact hb
  exact {
    le := .refl σ
    rel := {
      obj := fun b o' hb => by
        by_cases hba : b = a
        · subst hba; rw [h2] at hb; cases hb
          exact ⟨e, ob, he, by simp [hlt], ho⟩
        · rw [h3 b hba] at hb
          obtain ⟨f, ob', g1, g2, g3⟩ := h.obj b o' hb
          refine ⟨f, ob', g1, ?_, g3⟩
          have := h.inj b a f e (by rw [hb]; rfl) h1 g1 he hba
          simp [Ne.symm this, g2]
      inj := fun b c f g hb hc hf hg hbc => h.inj b c f g (hs b hb) (hs c hc) hf hg hbc
      fresh := fun b f hf => by rw [h5]; exact h.fresh b f hf }
    size := by simp
    pres := fun b hb hn => by
      have := hn a e h1 he
      simp [this]
    img := fun b f hb hf _ => ⟨b, f, hs b hb, hf, rfl⟩
    olds := h4
    nx := by rw [h5]; exact Nat.le_refl _
    dom := fun _ _ h => .inl h
    cdom := fun b hb => by
      simp only [AW.put] at hp
      split at hp
      · rename_i o' ho'
        cases hp
        by_cases hba : b = a
        · subst hba; left; rw [ho']; rfl
        · simp only [Tr.get_set_other _ _ _ _ hba] at hb; exact .inl hb
      · cases hp
    keepA := fun b m k l _ hb => by
      by_cases hba : b = a
      · subst hba; rw [h2] at hb; cases hb; exact absurd rfl (hm _ _ _)
      · rw [← h3 b hba]; exact hb
    keepH := fun b m k l f _ hb hf => by
      by_cases hba : b = a
      · subst hba; rw [h2] at hb; cases hb; exact absurd rfl (hm _ _ _)
      · rw [h3 b hba] at hb
        have := h.inj b a f e (by rw [hb]; rfl) h1 hf he hba
        simp [Ne.symm this]
    ro := fun b l et f hb hf => by
      have hba : b ≠ a := fun q => by rw [q] at hb; exact hro l et hb
      have := h.inj b a f e (by rw [hb]; rfl) h1 hf he hba
      exact ⟨by rw [h3 b hba]; exact hb, by simp [Ne.symm this]⟩
    io := ⟨rfl, rfl⟩ }

theorem Step.drop {σ : Sg} {A A' : AW} {W : World} (h : WRel P σ A W) {a : Ix} (hp : A.drop a = some A') (hro : ∀ l et, A.get a ≠ some (.cells l et false true) := by intro l et hcon; simp_all) : Step P σ A W σ A' W := by
  obtain ⟨_, h2, h3, h4, h5⟩ := AW.drop_some hp
  have hs : ∀ b, (A'.get b).isSome = true → b ≠ a ∧ A'.get b = A.get b := fun b hb => by
    by_cases hba : b = a
    · subst hba; rw [h2] at hb; cases hb
    · exact ⟨hba, h3 b hba⟩
  exact {
    le := .refl σ
    rel := {
      obj := fun b o' hb => by
        have := (hs b (by rw [hb]; rfl)).2
        rw [this] at hb; exact h.obj b o' hb
      inj := fun b c f g hb hc hf hg hbc => h.inj b c f g (by rw [← (hs b hb).2]; exact hb) (by rw [← (hs c hc).2]; exact hc) hf hg hbc
      fresh := fun b f hf => by rw [h5]; exact h.fresh b f hf }
    size := Nat.le_refl _
    pres := fun _ _ _ => rfl
    img := fun b f hb hf _ => ⟨b, f, by rw [← (hs b hb).2]; exact hb, hf, rfl⟩
    olds := h4
    nx := by rw [h5]; exact Nat.le_refl _
    dom := fun _ _ h => .inl h
    cdom := fun b hb => .inl (AW.drop_cur hp hb)
    keepA := fun b m k l _ hb => by rw [← (hs b (by rw [hb]; rfl)).2]; exact hb
    keepH := fun _ _ _ _ _ _ _ _ => rfl
    ro := fun b l et f hb hf => by
      have hba : b ≠ a := fun q => by rw [q] at hb; exact hro l et hb
      exact ⟨by rw [h3 b hba]; exact hb, rfl⟩
    io := ⟨rfl, rfl⟩ }

/-- an object goes on under a new name -/
theorem Step.move {σ : Sg} {A A1 : AW} {W : World} (h : WRel P σ A W) {a : Ix} {e : Ent} (hp : A.drop a = some A1) (he : σ a = some e) (o : AO) (ob : Obj) (sh tot : Nat) (drawn : Nat)
    (ho : ∀ τ, σ.le τ → OR P τ ⟨e.blk, sh, tot⟩ ob o) (hro : ∀ l et, A.get a ≠ some (.cells l et false true) := by intro l et hcon; simp_all) :
    Step P σ A W (σ.set A1.nx ⟨e.blk, sh, tot⟩) (A1.new o) { W with heap := W.heap.setIfInBounds e.blk ob, drawn := drawn } := by
  obtain ⟨h1, h2, h3, h4, h5⟩ := AW.drop_some hp
  have hn : σ A1.nx = none := by rw [h5]; exact h.none_nx
  have hlt := h.lt h1 he
  have hs : ∀ b, b ≠ A1.nx → ((A1.new o).get b).isSome = true → b ≠ a ∧ (A1.new o).get b = A.get b := fun b hbx hb => by
    rw [AW.get_new_other _ _ hbx] at hb ⊢
    by_cases hba : b = a
    · subst hba; rw [h2] at hb; cases hb
    · exact ⟨hba, h3 b hba⟩
  exact {
    le := Sg.le_set hn
    rel := {
      obj := fun b o' hb => by
        by_cases hbx : b = A1.nx
        · subst hbx
          rw [AW.get_new_same] at hb; cases hb
          exact ⟨_, ob, Sg.set_same _ _ _, by simp [hlt], ho _ (Sg.le_set hn)⟩
        · obtain ⟨hba, hg⟩ := hs b hbx (by rw [hb]; rfl)
          rw [hg] at hb
          obtain ⟨f, ob', g1, g2, g3⟩ := h.obj b o' hb
          refine ⟨f, ob', by rw [Sg.set_other _ _ hbx]; exact g1, ?_, g3.mono (Sg.le_set hn)⟩
          have := h.inj b a f e (by rw [hb]; rfl) h1 g1 he hba
          simp [Ne.symm this, g2]
      inj := fun b c f g hb hc hf hg hbc => by
        by_cases hbx : b = A1.nx
        · subst hbx
          rw [Sg.set_same] at hf; cases hf
          have hcx : c ≠ A1.nx := fun e => hbc e.symm
          obtain ⟨hca, hgc⟩ := hs c hcx hc
          rw [Sg.set_other _ _ hcx] at hg
          rw [hgc] at hc
          exact Ne.symm (h.inj c a g e hc h1 hg he hca)
        · obtain ⟨hba, hgb⟩ := hs b hbx hb
          rw [Sg.set_other _ _ hbx] at hf
          rw [hgb] at hb
          by_cases hcx : c = A1.nx
          · subst hcx
            rw [Sg.set_same] at hg; cases hg
            exact h.inj b a f e hb h1 hf he hba
          · obtain ⟨hca, hgc⟩ := hs c hcx hc
            rw [Sg.set_other _ _ hcx] at hg
            rw [hgc] at hc
            exact h.inj b c f g hb hc hf hg hbc
      fresh := fun b f hf => by
        simp only [AW.new, Ix.toNat_succ]
        by_cases hbx : b = A1.nx
        · subst hbx; omega
        · rw [Sg.set_other _ _ hbx] at hf
          have := h.fresh b f hf; rw [h5]; omega }
    size := by simp
    pres := fun b hb hn => by
      have := hn a e h1 he
      simp [this]
    img := fun b f hb hf hlt' => by
      by_cases hbx : b = A1.nx
      · subst hbx
        rw [Sg.set_same] at hf; cases hf
        exact ⟨a, e, h1, he, rfl⟩
      · rw [Sg.set_other _ _ hbx] at hf
        obtain ⟨_, hg⟩ := hs b hbx hb
        rw [hg] at hb
        exact ⟨b, f, hb, hf, rfl⟩
    olds := h4
    nx := by simp [AW.new, Ix.toNat_succ, h5]
    dom := fun b f hf => by
      by_cases hbx : b = A1.nx
      · subst hbx; right; rw [h5]; exact Nat.le_refl _
      · rw [Sg.set_other _ _ hbx] at hf; exact .inl hf
    cdom := fun b hb => by
      by_cases hbx : b = A1.nx
      · subst hbx; right; rw [h5]; exact Nat.le_refl _
      · simp only [AW.new, Tr.get_set_other _ _ _ _ hbx] at hb; exact .inl (AW.drop_cur hp hb)
    keepA := fun b m k l hlt hb => by
      have hbx : b ≠ A1.nx := fun e => by rw [e, h5] at hlt; exact Nat.lt_irrefl _ hlt
      rw [← (hs b hbx (by rw [hb]; rfl)).2]; exact hb
    keepH := fun b m k l f hlt hb hf => by
      have hbx : b ≠ A1.nx := fun e => by rw [e, h5] at hlt; exact Nat.lt_irrefl _ hlt
      obtain ⟨hba, hg⟩ := hs b hbx (by rw [hb]; rfl)
      rw [hg] at hb
      have := h.inj b a f e (by rw [hb]; rfl) h1 hf he hba
      simp [Ne.symm this]
    ro := fun b l et f hb hf => by
      have hba : b ≠ a := fun q => by rw [q] at hb; exact hro l et hb
      have hbx : b ≠ A1.nx := fun q => by rw [q, hn] at hf; cases hf
      have := h.inj b a f e (by rw [hb]; rfl) h1 hf he hba
      exact ⟨by rw [AW.get_new_other _ _ hbx, h3 b hba]; exact hb, by simp [Ne.symm this]⟩
    io := ⟨rfl, rfl⟩ }
end Go.AE
namespace Go.AE
variable {P : Program}
/-- the variables' objects bear the variables' blocks -/
def GRel (P : Program) (σ : Sg) : Prop := ∀ g, g < P.globals.size → ∃ e, σ (gIx g) = some e ∧ e.blk = g ∧ e.sh = 0
theorem GRel.mono {σ τ : Sg} (h : σ.le τ) (hG : GRel P σ) : GRel P τ := fun g hg => let ⟨e, h1, h2⟩ := hG g hg; ⟨e, h _ _ h1, h2⟩

mutual
theorem absV_rel (σ : Sg) : ∀ (n : Nat) (v : Value) (x : AV), absV n v = some x → VRel σ x v
  | 0, _, _, h => by simp [absV] at h
  | n + 1, v, x, h => by
    unfold absV at h
    split at h
    · cases h; simp [VRel]
    · cases h; simp [VRel]
    · cases h; simp [VRel]
    · cases h; simp [VRel]
    · cases h; simp [VRel]
    · cases h; simp [VRel]
    · cases h; simp [VRel]
    · rename_i f first captured
      split at h
      · rename_i a b ha hb
        cases h
        simp only [VRel]
        exact ⟨first, captured, rfl, absVs_rel σ n _ _ ha, absVs_rel σ n _ _ hb⟩
      · cases h
    · rename_i t y
      simp only [Option.map_eq_some_iff] at h
      obtain ⟨z, hz, rfl⟩ := h
      simp only [VRel]; exact ⟨y, rfl, absV_rel σ n _ _ hz⟩
    · cases h; simp [VRel]
    · rename_i cs
      simp only [Option.map_eq_some_iff] at h
      obtain ⟨z, hz, rfl⟩ := h
      simp only [VRel]; exact ⟨cs, rfl, absVs_rel σ n _ _ hz⟩
    · rename_i vs
      split at h
      · rename_i he
        cases h
        simp only [VRel]
      · simp only [Option.map_eq_some_iff] at h
        obtain ⟨z, hz, rfl⟩ := h
        simp only [VRel]; exact ⟨vs, rfl, absVs_rel σ n _ _ hz⟩
    · cases h
theorem absVs_rel (σ : Sg) : ∀ (n : Nat) (vs : List Value) (xs : List AV), vs.mapM (absV n) = some xs → VRels σ xs vs
  | n, [], xs, h => by simp at h; subst h; exact VRels.nil
  | n, v :: vs, xs, h => by
    simp only [List.mapM_cons, Option.bind_eq_bind, Option.bind_eq_some_iff, Option.pure_def, Option.some.injEq] at h
    obtain ⟨b, hb, bs, hbs, rfl⟩ := h
    exact VRels.cons (absV_rel σ n v b hb) (absVs_rel σ n vs bs hbs)
end

section
variable {σ : Sg} {T : TM} {a : Act}
theorem ev_t (p : Ix) : (Arg.t p).ev T = T.at_ p := rfl
theorem arg_rel (hT : TRel σ T a.tmps) (hG : GRel P σ) {x : Operand} {y : Arg} (h : argOf P x = some y) : VRel σ (y.ev T) (a.eval x) := by
  cases x with
  | tmp t => simp only [argOf, Option.some.injEq] at h; subst h; rw [ev_t]; exact hT t
  | const v =>
    simp only [argOf, Option.map_eq_some_iff] at h
    obtain ⟨z, hz, rfl⟩ := h
    exact absV_rel σ 4 v z hz
  | global g =>
    simp only [argOf, Option.ite_none_right_eq_some, Option.some.injEq] at h
    obtain ⟨hx, rfl⟩ := h
    obtain ⟨e, h1, h2, h3⟩ := hG g hx
    simp only [Arg.ev, VRel, Act.eval]
    exact ⟨e, h1, by rw [h2, h3]⟩
  | func f => simp only [argOf, Option.some.injEq] at h; subst h; simp only [Arg.ev, VRel, Act.eval]; exact ⟨#[], #[], rfl, VRels.nil, VRels.nil⟩
end
end Go.AE
namespace Go.AE
variable {P : Program}
/-- an operation comes out as the evaluator says -/
def Res (P : Program) (σ : Sg) (A : AW) (W : World) (r : Result Next) (v : AV) (A' : AW) : Prop :=
  ∃ σ' cv W', (r = .ok (.value cv) W' ∨ (r = .ok .skip W' ∧ cv = undef)) ∧ VRel σ' v cv ∧ Step P σ A W σ' A' W'
/-- a part of an operation that yields a value -/
def ResV (P : Program) (σ : Sg) (A : AW) (W : World) (r : Result Value) (v : AV) (A' : AW) : Prop :=
  ∃ σ' cv W', r = .ok cv W' ∧ VRel σ' v cv ∧ Step P σ A W σ' A' W'
theorem ResV.here {σ : Sg} {A : AW} {W : World} (h : WRel P σ A W) {v : AV} {cv : Value} (hv : VRel σ v cv) : ResV P σ A W (.ok cv W) v A :=
  ⟨σ, cv, W, rfl, hv, .refl h⟩
theorem ResV.value {σ : Sg} {A A' : AW} {W : World} {s : Sem Value} {v : AV} (h : ResV P σ A W (s.run P W) v A') :
    Res P σ A W ((do Pure.pure (Next.value (← s)) : Sem Next).run P W) v A' := by
  obtain ⟨σ', cv, W', h1, h2, h3⟩ := h
  exact ⟨σ', cv, W', .inl (by simp [h1]), h2, h3⟩
theorem Res.unit {σ : Sg} {A A' : AW} {W : World} {s : Sem Unit} {σ' : Sg} {W' : World} (h : s.run P W = .ok () W') (h' : Step P σ A W σ' A' W') :
    Res P σ A W ((do s; Pure.pure Next.skip : Sem Next).run P W) .undef A' :=
  ⟨σ', undef, W', .inr ⟨by simp [h], rfl⟩, by simp [VRel], h'⟩

section facts
/-- cells of a value -/
theorem VRel.cells {σ : Sg} : ∀ {x : AV} {v : Value}, VRel σ x v → x.isU = false → VRels σ x.cells v.cells.toList
  | .agg l, v, h, _ => by simp only [VRel] at h; obtain ⟨cs, rfl, h⟩ := h; exact h
  | .undef, v, _, hu => by simp [AV.isU] at hu
  | .bool _, v, h, _ => by have h' := h; simp only [VRel] at h; subst h; exact VRels.cons h' VRels.nil
  | .int _ _, v, h, _ => by have h' := h; simp only [VRel] at h; subst h; exact VRels.cons h' VRels.nil
  | .str _, v, h, _ => by have h' := h; simp only [VRel] at h; obtain ⟨s, rfl, _⟩ := h; exact VRels.cons h' VRels.nil
  | .ptr _ _, v, h, _ => by have h' := h; simp only [VRel] at h; obtain ⟨e, _, rfl⟩ := h; exact VRels.cons h' VRels.nil
  | .nilptr, v, h, _ => by have h' := h; simp only [VRel] at h; subst h; exact VRels.cons h' VRels.nil
  | .slice _ _ _ (.k _), v, h, _ => by have h' := h; simp only [VRel] at h; obtain ⟨e, _, rfl⟩ := h; exact VRels.cons h' VRels.nil
  | .slice _ _ _ (.g _), v, h, _ => by have h' := h; simp only [VRel] at h; obtain ⟨e, c, _, rfl, _⟩ := h; exact VRels.cons h' VRels.nil
  | .zslice, v, h, _ => by have h' := h; simp only [VRel] at h; obtain ⟨a, c, rfl⟩ := h; exact VRels.cons h' VRels.nil
  | .nilslice, v, h, _ => by have h' := h; simp only [VRel] at h; subst h; exact VRels.cons h' VRels.nil
  | .map _, v, h, _ => by have h' := h; simp only [VRel] at h; obtain ⟨e, _, rfl⟩ := h; exact VRels.cons h' VRels.nil
  | .nilmap, v, h, _ => by have h' := h; simp only [VRel] at h; subst h; exact VRels.cons h' VRels.nil
  | .func _ _ _, v, h, _ => by have h' := h; simp only [VRel] at h; obtain ⟨cs, ds, rfl, _⟩ := h; exact VRels.cons h' VRels.nil
  | .yield _, v, h, _ => by have h' := h; simp only [VRel] at h; obtain ⟨e, _, rfl⟩ := h; exact VRels.cons h' VRels.nil
  | .nilfunc, v, h, _ => by have h' := h; simp only [VRel] at h; subst h; exact VRels.cons h' VRels.nil
  | .iface _ _, v, h, _ => by have h' := h; simp only [VRel] at h; obtain ⟨y, rfl, _⟩ := h; exact VRels.cons h' VRels.nil
  | .niliface, v, h, _ => by have h' := h; simp only [VRel] at h; subst h; exact VRels.cons h' VRels.nil
  | .tup _, v, h, _ => by have h' := h; simp only [VRel] at h; obtain ⟨cs, rfl, _⟩ := h; exact VRels.cons h' VRels.nil
  | .cls _ _, v, h, _ => by have h' := h; simp only [VRel] at h; obtain ⟨n, rfl, _⟩ := h; exact VRels.cons h' VRels.nil
theorem VRel.one {σ : Sg} : ∀ {x : AV} {v : Value}, VRel σ x v → x.one = true → v.oneCell' = true ∧ v.cells = #[v]
  | .agg l, v, h, ho => by simp [AV.one] at ho
  | .tup l, v, h, ho => by simp [AV.one] at ho
  | .undef, v, h, ho => by simp [AV.one] at ho
  | .bool _, v, h, _ => by simp only [VRel] at h; subst h; exact ⟨rfl, rfl⟩
  | .int _ _, v, h, _ => by simp only [VRel] at h; subst h; exact ⟨rfl, rfl⟩
  | .str _, v, h, _ => by simp only [VRel] at h; obtain ⟨s, rfl, _⟩ := h; exact ⟨rfl, rfl⟩
  | .ptr _ _, v, h, _ => by simp only [VRel] at h; obtain ⟨e, _, rfl⟩ := h; exact ⟨rfl, rfl⟩
  | .nilptr, v, h, _ => by simp only [VRel] at h; subst h; exact ⟨rfl, rfl⟩
  | .slice _ _ _ (.k _), v, h, _ => by simp only [VRel] at h; obtain ⟨e, _, rfl⟩ := h; exact ⟨rfl, rfl⟩
  | .slice _ _ _ (.g _), v, h, _ => by simp only [VRel] at h; obtain ⟨e, c, _, rfl, _⟩ := h; exact ⟨rfl, rfl⟩
  | .zslice, v, h, _ => by simp only [VRel] at h; obtain ⟨a, c, rfl⟩ := h; exact ⟨rfl, rfl⟩
  | .nilslice, v, h, _ => by simp only [VRel] at h; subst h; exact ⟨rfl, rfl⟩
  | .map _, v, h, _ => by simp only [VRel] at h; obtain ⟨e, _, rfl⟩ := h; exact ⟨rfl, rfl⟩
  | .nilmap, v, h, _ => by simp only [VRel] at h; subst h; exact ⟨rfl, rfl⟩
  | .func _ _ _, v, h, _ => by simp only [VRel] at h; obtain ⟨cs, ds, rfl, _⟩ := h; exact ⟨rfl, rfl⟩
  | .yield _, v, h, _ => by simp only [VRel] at h; obtain ⟨e, _, rfl⟩ := h; exact ⟨rfl, rfl⟩
  | .nilfunc, v, h, _ => by simp only [VRel] at h; subst h; exact ⟨rfl, rfl⟩
  | .iface _ _, v, h, _ => by simp only [VRel] at h; obtain ⟨y, rfl, _⟩ := h; exact ⟨rfl, rfl⟩
  | .niliface, v, h, _ => by simp only [VRel] at h; subst h; exact ⟨rfl, rfl⟩
  | .cls _ _, v, h, _ => by simp only [VRel] at h; obtain ⟨n, rfl, _⟩ := h; exact ⟨rfl, rfl⟩
theorem underlying_run {t : TypeId} {d : TypeDesc} (h : P.underlying t = some d) (w : World) : (underlying t).run P w = .ok d w := by
  simp [underlying, h]
theorem zeroValue_run {σ : Sg} {t : TypeId} {z : AV} (h : zeroOf P t = some z) (w : World) : ∃ v, (zeroValue t).run P w = .ok v w ∧ VRel σ z v := by
  obtain ⟨_, i, v, hi, hz, ha⟩ := zeroOf_spec h
  exact ⟨v, by simp [zeroValue, typeInfo, hi, hz], absV_rel σ 4 v z ha⟩
theorem isAgg_run {t : TypeId} {b : Bool} (h : isAggT P t = some b) (w : World) : (isAgg t).run P w = .ok b w := by
  unfold isAggT at h
  split at h
  · rename_i fs hu; cases h; simp [isAgg, underlying, hu]
  · rename_i n e hu; cases h; simp [isAgg, underlying, hu]
  · rename_i d h1 h2 hu
    cases h
    unfold isAgg
    rw [Sem.run_bind, underlying_run hu]
    cases d <;> first | rfl | exact absurd rfl (h1 _) | exact absurd rfl (h2 _ _)
  · cases h
theorem sizeOf_run {t : TypeId} {n : Nat} (h : sizeT P t = some n) (w : World) : (sizeOf t).run P w = .ok n w := by
  simp only [sizeT, Option.map_eq_some_iff] at h
  obtain ⟨i, hi, hn⟩ := h
  simp [sizeOf, typeInfo, hi, hn]
end facts

section world
variable {σ : Sg} {A : AW} {W : World}
theorem Addr.add_none (b o n : Nat) : (Addr.mk b o none).add n = ⟨b, o + n, none⟩ := by
  unfold Addr.add; split
  · rename_i h; subst h; rfl
  · rfl
/-- a cell of an object -/
theorem cell_of {a : Ix} {l : List AV} {et : Nat} {g z : Bool} {e : Ent} (h : WRel P σ A W) (ha : A.get a = some (.cells l et g z)) (he : σ a = some e) {o : Nat} {x : AV} (hx : l[o]? = some x) :
    ∃ v, W.cell? ⟨e.blk, e.sh + o, none⟩ = some v ∧ VRel σ x v := by
  obtain ⟨f, ob, hf, hb, c, fz, rfl, h1, h2, _⟩ := h.obj a _ ha
  rw [he] at hf; cases hf
  obtain ⟨v, hv, hr⟩ := VRels.get h2 hx
  refine ⟨v, ?_, hr⟩
  simp only [World.cell?, hb, Option.isSome_none, Bool.false_eq_true, if_false]
  rw [List.getElem?_take, List.getElem?_drop] at hv
  split at hv
  · simpa using hv
  · cases hv
theorem loadCellsFrom_run {b o : Nat} : ∀ (n i : Nat) (vs : List Value) (acc : Array Value), vs.length = n → (∀ k v, vs[k]? = some v → W.cell? ⟨b, o + i + k, none⟩ = some v) →
    (loadCellsFrom ⟨b, o, none⟩ i n acc).run P W = .ok (acc ++ vs.toArray) W
  | 0, i, vs, acc, hl, _ => by
    obtain rfl : vs = [] := List.length_eq_zero_iff.1 hl
    simp [loadCellsFrom]
  | n + 1, i, [], acc, hl, _ => by simp at hl
  | n + 1, i, v :: vs, acc, hl, h => by
    have h0 := h 0 v rfl
    simp only [loadCellsFrom, Sem.run_bind, Addr.add_none, run_load]
    simp only [Nat.add_zero] at h0
    rw [h0]
    simp only [Result.andThen_ok]
    rw [loadCellsFrom_run n (i + 1) vs (acc.push v) (by simpa using hl) (fun k u hk => by
      have := h (k + 1) u (by simpa using hk)
      rw [show o + (i + 1) + k = o + i + (k + 1) by omega]; exact this)]
    simp
/-- several cells of an object -/
theorem cells_of {a : Ix} {l : List AV} {et : Nat} {g z : Bool} {e : Ent} (h : WRel P σ A W) (ha : A.get a = some (.cells l et g z)) (he : σ a = some e) {o n : Nat} {xs : List AV}
    (hx : takeN n (listDrop o l) = some xs) : ∃ vs, (loadCells ⟨e.blk, e.sh + o, none⟩ n).run P W = .ok vs W ∧ VRels σ xs vs.toList ∧ vs.size = n := by
  rw [listDrop_eq] at hx
  obtain ⟨hn, rfl⟩ := takeN_some hx
  obtain ⟨f, ob, hf, hb, c, fz, rfl, h1, h2, _⟩ := h.obj a _ ha
  rw [he] at hf; cases hf
  have h3 := (h2.drop o).take n
  have hlen := h3.length
  refine ⟨(((List.drop o (List.take l.length (List.drop e.sh c.toList)))).take n).toArray, ?_, h3, ?_⟩
  · rw [loadCells, loadCellsFrom_run n 0 (((List.drop o (List.take l.length (List.drop e.sh c.toList)))).take n) #[] (by rw [← hlen]; simp; simp at hn; omega)]
    · simp
    · intro k v hk
      rw [List.getElem?_take] at hk
      split at hk
      · rw [List.getElem?_drop, List.getElem?_take] at hk
        split at hk
        · rw [List.getElem?_drop] at hk
          simp only [World.cell?, hb, Option.isSome_none, Bool.false_eq_true, if_false]
          rw [show e.sh + o + 0 + k = e.sh + (o + k) by omega]
          simpa using hk
        · cases hk
      · cases hk
  · simp only [List.size_toArray]; rw [← hlen]; simp; simp at hn; omega
end world
end Go.AE
