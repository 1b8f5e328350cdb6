import Derived.Test.YtgnebdiembekpaaGreatDoorA12
import Derived.Laws.StructEq
/- Part of the proof: the abstract evaluator, its soundness, its runs: AeOp9, AeOp10, AeOp11, AeOp12, AeOp13, AeOp14, AeOp15, AeOp16, AeOp17 -/
set_option linter.unusedSectionVars false
set_option linter.unusedSimpArgs false
set_option linter.unusedVariables false
set_option linter.unnecessarySimpa false
namespace Go.AE
variable {P : Program} {σ : Sg} {A : AW} {W : World}
theorem cellsEq_app : ∀ {k1 k2 : List EqK} {x1 x2 y1 y2 : List AV} {r : Bool}, cellsEq (k1 ++ k2) (x1 ++ x2) (y1 ++ y2) = some r → x1.length = k1.length → y1.length = k1.length →
    ∃ r1, cellsEq k1 x1 y1 = some r1 ∧ (r1 = true → cellsEq k2 x2 y2 = some r) ∧ (r1 = false → r = false)
  | [], k2, [], x2, [], y2, r, h, _, _ => ⟨true, rfl, (fun _ => h), (fun h => by cases h)⟩
  | k :: k1, k2, a :: x1, x2, b :: y1, y2, r, h, hx, hy => by
    simp only [List.cons_append, cellsEq] at h ⊢
    simp only [List.length_cons, Nat.add_right_cancel_iff] at hx hy
    cases hc : cellEq k a b with
    | none => rw [hc] at h; cases h
    | some c =>
      rw [hc] at h
      cases c with
      | true =>
        exact cellsEq_app (k1 := k1) (x1 := x1) (y1 := y1) h hx hy
      | false =>
        simp only at h ⊢
        split at h
        · cases h
          rw [if_pos ⟨hx, hy⟩]
          exact ⟨false, rfl, (fun h => by cases h), (fun _ => rfl)⟩
        · cases h
  | [], _, _ :: _, _, _, _, _, _, hx, _ => by simp at hx
  | [], _, [], _, _ :: _, _, _, _, _, hy => by simp at hy
  | _ :: _, _, [], _, _, _, _, _, hx, _ => by simp at hx
  | _ :: _, _, _ :: _, _, [], _, _, _, _, hy => by simp at hy
theorem cellsEq_len : ∀ {ks : List EqK} {x y : List AV} {r : Bool}, cellsEq ks x y = some r → x.length = ks.length ∧ y.length = ks.length
  | [], [], [], _, _ => ⟨rfl, rfl⟩
  | k :: ks, a :: x, b :: y, r, h => by
    simp only [cellsEq] at h
    cases hc : cellEq k a b with
    | none => rw [hc] at h; cases h
    | some c =>
      rw [hc] at h
      cases c with
      | true => have := cellsEq_len h; simp [this.1, this.2]
      | false =>
        simp only at h
        split at h
        · rename_i hl; simp [hl.1, hl.2]
        · cases h
  | [], _ :: _, _, _, h => by simp [cellsEq] at h
  | [], [], _ :: _, _, h => by simp [cellsEq] at h
  | _ :: _, [], _, _, h => by simp [cellsEq] at h
  | _ :: _, _ :: _, [], _, h => by simp [cellsEq] at h
/-- a value of a type, by its cells -/
def VT (P : Program) (σ : Sg) (t : TypeId) (xs : List AV) (v : Value) : Prop :=
  match P.underlying t with
  | some (.struct _) => ∃ cs, v = .agg cs ∧ VRels σ xs cs.toList
  | _ => ∃ x, xs = [x] ∧ VRel σ x v
theorem part_VT {t : TypeId} {ks : List EqK} {n : Nat} (hp : plainT P n t = some ks) {cs : Array Value} {xs : List AV} {off : Nat} (h : VRels σ xs cs.toList) (hl : off + ks.length ≤ xs.length) (w : World) :
    ∃ v, (part t cs off).run P w = .ok v w ∧ VT P σ t ((xs.drop off).take ks.length) v := by
  cases n with
  | zero => simp [plainT] at hp
  | succ n =>
    have hone : ∀ (td : TypeDesc), P.underlying t = some td → (∀ fs, td ≠ .struct fs) → (∀ n e, td ≠ .array n e) → ks.length = 1 →
        ∃ v, (part t cs off).run P w = .ok v w ∧ VT P σ t ((xs.drop off).take ks.length) v := by
      intro td hu h1 h2 hk
      have ha : isAggT P t = some false := by
        unfold isAggT; rw [hu]
        cases td <;> first | rfl | exact absurd rfl (h1 _) | exact absurd rfl (h2 _ _)
      rw [hk] at hl ⊢
      have hlt : off < xs.length := by omega
      obtain ⟨v, hv, hr⟩ := VRels.get h (List.getElem?_eq_getElem hlt)
      refine ⟨v, part_one ha hv w, ?_⟩
      have h3 : List.take 1 (List.drop off xs) = [xs[off]] := by rw [List.drop_eq_getElem_cons hlt]; rfl
      unfold VT
      rw [hu, h3]
      cases td <;> first | exact absurd rfl (h1 _) | exact ⟨xs[off], rfl, hr⟩
    simp only [plainT] at hp
    cases hu : P.underlying t with
    | none => rw [hu] at hp; cases hp
    | some td =>
      rw [hu] at hp
      cases td <;> simp only at hp <;> first | (cases hp; done) | skip
      case bool => cases hp; exact hone _ hu (by simp) (by simp) rfl
      case int k => cases hp; exact hone _ hu (by simp) (by simp) rfl
      case string => cases hp; exact hone _ hu (by simp) (by simp) rfl
      case struct fs =>
        split at hp
        · cases hp
        · split at hp
          · rename_i ks' hks
            split at hp
            · rename_i hsz
              cases hp
              have ha : isAggT P t = some true := by unfold isAggT; rw [hu]
              refine ⟨_, part_agg ha hsz cs off w, ?_⟩
              unfold VT; rw [hu]
              refine ⟨_, rfl, ?_⟩
              have := (h.drop off).take ks.length
              simpa [List.extract] using this
            · cases hp
          · cases hp
theorem plainFs_pre {g : TypeId → Option (List EqK)} : ∀ {fs : List Field} {acc ks : List EqK}, plainFs g fs acc = some ks → ∃ more, ks = acc ++ more
  | [], acc, ks, h => by simp [plainFs] at h; exact ⟨[], by simp [h]⟩
  | f :: fs, acc, ks, h => by
    simp only [plainFs] at h
    split at h
    · cases h
    · split at h
      · rename_i k hk
        obtain ⟨more, hm⟩ := plainFs_pre h
        exact ⟨k ++ more, by rw [hm, List.append_assoc]⟩
      · cases h
theorem plainT_ok : ∀ (n : Nat) (t : TypeId) (ks : List EqK), plainT P n t = some ks → ∀ (d : Nat) (xs ys : List AV) (va vb : Value) (r : Bool) (w : World), n ≤ d →
    VT P σ t xs va → VT P σ t ys vb → cellsEq ks xs ys = some r → (Op.equalIn d t va vb).run P w = .ok r w
  | 0, t, ks, hp, _, _, _, _, _, _, _, _, _, _, _ => by simp [plainT] at hp
  | n + 1, t, ks, hp, d, xs, ys, va, vb, r, w, hd, hx, hy, h => by
    obtain ⟨d', rfl⟩ : ∃ d', d = d' + 1 := ⟨d - 1, by omega⟩
    have hone : ∀ (td : TypeDesc) (k : EqK), P.underlying t = some td → (∀ fs, td ≠ .struct fs) → ks = [k] → ∃ x y, xs = [x] ∧ ys = [y] ∧ VRel σ x va ∧ VRel σ y vb ∧ cellEq k x y = some r := by
      intro td k hu h1 hk
      subst hk
      unfold VT at hx hy
      rw [hu] at hx hy
      have hx' : ∃ x, xs = [x] ∧ VRel σ x va := by cases td <;> first | exact absurd rfl (h1 _) | exact hx
      have hy' : ∃ x, ys = [x] ∧ VRel σ x vb := by cases td <;> first | exact absurd rfl (h1 _) | exact hy
      obtain ⟨x, rfl, hx2⟩ := hx'
      obtain ⟨y, rfl, hy2⟩ := hy'
      simp only [cellsEq] at h
      refine ⟨x, y, rfl, rfl, hx2, hy2, ?_⟩
      cases hc : cellEq k x y with
      | none => rw [hc] at h; cases h
      | some c => rw [hc] at h; cases c <;> simp at h <;> rw [h]
    simp only [plainT] at hp
    cases hu : P.underlying t with
    | none => rw [hu] at hp; cases hp
    | some td =>
      rw [hu] at hp
      cases td <;> simp only at hp <;> first | (cases hp; done) | skip
      case bool =>
        cases hp
        obtain ⟨x, y, rfl, rfl, h1, h2, h3⟩ := hone _ .b hu (by simp) rfl
        cases x <;> cases y <;> simp only [cellEq] at h3 <;> first | (cases h3; done) | skip
        cases h3; simp only [VRel] at h1 h2; subst h1 h2; exact eq_bool w hu _ _
      case int k =>
        cases hp
        obtain ⟨x, y, rfl, rfl, h1, h2, h3⟩ := hone _ .i hu (by simp) rfl
        cases x <;> cases y <;> simp only [cellEq] at h3 <;> first | (cases h3; done) | skip
        split at h3
        · rename_i hk; subst hk
          cases h3; simp only [VRel] at h1 h2; subst h1 h2; exact run_equalIn_int w d' t _ _ _ _ hu
        · cases h3
      case string =>
        cases hp
        obtain ⟨x, y, rfl, rfl, h1, h2, h3⟩ := hone _ .s hu (by simp) rfl
        cases x <;> cases y <;> simp only [cellEq] at h3 <;> first | (cases h3; done) | skip
        cases h3; simp only [VRel] at h1 h2
        obtain ⟨s, rfl, rfl⟩ := h1
        obtain ⟨u, rfl, rfl⟩ := h2
        rw [run_equalIn_string w d' t _ _ hu, bytesEq_of, ByteArray.toList_eq, ByteArray.toList_eq]
      case struct fs =>
        split at hp
        · cases hp
        · rename_i hst
          split at hp
          · rename_i ks' hks
            split at hp
            · cases hp
              unfold VT at hx hy
              rw [hu] at hx hy
              obtain ⟨cs, rfl, hcs⟩ := hx
              obtain ⟨ds, rfl, hds⟩ := hy
              have hf : P.fieldsOf t = fs := by simp [Program.fieldsOf, hu]
              rw [run_equalIn_struct w d' t cs ds (by rw [hf]; exact hu) (by simpa using hst), hf]
              have hlen := cellsEq_len h
              -- field by field
              have key : ∀ (l : List Field) (acc : List EqK), plainFs (plainT P n) l acc = some ks → ∀ more, ks = acc ++ more → cellsEq more (xs.drop acc.length) (ys.drop acc.length) = some r →
                  (Op.eqFields d' cs ds l).run P w = .ok r w := by
                intro l
                induction l with
                | nil =>
                  intro acc hl more hm hc
                  simp [plainFs] at hl
                  have : more = [] := by
                    have := congrArg List.length hm
                    rw [hl] at this; simp at this
                    exact this
                  subst this
                  have := cellsEq_len hc
                  obtain ⟨h1, h2⟩ := this
                  simp only [List.length_nil, List.length_eq_zero_iff] at h1 h2
                  rw [h1, h2] at hc
                  simp [cellsEq] at hc
                  simp [Op.eqFields, hc]
                | cons f l ih =>
                  intro acc hl more hm hc
                  simp only [plainFs] at hl
                  split at hl
                  · cases hl
                  · rename_i hname
                    split at hl
                    · rename_i k hk
                      obtain ⟨more', hm'⟩ := plainFs_pre hl
                      have he : more = k ++ more' := by
                        rw [hm, List.append_assoc] at hm'
                        exact List.append_cancel_left hm'
                      have hoff : f.offset = acc.length := by
                        by_cases h' : f.offset = acc.length
                        · exact h'
                        · exact absurd (Or.inr h') hname
                      have hnm : f.name ≠ "_" := fun e => hname (Or.inl e)
                      have hkl : acc.length + k.length ≤ ks.length := by rw [hm, he]; simp
                      obtain ⟨v1, e1, t1⟩ := part_VT hk hcs (off := f.offset) (by rw [hoff]; omega) w
                      obtain ⟨v2, e2, t2⟩ := part_VT hk hds (off := f.offset) (by rw [hoff]; omega) w
                      have hc' : cellsEq (k ++ more') ((xs.drop acc.length).take k.length ++ (xs.drop acc.length).drop k.length) ((ys.drop acc.length).take k.length ++ (ys.drop acc.length).drop k.length) = some r := by
                        rw [List.take_append_drop, List.take_append_drop, ← he]; exact hc
                      obtain ⟨r1, g1, g2, g3⟩ := cellsEq_app hc' (by simp; omega) (by simp; omega)
                      rw [hoff] at t1 t2 e1 e2
                      have heq := plainT_ok n f.type k hk d' _ _ v1 v2 r1 w (by omega) t1 t2 g1
                      simp only [Op.eqFields]
                      rw [if_pos hnm, hoff]
                      simp only [Sem.run_bind, e1, e2, heq, Result.andThen_ok]
                      cases r1 with
                      | false => rw [g3 rfl]; rfl
                      | true =>
                        have := ih (acc ++ k) hl more' (by rw [hm, he, List.append_assoc]) (by simpa [List.drop_drop] using g2 rfl)
                        simpa using this
                    · cases hl
              exact key fs.toList [] hks ks (by simp) (by simpa using h)
            · cases hp
          · cases hp
end Go.AE
namespace Go.AE
variable {P : Program} {σ : Sg} {A : AW} {W : World}
theorem ofBytes_rel : ∀ (l : List UInt8), VRels σ (ofBytes (l.map UInt8.toNat)) (l.map fun b => Value.int .u8 b.toNat)
  | [] => by simp [ofBytes, VRels]
  | b :: l => VRels.cons (by simp [VRel]) (ofBytes_rel l)
theorem World.freeze_past (W : World) (b : Nat) (c : Array Value) (t : TypeId) (h : W.heap[b]? = some (.cells c t (0, 0))) :
    W.freeze { block := b, off := c.size } 1 = { W with heap := W.heap.setIfInBounds b (.cells c t (c.size, c.size + 1)) } := by
  simp only [World.freeze]
  rw [if_neg (by omega)]
  congr 1
  obtain ⟨hlt, hb⟩ := Array.getElem?_eq_some_iff.1 h
  apply Array.ext
  · simp
  · intro i h1 h2
    by_cases hi : b = i
    · subst hi; simp [Array.getElem_modify, hb]
    · rw [Array.getElem_modify, if_neg hi, Array.getElem_setIfInBounds_ne (by simpa using h1) hi]
theorem s2b_ok (hW : WRel P σ A W) {e : TypeId} {l : List Nat} {x : Value} (hx : VRel σ (.str l) x) : ∃ s, x = .string s ∧
    ResV P σ A W ((Conv.stringToBytes e s).run P W) (.slice A.nx 0 l.length (.g 1)) (A.new (.cells (ofBytes l) e true false)) := by
  simp only [VRel] at hx
  obtain ⟨s, rfl, rfl⟩ := hx
  refine ⟨s, rfl, ?_⟩
  simp only [Conv.stringToBytes, Sem.run_bind, run_choose, Question.forced, Bool.false_eq_true, if_false, Result.andThen_ok, Question.cut, newRow, run_newObj, Sem.run_pure]
  generalize hcap : s.size + W.tape W.drawn (Question.appendCap s.size 0 e) % (2 ^ 63 - s.size) = cap
  have hge : s.size ≤ cap := by omega
  have hs : s.size = s.data.size := rfl
  generalize hc : (Array.map (fun b => Value.int IntKind.u8 (b.toNat : Int)) s.data ++ Array.replicate (cap - s.size) (Value.int IntKind.u8 0)) = c
  have hcs : c.size = cap := by rw [← hc]; simp; omega
  simp only [markStringish, Sem.run_bind, run_shape, Result.andThen_ok]
  have hshape : World.shape? { heap := W.heap.push (.cells c e), tape := W.tape, drawn := W.drawn + 1, os := W.os, output := W.output } W.heap.size = some (e, c.size) := by
    simp [World.shape?]
  rw [hshape]
  simp only [run_freeze, Result.andThen_ok]
  rw [World.freeze_past _ _ c e (by simp)]
  have hset : (W.heap.push (Obj.cells c e)).setIfInBounds W.heap.size (.cells c e (c.size, c.size + 1)) = W.heap.push (.cells c e (c.size, c.size + 1)) := by
    apply Array.ext
    · simp
    · intro i h1 h2
      simp only [Array.getElem_push]
      by_cases hi : W.heap.size = i
      · subst hi; simp
      · rw [Array.getElem_setIfInBounds_ne (by simpa using h1) hi]
        simp only [Array.size_push] at h2
        simp [Array.getElem_push, show i < W.heap.size by omega]
  simp only [hset]
  have hlen : (List.map UInt8.toNat s.data.toList).length = s.size := by rw [List.length_map, Array.length_toList]; rfl
  rw [hlen]
  refine ⟨σ.set A.nx ⟨W.heap.size, 0, cap⟩, .slice (some ⟨W.heap.size, 0, none⟩) s.size cap, _, rfl, ?_, Step.new hW _ _ 0 cap (W.drawn + 1) ?_⟩
  · simp only [VRel, Sg.set_same]
    exact ⟨_, cap, rfl, rfl, hge, by simp, by omega⟩
  · intro τ hτ
    refine ⟨c, _, rfl, ?_, ?_, by simp, ?_, ?_⟩
    · have : (ofBytes (s.data.toList.map UInt8.toNat)).length = s.size := by
        have := (ofBytes_rel (σ := σ) s.data.toList).length
        rw [List.length_map, Array.length_toList] at this
        exact this
      show 0 + _ ≤ _; omega
    · have hl := (ofBytes_rel (σ := τ) s.data.toList).length
      rw [hl]
      simp only [List.length_map, List.drop_zero]
      have : c.toList.take s.data.toList.length = s.data.toList.map fun b => Value.int .u8 b.toNat := by
        rw [← hc]
        simp only [Array.toList_append, Array.toList_map]
        rw [List.take_append_of_le_length (by simp)]
        rw [List.take_of_length_le (by rw [List.length_map]; exact Nat.le_refl _)]
      rw [this]
      exact ofBytes_rel _
    · intro _; show 0 + cap ≤ _; omega
    · intro _ o ho; simp only; omega
theorem toBytes_rel : ∀ {xs : List AV} {vs : List Value} {bs : List Nat}, VRels σ xs vs → toBytes xs = some bs → vs = bs.map (fun (b : Nat) => Value.int .u8 (b : Int)) ∧ ∀ b, b ∈ bs → b < 256
  | [], vs, bs, h, hb => by simp only [VRels] at h; subst h; simp [toBytes] at hb; subst hb; exact ⟨rfl, by simp⟩
  | x :: xs, vs, bs, h, hb => by
    simp only [VRels] at h
    obtain ⟨v, rest, rfl, h1, h2⟩ := h
    unfold toBytes at hb
    split at hb
    · rename_i heq; cases heq
    · rename_i n l heq
      cases heq
      split at hb
      · rename_i r hr
        split at hb
        · rename_i hlt
          cases hb
          simp only [VRel] at h1
          subst h1
          obtain ⟨g1, g2⟩ := toBytes_rel h2 hr
          rw [g1]
          refine ⟨rfl, fun b hb => ?_⟩
          rcases List.mem_cons.1 hb with rfl | hb
          · exact Nat.blt_eq ▸ hlt
          · exact g2 b hb
        · cases hb
      · cases hb
    · cases hb
theorem bytesLoop (W : World) : ∀ (bs : List Nat) (s : ByteArray), (∀ b, b ∈ bs → b < 256) →
    (forIn (bs.map fun (b : Nat) => Value.int .u8 (b : Int)) s (fun c (r : ByteArray) => match c with
      | .int .u8 n => Pure.pure (ForInStep.yield (r.push (UInt8.ofNat n.toNat)))
      | _ => do
        stuck "bytesToString: byte expected"
        Pure.pure (ForInStep.yield r)) : Sem ByteArray).run P W = .ok ⟨(s.data.toList ++ bs.map UInt8.ofNat).toArray⟩ W
  | [], s, _ => by simp
  | b :: bs, s, h => by
    simp only [List.map_cons, List.forIn_cons, Sem.run_bind, Sem.run_pure, Result.andThen_ok]
    rw [bytesLoop W bs _ (fun x hx => h x (List.mem_cons_of_mem _ hx))]
    congr 2
    simp [ByteArray.push]
theorem str_of_bytes {bs : List Nat} (h : ∀ b, b ∈ bs → b < 256) : VRel σ (.str bs) (.string ⟨(bs.map UInt8.ofNat).toArray⟩) := by
  simp only [VRel]
  refine ⟨_, rfl, ?_⟩
  simp only [List.map_map]
  conv => rhs; rw [← List.map_id bs]
  apply List.map_congr_left
  intro b hb
  have := h b hb
  simp [UInt8.toNat_ofNat', Nat.mod_eq_of_lt this]
theorem slice_addr {a : Ix} {off len : Nat} {c : Cap} {x : Value} (hx : VRel σ (.slice a off len c) x) : ∃ e cc, σ a = some e ∧ x = .slice (some ⟨e.blk, e.sh + off, none⟩) len cc := by
  cases c with
  | k m => simp only [VRel] at hx; obtain ⟨e, he, rfl⟩ := hx; exact ⟨e, m, he, rfl⟩
  | g z => simp only [VRel] at hx; obtain ⟨e, cc, he, rfl, _⟩ := hx; exact ⟨e, cc, he, rfl⟩
theorem b2s_ok (hW : WRel P σ A W) {x : Value} {a : Ix} {off len : Nat} {c : Cap} {l vs : List AV} {et : Nat} {g z : Bool} {bs : List Nat} (hx : VRel σ (.slice a off len c) x)
    (ho : A.get a = some (.cells l et g z)) (hv : takeN len (listDrop off l) = some vs) (hb : toBytes vs = some bs) : ResV P σ A W ((Conv.bytesToString x).run P W) (.str bs) A := by
  obtain ⟨e, cc, he, rfl⟩ := slice_addr hx
  obtain ⟨us, hu, hr, _⟩ := cells_of hW ho he hv
  obtain ⟨g1, g2⟩ := toBytes_rel hr hb
  refine ⟨σ, _, W, ?_, str_of_bytes g2, .refl hW⟩
  simp only [Conv.bytesToString, Sem.run_bind, hu, Result.andThen_ok]
  rw [← Array.forIn_toList, g1]
  exact congrArg (fun r : Result ByteArray => r.andThen fun a w' => Sem.run P (Pure.pure (Value.string a)) w') (bytesLoop (P := P) W bs ByteArray.empty g2)
end Go.AE
namespace Go.AE
variable {P : Program} {σ : Sg} {A : AW} {W : World} {T : TM} {a : Act}
theorem bnd_ok {y : Nat} {x : AV} {v : Value} {n : Nat} (hx : VRel σ x v) (h : bnd y x = some n) : n ≤ y ∧ ∀ (y' : Nat) (code : BoundsCode) (w : World), n ≤ y' → (Instr.sliceBound v y' code).run P w = .ok n w := by
  cases x with
  | int k i =>
    cases i with
    | ofNat m =>
      simp only [bnd] at h
      split at h
      · rename_i hle
        cases h
        have hle' := Nat.le_of_ble_eq_true hle
        simp only [VRel] at hx; subst hx
        refine ⟨hle', fun y' code w hy => ?_⟩
        simp only [Instr.sliceBound, asIntOf, Sem.run_bind, Sem.run_pure, Result.andThen_ok]
        rw [if_pos ⟨Int.natCast_nonneg _, Int.ofNat_le.2 hy⟩]
        rfl
      · cases h
    | negSucc m => simp [bnd] at h
  | _ => simp [bnd] at h
theorem bndO_ok (hT : TRel σ T a.tmps) (hG : GRel P σ) {y d n : Nat} {x : Option Operand} {z : Option Arg} (hx : optArg P x = some z) (h : bndO T y d z = some n) :
    (x = none ∧ n = d) ∨ (∃ u, x = some u ∧ n ≤ y ∧ ∀ y' code w, n ≤ y' → (Instr.sliceBound (a.eval u) y' code).run P w = .ok n w) := by
  cases x with
  | none => simp [optArg] at hx; subst hx; simp [bndO] at h; exact .inl ⟨rfl, h.symm⟩
  | some u =>
    simp only [optArg, Option.map_eq_some_iff] at hx
    obtain ⟨q, hq, rfl⟩ := hx
    simp only [bndO] at h
    have hr := bnd_ok (P := P) (arg_rel hT hG hq) h
    exact .inr ⟨u, rfl, hr.1, hr.2⟩
/-- the bounds of a slice without a third one -/
theorem bounds2 (hT : TRel σ T a.tmps) (hG : GRel P σ) {isS : Bool} {len y cap h l : Nat} {lo hi : Option Operand} {zlo zhi : Option Arg} (h1 : optArg P lo = some zlo) (h2 : optArg P hi = some zhi)
    (hh : bndO T y len zhi = some h) (hl : bndO T h 0 zlo = some l) (hy : y ≤ cap) (w : World) : l ≤ h ∧ (h ≤ y ∨ h = len) ∧ (Instr.sliceBounds isS len cap (lo.map a.eval) (hi.map a.eval) none).run P w = .ok (l, h, cap) w := by
  rcases bndO_ok hT hG h2 hh with ⟨rfl, rfl⟩ | ⟨u, rfl, hle, hrun⟩
  · rcases bndO_ok hT hG h1 hl with ⟨rfl, rfl⟩ | ⟨u, rfl, hle', hrun'⟩
    · exact ⟨Nat.zero_le _, .inr rfl, by simp [Instr.sliceBounds]⟩
    · exact ⟨hle', .inr rfl, by simp [Instr.sliceBounds, hrun' _ _ _ hle']⟩
  · have hr := fun code w => hrun cap code w (by omega)
    rcases bndO_ok hT hG h1 hl with ⟨rfl, rfl⟩ | ⟨u', rfl, hle', hrun'⟩
    · exact ⟨Nat.zero_le _, .inl hle, by simp [Instr.sliceBounds, hr]⟩
    · exact ⟨hle', .inl hle, by simp [Instr.sliceBounds, hr, hrun' _ _ _ hle']⟩
theorem bounds3 (hT : TRel σ T a.tmps) (hG : GRel P σ) {isS : Bool} {len y cap m h l : Nat} {lo hi mx : Option Operand} {zlo zhi zmx : Option Arg} (h1 : optArg P lo = some zlo) (h2 : optArg P hi = some zhi) (h3 : optArg P mx = some zmx)
    (hmx : mx ≠ none) (hm : bndO T y 0 zmx = some m) (hh : bndO T m len zhi = some h) (hl : bndO T h 0 zlo = some l) (hhi : hi ≠ none) (hy : y ≤ cap) (w : World) :
    l ≤ h ∧ h ≤ m ∧ m ≤ y ∧ (Instr.sliceBounds isS len cap (lo.map a.eval) (hi.map a.eval) (mx.map a.eval)).run P w = .ok (l, h, m) w := by
  rcases bndO_ok hT hG h3 hm with ⟨h0, _⟩ | ⟨u', rfl, hle, hrun⟩
  · exact absurd h0 hmx
  · rcases bndO_ok hT hG h2 hh with ⟨rfl, rfl⟩ | ⟨u2, rfl, hle2, hrun2⟩
    · exact absurd rfl hhi
    · have r1 := fun code w => hrun cap code w (by omega)
      have r2 := fun code w => hrun2 m code w hle2
      rcases bndO_ok hT hG h1 hl with ⟨rfl, rfl⟩ | ⟨u3, rfl, hle3, hrun3⟩
      · exact ⟨Nat.zero_le _, hle2, hle, by simp [Instr.sliceBounds, r1, r2]⟩
      · exact ⟨hle3, hle2, hle, by simp [Instr.sliceBounds, r1, r2, hrun3 _ _ _ hle3]⟩
theorem slstr_ok (hW : WRel P σ A W) (hT : TRel σ T a.tmps) (hG : GRel P σ) {t : TypeId} {x : Value} {s r : List Nat} {lo hi : Option Operand} {zlo zhi : Option Arg} {h l : Nat}
    (hu : P.underlying t = some .string) (hx : VRel σ (.str s) x) (h1 : optArg P lo = some zlo) (h2 : optArg P hi = some zhi)
    (hh : bndO T s.length s.length zhi = some h) (hl : bndO T h 0 zlo = some l) (hr : takeN (h - l) (listDrop l s) = some r) :
    ResV P σ A W ((Instr.sliceAt t x (lo.map a.eval) (hi.map a.eval) none).run P W) (.str r) A := by
  simp only [VRel] at hx
  obtain ⟨bs, rfl, hbs⟩ := hx
  have hlen : s.length = bs.size := by rw [← hbs, List.length_map, Array.length_toList]; rfl
  rw [hlen] at hh
  obtain ⟨g1, g2, g3⟩ := bounds2 (isS := false) (cap := bs.size) hT hG h1 h2 hh hl (Nat.le_refl _) W
  rw [listDrop_eq] at hr
  obtain ⟨_, rfl⟩ := takeN_some hr
  refine ⟨σ, .string (bs.extract l h), W, ?_, ?_, .refl hW⟩
  · simp only [Instr.sliceAt, Sem.run_bind, underlying_run hu, Result.andThen_ok, Instr.slice]
    simp only [Sem.run_bind, g3, Result.andThen_ok, Option.isSome_none, Bool.false_eq_true, if_false, Sem.run_pure]
  · simp only [VRel]
    refine ⟨_, rfl, ?_⟩
    rw [← hbs]
    obtain ⟨⟨d⟩⟩ := bs
    rw [ByteArray.extract_mk]
    simp
theorem slsl_run {t el : TypeId} {n len cap l h m : Nat} {base : Option Addr} {lo hi mx : Option Value} (hu : P.underlying t = some (.slice el)) (hn : sizeT P el = some n)
    (hb : (Instr.sliceBounds true len cap lo hi mx).run P W = .ok (l, h, m) W) :
    (Instr.sliceAt t (.slice base len cap) lo hi mx).run P W = .ok (.slice (if m = l then base else base.map (·.add (l * n))) (h - l) (m - l)) W := by
  simp only [Instr.sliceAt, Sem.run_bind, underlying_run hu, Result.andThen_ok, Instr.slice]
  simp only [hb, Result.andThen_ok, sizeOf_run hn, Sem.run_pure]
/-- a slice of a slice -/
theorem slsl_ok (hW : WRel P σ A W) (hT : TRel σ T a.tmps) (hG : GRel P σ) {t el : TypeId} {n : Nat} {x : Value} {y v : AV} {lo hi mx : Option Operand} {zlo zhi zmx : Option Arg} {z : Arg} {A' : AW}
    (hu : P.underlying t = some (.slice el)) (hn : sizeT P el = some n) (hz : z.ev T = y) (hx : VRel σ y x) (h1 : optArg P lo = some zlo) (h2 : optArg P hi = some zhi) (h3 : optArg P mx = some zmx)
    (hmh : (mx.isSome && hi.isNone) = false) (h : iop T A (.slsl n z zlo zhi zmx) = some (v, A')) :
    A' = A ∧ ResV P σ A W ((Instr.sliceAt t x (lo.map a.eval) (hi.map a.eval) (mx.map a.eval)).run P W) v A := by
  simp only [iop, hz] at h
  have hhi : mx ≠ none → hi ≠ none := by
    intro h0 h1'; subst h1'; cases mx <;> simp at hmh h0
  cases y <;> simp only at h <;> first | (cases h; done) | skip
  case nilslice =>
    split at h
    · rename_i m' h' l' em eh el'
      cases h
      refine ⟨rfl, ?_⟩
      simp only [VRel] at hx; subst hx
      have hb : (Instr.sliceBounds true 0 0 (lo.map a.eval) (hi.map a.eval) (mx.map a.eval)).run P W = .ok (0, 0, 0) W := by
        cases mx with
        | none =>
          have e0 : h' = 0 := by rcases bndO_ok hT hG h2 eh with ⟨_, h⟩ | ⟨_, _, h, _⟩ <;> omega
          subst e0
          have e1 : l' = 0 := by rcases bndO_ok hT hG h1 el' with ⟨_, h⟩ | ⟨_, _, h, _⟩ <;> omega
          subst e1
          exact (bounds2 (isS := true) (cap := 0) hT hG h1 h2 eh el' (Nat.le_refl _) W).2.2
        | some u =>
          have e2 : m' = 0 := by rcases bndO_ok hT hG h3 em with ⟨_, h⟩ | ⟨_, _, h, _⟩ <;> omega
          subst e2
          have e0 : h' = 0 := by rcases bndO_ok hT hG h2 eh with ⟨_, h⟩ | ⟨_, _, h, _⟩ <;> omega
          subst e0
          have e1 : l' = 0 := by rcases bndO_ok hT hG h1 el' with ⟨_, h⟩ | ⟨_, _, h, _⟩ <;> omega
          subst e1
          exact (bounds3 (isS := true) (cap := 0) hT hG h1 h2 h3 (by simp) em eh el' (hhi (by simp)) (Nat.le_refl _) W).2.2.2
      refine ⟨σ, .slice none 0 0, W, ?_, by simp [VRel], .refl hW⟩
      rw [slsl_run hu hn hb]; rfl
    · cases h
  case zslice =>
    cases mx with
    | some u => simp only [optArg, Option.map_eq_some_iff] at h3; obtain ⟨_, _, h3⟩ := h3; subst h3; simp at h
    | none =>
      simp [optArg] at h3; subst h3
      cases eh : bndO T 0 0 zhi with
      | none => rw [eh] at h; simp at h
      | some h' =>
        cases el' : bndO T 0 0 zlo with
        | none => rw [eh, el'] at h; simp at h
        | some l' =>
          rw [eh, el'] at h
          simp only [Option.some.injEq, Prod.mk.injEq] at h
          obtain ⟨rfl, rfl⟩ := h
          refine ⟨rfl, ?_⟩
          simp only [VRel] at hx
          obtain ⟨b, c, rfl⟩ := hx
          have e0 : h' = 0 := by rcases bndO_ok hT hG h2 eh with ⟨_, h⟩ | ⟨_, _, h, _⟩ <;> omega
          subst e0
          have e1 : l' = 0 := by rcases bndO_ok hT hG h1 el' with ⟨_, h⟩ | ⟨_, _, h, _⟩ <;> omega
          subst e1
          have hb := (bounds2 (isS := true) (cap := c) hT hG h1 h2 eh el' (Nat.zero_le _) W).2.2
          refine ⟨σ, _, W, slsl_run hu hn hb, ?_, .refl hW⟩
          simp only [VRel]
          split
          · exact ⟨b, _, rfl⟩
          · exact ⟨_, _, rfl⟩
  case slice b off len c =>
    cases mx with
    | none =>
      simp [optArg] at h3; subst h3
      cases c with
      | k c =>
        simp only [VRel] at hx
        obtain ⟨e, he, rfl⟩ := hx
        simp only at h
        split at h
        · rename_i h' eh
          split at h
          · rename_i l' el'
            have hb := bounds2 (isS := true) (cap := c) hT hG h1 h2 eh el' (Nat.le_refl _) W
            split at h
            · rename_i hlc
              have hlc := Nat.eq_of_beq_eq_true hlc
              split at h
              · rename_i hhl
                have hhl := Nat.eq_of_beq_eq_true hhl
                cases h
                refine ⟨rfl, σ, _, W, slsl_run hu hn hb.2.2, ?_, .refl hW⟩
                rw [if_pos hlc.symm]
                simp only [VRel]
                exact ⟨_, _, by rw [hhl, Nat.sub_self]⟩
              · cases h
            · rename_i hlc
              cases h
              refine ⟨rfl, σ, _, W, slsl_run hu hn hb.2.2, ?_, .refl hW⟩
              rw [if_neg (fun hc => hlc (by rw [hc]; exact Nat.beq_refl _))]
              simp only [VRel, Option.map_some, Addr.add_none]
              exact ⟨e, he, by rw [Nat.add_assoc]⟩
          · cases h
        · cases h
      | g z' =>
        simp only [VRel] at hx
        obtain ⟨e, cc, he, rfl, hlen, htot, hz0⟩ := hx
        simp only at h
        split at h
        · rename_i hzn
          have hzn := Nat.eq_of_beq_eq_true hzn
          subst hzn
          split at h
          · rename_i h' eh
            split at h
            · rename_i l' el'
              have hb := bounds2 (isS := true) (cap := cc) hT hG h1 h2 eh el' hlen W
              have hle : h' ≤ len := by rcases hb.2.1 with h | h <;> omega
              split at h
              · rename_i hl0
                have hl0 := Nat.eq_of_beq_eq_true hl0
                subst hl0
                cases h
                refine ⟨rfl, σ, _, W, slsl_run hu hn hb.2.2, ?_, .refl hW⟩
                simp only [VRel]
                refine ⟨e, cc, he, ?_, by omega, htot, hz0⟩
                simp only [Nat.zero_mul, Option.map_some, Addr.add_none, Nat.add_zero, Nat.sub_zero]
                split <;> rfl
              · split at h
                · rename_i hl0 hll
                  have hll := Nat.eq_of_beq_eq_true hll
                  cases h
                  refine ⟨rfl, σ, _, W, slsl_run hu hn hb.2.2, ?_, .refl hW⟩
                  simp only [VRel]
                  have : h' - l' = 0 := by omega
                  rw [this]
                  split
                  · exact ⟨_, _, rfl⟩
                  · exact ⟨_, _, rfl⟩
                · rename_i hl0 hll
                  cases h
                  have hlt : l' < len := by
                    have h5 : l' ≠ len := fun hc => hll (by rw [hc]; exact Nat.beq_refl _)
                    have := hb.1; omega
                  refine ⟨rfl, σ, _, W, slsl_run hu hn hb.2.2, ?_, .refl hW⟩
                  rw [if_neg (by omega)]
                  simp only [VRel, Option.map_some, Addr.add_none]
                  refine ⟨e, cc - l', he, by rw [Nat.add_assoc], by omega, ?_, hz0⟩
                  rw [Nat.add_assoc, ← Nat.add_mul]
                  rw [show l' + (cc - l') = cc by omega]
                  exact htot
            · cases h
          · cases h
        · cases h
    | some u =>
      have h3' := h3
      simp only [optArg, Option.map_eq_some_iff] at h3'
      obtain ⟨q, hq, rfl⟩ := h3'
      simp only at h
      obtain ⟨e, cc, he, rfl, hy⟩ : ∃ e cc, σ b = some e ∧ x = .slice (some ⟨e.blk, e.sh + off, none⟩) len cc ∧ capOr c len ≤ cc := by
        cases c with
        | k m => simp only [VRel] at hx; obtain ⟨e, he, rfl⟩ := hx; exact ⟨e, m, he, rfl, Nat.le_refl _⟩
        | g z => simp only [VRel] at hx; obtain ⟨e, cc, he, rfl, hl, _⟩ := hx; exact ⟨e, cc, he, rfl, hl⟩
      split at h
      · rename_i m' em
        split at h
        · rename_i h' eh
          split at h
          · rename_i l' el'
            have hb := bounds3 (isS := true) (cap := cc) hT hG h1 h2 h3 (by simp) em eh el' (hhi (by simp)) hy W
            split at h
            · rename_i hlc
              have hlc := Nat.eq_of_beq_eq_true hlc
              cases h
              refine ⟨rfl, σ, _, W, slsl_run hu hn hb.2.2.2, ?_, .refl hW⟩
              rw [if_pos hlc.symm]
              simp only [VRel]
              exact ⟨_, _, by rw [show h' - l' = 0 by omega]⟩
            · rename_i hlc
              cases h
              refine ⟨rfl, σ, _, W, slsl_run hu hn hb.2.2.2, ?_, .refl hW⟩
              rw [if_neg (fun hc => hlc (by rw [hc]; exact Nat.beq_refl _))]
              simp only [VRel, Option.map_some, Addr.add_none]
              exact ⟨e, he, by rw [Nat.add_assoc]⟩
          · cases h
        · cases h
      · cases h
end Go.AE
namespace Go.AE
variable {P : Program} {σ : Sg} {A : AW} {W : World}
theorem growBy_le (newLen : Nat) : ∀ (r c : Nat), c < newLen → Builtin.growBy newLen r c ≤ newLen + (newLen + 768) / 4
  | 0, c, h => by simp only [Builtin.growBy]; omega
  | r + 1, c, h => by
    simp only [Builtin.growBy]
    split
    · omega
    · by_cases h' : c + (c + 768) / 4 < newLen
      · exact growBy_le newLen r _ h'
      · cases r with
        | zero => simp only [Builtin.growBy]; omega
        | succ r =>
          simp only [Builtin.growBy]
          rw [if_pos (by omega)]; omega
theorem nextslicecap_le {need cap : Nat} (h : cap < need) : Builtin.nextslicecap need cap ≤ 2 * need + 1000 := by
  simp only [Builtin.nextslicecap]
  split
  · omega
  · split
    · omega
    · have := growBy_le need 4 cap h; omega
theorem zeroCells_size (z : Array Value) (n : Nat) : (Builtin.zeroCells z n).size = n * z.size := by simp [Builtin.zeroCells]
/-- append, where there is room -/
theorem append_room {at_ : Array TypeId} {ty st xt el : TypeId} {d : TypeDesc} {size len cap n : Nat} {base : Option Addr} {x : Value} {new : Array Value} (h0 : at_[0]? = some st) (h1 : at_[1]? = some xt) (hs : P.underlying st = some (.slice el))
    (hx : P.underlying xt = some d) (hd : ∀ k, d ≠ .int k) (hn : sizeT P el = some size) (hl : (Builtin.lenOf x).run P W = .ok n W) (hf : (Builtin.firstCells size n x).run P W = .ok new W) (hle : len + n ≤ cap) :
    (Builtin.append_ at_ ty #[.slice base len cap, x]).run P W = ((match base with
      | some a => storeCells (a.add (len * size)) new.toList
      | none => Pure.pure () : Sem Unit).run P W).andThen fun _ w => .ok (.slice base (len + n) cap) w := by
  simp only [Builtin.append_, h0, h1, List.getElem?_toArray, List.getElem?_cons_zero, List.getElem?_cons_succ, Sem.run_bind, underlying_run hs, Result.andThen_ok, sizeOf_run hn, underlying_run hx, Sem.run_pure, Bool.false_eq_true, if_false, hl]
  rw [if_pos hle]
  simp only [Bool.not_false, if_true, Sem.run_bind, hf, Result.andThen_ok]
  cases base with
  | none => rfl
  | some b => simp only [Sem.run_bind, Sem.run_pure]
theorem append_grow {at_ : Array TypeId} {ty st xt el : TypeId} {d : TypeDesc} {size len cap n : Nat} {base : Option Addr} {x : Value} {new old : Array Value} {i : TypeInfo} {zv : Value} (h0 : at_[0]? = some st) (h1 : at_[1]? = some xt) (hs : P.underlying st = some (.slice el))
    (hx : P.underlying xt = some d) (hd : ∀ k, d ≠ .int k) (hn : sizeT P el = some size) (hi : P.info? el = some i) (hz : i.zero = some zv) (hzs : zv.cells.size = size) (hb : i.bytes ≤ 2 ^ 14)
    (hl : ∀ w, w.heap = W.heap → (Builtin.lenOf x).run P w = .ok n w) (hf : ∀ w, w.heap = W.heap → (Builtin.firstCells size n x).run P w = .ok new w)
    (ho : ∀ w, w.heap = W.heap → (Builtin.firstCells size len (.slice base len cap)).run P w = .ok old w) (hlt : cap < len + n) (hbig : len + n ≤ 2 ^ 30) (hold : old.size = len * size) (hnew : new.size = n * size) :
    ∃ nc c dr, len + n ≤ nc ∧ (Builtin.append_ at_ ty #[.slice base len cap, x]).run P W = .ok (.slice (some ⟨W.heap.size, 0, none⟩) (len + n) nc) { W with heap := W.heap.push (.cells c el), drawn := dr } ∧
      c.size = nc * size ∧ c.toList.take ((len + n) * size) = old.toList ++ new.toList := by
  have hti : ∀ w, (typeInfo el).run P w = .ok i w := fun w => by simp [typeInfo, hi]
  have hzv : ∀ w, (zeroValue el).run P w = .ok zv w := fun w => by simp [zeroValue, hti, hz]
  have hnc := nextslicecap_le hlt
  have hmul : Builtin.nextslicecap (len + n) cap * i.bytes ≤ (2 * 2 ^ 30 + 1000) * 2 ^ 14 := Nat.mul_le_mul (by omega) hb
  generalize hcap : (len + n) + W.tape W.drawn (Question.appendCap (len + n) cap el) % (2 ^ 63 - (len + n)) = nc
  refine ⟨nc, old ++ new ++ Builtin.zeroCells zv.cells (nc - (len + n)), W.drawn + 1, by omega, ?_, ?_, ?_⟩
  · simp only [Builtin.append_, h0, h1, List.getElem?_toArray, List.getElem?_cons_zero, List.getElem?_cons_succ, Sem.run_bind, underlying_run hs, Result.andThen_ok, sizeOf_run hn, underlying_run hx, Sem.run_pure, Bool.false_eq_true, if_false, hl W rfl]
    rw [if_neg (by omega)]
    have hmax : ¬ (((len + n : Nat) : Int) > IntKind.i64.max ∧ (False ∨ i.bytes = 0)) := by
      have : (IntKind.i64.max : Int) = 9223372036854775807 := rfl
      rw [this]; omega
    simp only [hti, Result.andThen_ok, Sem.run_bind]
    rw [if_neg hmax]
    simp only [Sem.run_bind, hti, Result.andThen_ok]
    rw [if_neg (by omega)]
    simp only [Sem.run_bind, run_choose, Question.forced, Bool.false_eq_true, if_false, Result.andThen_ok, Question.cut, hcap, hti, run_askRoom]
    rw [ho { W with drawn := W.drawn + 1 } rfl]
    simp only [Result.andThen_ok, Bool.not_false, if_true]
    rw [hf { W with drawn := W.drawn + 1 } rfl]
    simp only [Result.andThen_ok, hzv, newRow, Sem.run_bind, run_newObj, Sem.run_pure]
  · simp only [Array.size_append, zeroCells_size, hold, hnew, hzs]
    rw [← Nat.add_mul, ← Nat.add_mul]
    congr 1; omega
  · simp only [Array.toList_append]
    rw [List.take_append_of_le_length (by simp only [List.length_append, Array.length_toList, hold, hnew]; rw [Nat.add_mul]; exact Nat.le_refl _)]
    rw [List.take_of_length_le (by simp only [List.length_append, Array.length_toList, hold, hnew]; rw [Nat.add_mul]; exact Nat.le_refl _)]
end Go.AE
namespace Go.AE
variable {P : Program} {σ : Sg} {A : AW} {W : World}
theorem cells_at (hW : WRel P σ A W) {a : Ix} {l : List AV} {et : Nat} {g z : Bool} {e : Ent} (ha : A.get a = some (.cells l et g z)) (he : σ a = some e) {o n : Nat} {xs : List AV}
    (hx : takeN n (listDrop o l) = some xs) : ∃ vs : List Value, VRels σ xs vs ∧ vs.length = n ∧ ∀ k v, vs[k]? = some v → W.cell? ⟨e.blk, e.sh + o + k, none⟩ = some v := by
  rw [listDrop_eq] at hx
  obtain ⟨hn, rfl⟩ := takeN_some hx
  obtain ⟨f, ob, hf, hb, c, fz, rfl, h1, h2, _⟩ := hW.obj a _ ha
  rw [he] at hf; cases hf
  have h3 := (h2.drop o).take n
  have hlen := h3.length
  refine ⟨_, h3, by rw [← hlen]; simp; simp at hn; omega, fun k v hk => ?_⟩
  rw [List.getElem?_take] at hk
  split at hk
  · rw [List.getElem?_drop, List.getElem?_take] at hk
    split at hk
    · rw [List.getElem?_drop] at hk
      simp only [World.cell?, hb, Option.isSome_none, Bool.false_eq_true, if_false]
      rw [show e.sh + o + k = e.sh + (o + k) by omega]
      simpa using hk
    · cases hk
  · cases hk
theorem cell_heap {W w : World} (h : w.heap = W.heap) (a : Addr) : w.cell? a = W.cell? a := by simp [World.cell?, h]
theorem loadCells_at {b o : Nat} {vs : List Value} (h : ∀ k v, vs[k]? = some v → W.cell? ⟨b, o + k, none⟩ = some v) {w : World} (hw : w.heap = W.heap) {m : Nat} (hm : m ≤ vs.length) :
    (loadCells ⟨b, o, none⟩ m).run P w = .ok (vs.take m).toArray w := by
  rw [loadCells, loadCellsFrom_run m 0 (vs.take m) #[] (by simp; omega)]
  · simp
  · intro k v hk
    rw [cell_heap hw]
    rw [List.getElem?_take] at hk
    split at hk
    · exact h k v hk
    · cases hk
theorem src_ok (hW : WRel P σ A W) {esz : Nat} {x : Value} {y : AV} {new : List AV} {n : Nat} (hx : VRel σ y x) (h : srcOf A esz y = some (new, n)) :
    ∃ c : Array Value, (∀ w, w.heap = W.heap → (Builtin.lenOf x).run P w = .ok n w) ∧ (∀ w, w.heap = W.heap → (Builtin.firstCells esz n x).run P w = .ok c w) ∧ VRels σ new c.toList ∧ c.size = n * esz ∧
      ∀ k, k ≤ n → ∀ w, w.heap = W.heap → (Builtin.firstCells esz k x).run P w = .ok (c.toList.take (k * esz)).toArray w := by
  cases y <;> simp only [srcOf] at h <;> first | (cases h; done) | skip
  case nilslice =>
    cases h; simp only [VRel] at hx; subst hx
    refine ⟨#[], fun w _ => rfl, fun w _ => rfl, VRels.nil, by simp, fun k hk w _ => ?_⟩
    obtain rfl : k = 0 := by omega
    simp [Builtin.firstCells]
  case zslice =>
    cases h; simp only [VRel] at hx; obtain ⟨a, c, rfl⟩ := hx
    refine ⟨#[], fun w _ => rfl, fun w _ => ?_, VRels.nil, by simp, fun k hk w _ => ?_⟩
    · simp [Builtin.firstCells, loadCells, loadCellsFrom]
    · obtain rfl : k = 0 := by omega
      simp [Builtin.firstCells, loadCells, loadCellsFrom]
  case str l =>
    split at h
    · rename_i he
      have he := Nat.eq_of_beq_eq_true he
      subst he
      cases h
      simp only [VRel] at hx
      obtain ⟨s, rfl, rfl⟩ := hx
      have hl : (List.map UInt8.toNat s.data.toList).length = s.size := by rw [List.length_map, Array.length_toList]; rfl
      have hfc : ∀ k, k ≤ s.size → ∀ w, (Builtin.firstCells 1 k (.string s)).run P w = .ok ((s.data.toList.take k).map fun b => Value.int .u8 b.toNat).toArray w := by
        intro k hk w
        simp only [Builtin.firstCells, Sem.run_pure]
        congr 1
        obtain ⟨⟨d⟩⟩ := s
        rw [ByteArray.extract_mk]
        simp
      refine ⟨(s.data.toList.map fun b => Value.int .u8 b.toNat).toArray, fun w _ => by rw [hl]; rfl, fun w _ => ?_, ofBytes_rel _, by simp, fun k hk w _ => ?_⟩
      · rw [hl, hfc _ (Nat.le_refl _)]
        congr 3
        rw [List.take_of_length_le (by rw [Array.length_toList]; exact Nat.le_refl _)]
      · rw [hfc k (by omega)]
        simp [List.map_take]
    · cases h
  case slice a off len c =>
    split at h
    · rename_i l et g z ho
      split at h
      · rename_i cs hcs
        cases h
        obtain ⟨e, cc, he, rfl⟩ := slice_addr hx
        obtain ⟨us, hr, hsz, hat⟩ := cells_at hW ho he hcs
        refine ⟨us.toArray, fun w _ => rfl, fun w hw => ?_, hr, by simpa using hsz, fun k hk w hw => ?_⟩
        · simp only [Builtin.firstCells]
          rw [loadCells_at hat hw (by omega), List.take_of_length_le (by omega)]
        · simp only [Builtin.firstCells]
          rw [loadCells_at hat hw (by rw [hsz]; exact Nat.mul_le_mul_right _ hk)]
      · cases h
    · cases h
/-- append, as the evaluator says -/
theorem append_ok (hW : WRel P σ A W) {at_ : Array TypeId} {ty st xt el : TypeId} {d : TypeDesc} {esz : Nat} {i : TypeInfo} {z : AV} (h0 : at_[0]? = some st) (h1 : at_[1]? = some xt) (hs : P.underlying st = some (.slice el))
    (hxt : P.underlying xt = some d) (hd : ∀ k, d ≠ .int k) (hn : sizeT P el = some esz) (hn0 : esz ≠ 0) (hi : P.info? el = some i) (hz : zeroOf P el = some z) (hzs : z.cells.length = esz) (hb : i.bytes ≤ 2 ^ 14)
    {s x : Value} {sa xa v : AV} {new : List AV} {n : Nat} {A' : AW} (hsr : VRel σ sa s) (hxr : VRel σ xa x) (hsrc : srcOf A esz xa = some (new, n)) (h : appendTo A el esz sa new n = some (v, A')) :
    ResV P σ A W ((Builtin.append_ at_ ty #[s, x]).run P W) v A' := by
  obtain ⟨c, hl, hf, hr, hcs, _⟩ := src_ok hW hxr hsrc
  obtain ⟨zv, hzv, hzz⟩ : ∃ zv, i.zero = some zv ∧ VRel σ z zv := by
    obtain ⟨_, i', v, hi', hz, ha⟩ := zeroOf_spec hz
    rw [hi] at hi'; cases hi'
    exact ⟨v, hz, absV_rel σ 4 v z ha⟩
  have hzc : zv.cells.size = esz := by have := (hzz.cells (zeroOf_spec hz).1).length; simp only [Array.length_toList] at this; omega
  have hnl : new.length = n * esz := by have := hr.length; simp only [Array.length_toList] at this; omega
  -- the two ways
  have grow : ∀ (A0 : AW) (_ : WRel P σ A0 W) (len cap : Nat) (base : Option Addr) (old : List AV) (oc : Array Value), s = .slice base len cap → cap < len + n → len + n ≤ 2 ^ 30 → VRels σ old oc.toList → oc.size = len * esz →
      (∀ w, w.heap = W.heap → (Builtin.firstCells esz len (.slice base len cap)).run P w = .ok oc w) →
      ResV P σ A0 W ((Builtin.append_ at_ ty #[s, x]).run P W) (.slice A0.nx 0 (len + n) (.g esz)) (A0.new (.cells (old ++ new) el true false)) := by
    intro A0 hW0 len cap base old oc hse hlt hbig hor hos hof
    subst hse
    obtain ⟨nc, cc, dr, g1, g2, g3, g4⟩ := append_grow (ty := ty) h0 h1 hs hxt hd hn hi hzv hzc hb hl hf hof hlt hbig hos hcs
    refine ⟨σ.set A0.nx ⟨W.heap.size, 0, nc * esz⟩, _, _, g2, ?_, Step.new hW0 _ _ 0 (nc * esz) dr ?_⟩
    · simp only [VRel, Sg.set_same]
      exact ⟨_, nc, rfl, by simp, g1, by simp, by omega⟩
    · intro τ hτ
      have hol := hor.length
      simp only [Array.length_toList] at hol
      refine ⟨cc, (0, 0), rfl, ?_, ?_, by simp, ?_, by simp⟩
      · show 0 + _ ≤ _
        rw [g3, List.length_append, hol, hos, hnl, ← Nat.add_mul, Nat.zero_add]
        exact Nat.mul_le_mul_right _ g1
      · rw [List.drop_zero, List.length_append, hol, hos, hnl, ← Nat.add_mul, g4]
        exact (VRels.mono hτ _ _ hor).append (VRels.mono hτ _ _ hr)
      · intro _; show 0 + nc * esz ≤ _; omega
  cases sa <;> simp only [appendTo] at h <;> first | (cases h; done) | skip
  case nilslice =>
    simp only [VRel] at hsr
    split at h
    · rename_i hn0'
      have hn0' := Nat.eq_of_beq_eq_true hn0'
      subst hn0'
      cases h
      subst hsr
      refine ⟨σ, .slice none 0 0, W, ?_, by simp [VRel], .refl hW⟩
      rw [append_room h0 h1 hs hxt hd hn (hl W rfl) (hf W rfl) (by omega)]
      rfl
    · rename_i hn0'
      have hn0' : n ≠ 0 := fun hc => hn0' (by rw [hc]; rfl)
      split at h
      · rename_i hle
        have hle := Nat.le_of_ble_eq_true hle
        cases h
        have := grow A hW 0 0 none [] #[] hsr (by omega) (by omega) VRels.nil (by simp) (fun w _ => rfl)
        simpa using this
      · cases h
  case slice a off len cap =>
    split at h
    · rename_i hn0'
      have hn0' := Nat.eq_of_beq_eq_true hn0'
      subst hn0'
      have hnil : c.toList = [] := by
        have : c.size = 0 := by rw [hcs]; simp
        exact List.length_eq_zero_iff.1 (by rw [Array.length_toList]; exact this)
      obtain ⟨e, cc, he, hse, hcc⟩ : ∃ e cc, σ a = some e ∧ s = .slice (some ⟨e.blk, e.sh + off, none⟩) len cc ∧ len ≤ cc := by
        cases cap with
        | k m =>
          simp only at h
          split at h
          · rename_i hle
            simp only [VRel] at hsr; obtain ⟨e, he, rfl⟩ := hsr; exact ⟨e, m, he, rfl, Nat.le_of_ble_eq_true hle⟩
          · cases h
        | g z => simp only [VRel] at hsr; obtain ⟨e, cc, he, rfl, hl, _⟩ := hsr; exact ⟨e, cc, he, rfl, hl⟩
      have hv : v = .slice a off len cap ∧ A' = A := by
        cases cap with
        | k m => simp only at h; split at h <;> cases h; exact ⟨rfl, rfl⟩
        | g z => cases h; exact ⟨rfl, rfl⟩
      obtain ⟨rfl, rfl⟩ := hv
      refine ⟨σ, s, W, ?_, hsr, .refl hW⟩
      subst hse
      rw [append_room h0 h1 hs hxt hd hn (hl W rfl) (hf W rfl) (by omega)]
      rw [hnil]; rfl
    · split at h
      · rename_i hn0' hbig
        have hn0' : n ≠ 0 := fun hc => hn0' (by rw [hc]; rfl)
        have hbig := Nat.le_of_ble_eq_true hbig
        split at h
        · rename_i l et' grown frz ho
          cases cap with
          | k m =>
            simp only [VRel] at hsr
            obtain ⟨e, he, rfl⟩ := hsr
            simp only at h
            split at h
            · rename_i hle
              have hle := Nat.le_of_ble_eq_true hle
              split at h
              · cases h
              · rename_i hfrz
                have hfrz : frz = false := by simpa using hfrz
                subst hfrz
                split at h
                · rename_i hone
                  split at h
                  · rename_i l' hl'
                    split at h
                    · rename_i A1 hp
                      cases h
                      obtain ⟨f, ob, hf', hb', hor⟩ := hW.obj a _ ho
                      rw [he] at hf'; cases hf'
                      obtain ⟨cc, fz, rfl, k1, k2, k3, k4, k5⟩ := hor
                      have hne : new ≠ [] := by
                        intro hc
                        have h9 : n * esz = 0 := by rw [← hnl, hc]; rfl
                        rcases Nat.mul_eq_zero.1 h9 with h | h
                        · exact hn0' h
                        · exact hn0 h
                      obtain ⟨p1, p2⟩ := putFrom_some hl' hne
                      have hst := storeCells_run (P := P) (et := et') (fz := fz) c.toList (e.sh + (off + len * esz)) 0 W cc hb' (allOne_rel hr hone) (k5 rfl) (by have := hr.length; omega)
                      refine ⟨σ, .slice (some ⟨e.blk, e.sh + off, none⟩) (len + n) m, _, ?_, by simp only [VRel]; exact ⟨e, he, rfl⟩, Step.put hW hp he (Obj.cells (cc.toList.take (e.sh + (off + len * esz) + 0) ++ c.toList ++ cc.toList.drop (e.sh + (off + len * esz) + 0 + c.toList.length)).toArray et' fz) W.drawn ?_⟩
                      · rw [append_room h0 h1 hs hxt hd hn (hl W rfl) (hf W rfl) hle]
                        simp only [Addr.add_none, Nat.add_assoc]
                        simp only [Nat.add_assoc] at hst
                        rw [hst]; rfl
                      · rw [p2]
                        exact OR.written (P := P) (σ := σ) (e := e) (c := cc) (fz := fz) (et := et') (g := grown) (l := l) ⟨cc, fz, rfl, k1, k2, k3, k4, k5⟩ (off := off + len * esz) hr p1
                    · cases h
                  · cases h
                · cases h
            · rename_i hle
              have hle : m < len + n := by
                have : ¬ (len + n ≤ m) := fun hc => hle (by rw [Nat.ble_eq]; exact hc)
                omega
              split at h
              · rename_i old hold
                cases h
                obtain ⟨us, hur, husz, hat⟩ := cells_at hW ho he hold
                exact grow A hW len m _ old us.toArray rfl hle hbig hur (by simpa using husz) (fun w hw => by
                  simp only [Builtin.firstCells]
                  rw [loadCells_at hat hw (by omega), List.take_of_length_le (by omega)])
              · cases h
          | g z' =>
            simp only [VRel] at hsr
            obtain ⟨e, cc, he, rfl, hlen, htot, hz0⟩ := hsr
            simp only at h
            split at h
            · cases h
            · rename_i hfrz
              have hfrz : frz = false := by simpa using hfrz
              subst hfrz
              split at h
              · rename_i hcond
                simp only [Bool.and_eq_true] at hcond
                obtain ⟨⟨⟨hgr, hze⟩, hee⟩, hone⟩ := hcond
                have hze := Nat.eq_of_beq_eq_true hze
                have hee := Nat.eq_of_beq_eq_true hee
                subst hze hee hgr
                split at h
                · rename_i old hold
                  split at h
                  · rename_i A1 hdrop
                    cases h
                    obtain ⟨us, hur, husz, hat⟩ := cells_at hW ho he hold
                    by_cases hroom : len + n ≤ cc
                    · -- there is room: the block goes on under a new name
                      obtain ⟨f, ob, hf', hb', hor⟩ := hW.obj a _ ho
                      rw [he] at hf'; cases hf'
                      obtain ⟨ca, fz, rfl, k1, k2, k3, k4, k5⟩ := hor
                      have k4 := k4 rfl
                      have hcl := hr.length
                      simp only [Array.length_toList] at hcl
                      have hmul : len * z' + n * z' ≤ cc * z' := by rw [← Nat.add_mul]; exact Nat.mul_le_mul_right _ hroom
                      have hst := storeCells_run (P := P) (et := el) (fz := fz) c.toList (e.sh + (off + len * z')) 0 W ca hb' (allOne_rel hr hone) (k5 rfl) (by simp only [Array.length_toList]; omega)
                      have hsize : (ca.toList.take (e.sh + (off + len * z') + 0) ++ c.toList ++ ca.toList.drop (e.sh + (off + len * z') + 0 + c.toList.length)).toArray.size = ca.size := by
                        simp; omega
                      refine ⟨σ.set A1.nx ⟨e.blk, e.sh + off, e.tot - off⟩, .slice (some ⟨e.blk, e.sh + off, none⟩) (len + n) cc, _, ?_, ?_, Step.move hW hdrop he _ (Obj.cells (ca.toList.take (e.sh + (off + len * z') + 0) ++ c.toList ++ ca.toList.drop (e.sh + (off + len * z') + 0 + c.toList.length)).toArray el fz) (e.sh + off) (e.tot - off) W.drawn ?_⟩
                      · rw [append_room h0 h1 hs hxt hd hn (hl W rfl) (hf W rfl) hroom]
                        simp only [Addr.add_none, Nat.add_assoc]
                        simp only [Nat.add_assoc] at hst
                        rw [hst]; rfl
                      · simp only [VRel, Sg.set_same]
                        exact ⟨_, cc, rfl, by simp, hroom, by simp only; omega, hz0⟩
                      · intro τ hτ
                        refine ⟨_, fz, rfl, ?_, ?_, by simp, fun _ => ?_, fun _ => ?_⟩
                        · rw [hsize]
                          have := hur.length
                          simp only [List.length_append]; omega
                        · have hdr : ((ca.toList.take (e.sh + (off + len * z') + 0) ++ c.toList ++ ca.toList.drop (e.sh + (off + len * z') + 0 + c.toList.length)).drop (e.sh + off)).take (old ++ new).length = us ++ c.toList := by
                            have hol := hur.length
                            simp only [Nat.add_zero]
                            rw [List.append_assoc, List.drop_append]
                            have e1 : (e.sh + off) - (List.take (e.sh + (off + len * z')) ca.toList).length = 0 := by simp; omega
                            rw [e1, List.drop_zero, List.drop_take, show e.sh + (off + len * z') - (e.sh + off) = len * z' by omega]
                            rw [List.length_append, hol, hcl, husz]
                            have e2 : (List.take (len * z') (List.drop (e.sh + off) ca.toList)).length = len * z' := by simp; omega
                            have e3 : List.take (len * z') (List.drop (e.sh + off) ca.toList) = us := by
                              apply List.ext_getElem?
                              intro j
                              by_cases hj : j < len * z'
                              · have hju : j < us.length := by omega
                                have := hat j us[j] (List.getElem?_eq_getElem hju)
                                simp only [World.cell?, hb', Option.isSome_none, Bool.false_eq_true, if_false] at this
                                rw [List.getElem?_take, if_pos hj, List.getElem?_drop, List.getElem?_eq_getElem hju]
                                simpa using this
                              · rw [List.getElem?_eq_none (by omega), List.getElem?_eq_none (by omega)]
                            rw [List.take_append, e2, List.take_of_length_le (by omega), e3]
                            congr 1
                            rw [Nat.add_sub_cancel_left, List.take_append_of_le_length (by rw [Array.length_toList]; omega), List.take_of_length_le (by rw [Array.length_toList]; omega)]
                          simp only
                          rw [hdr]
                          exact (VRels.mono hτ _ _ hur).append (VRels.mono hτ _ _ hr)
                        · rw [hsize]; show e.sh + off + (e.tot - off) ≤ _; omega
                        · rw [hsize]; exact k5 rfl
                    · -- a new block
                      have hdd := Step.drop hW hdrop
                      obtain ⟨d1, d2, d3, d4, d5⟩ := AW.drop_some hdrop
                      obtain ⟨σ', cv, W', q1, q2, q3⟩ := grow A1 hdd.rel len cc _ old us.toArray rfl (by omega) hbig hur (by simpa using husz) (fun w hw => by
                        simp only [Builtin.firstCells]
                        rw [loadCells_at hat hw (by omega), List.take_of_length_le (by omega)])
                      exact ⟨σ', cv, W', q1, q2, hdd.trans q3⟩
                  · cases h
                · cases h
              · cases h
        · cases h
      · cases h
end Go.AE
namespace Go.AE
variable {P : Program} {σ : Sg} {A : AW} {W : World} {T : TM} {a : Act}
theorem copy_ok (hW : WRel P σ A W) {at_ : Array TypeId} {ty st el : TypeId} {esz : Nat} (h0 : at_[0]? = some st) (hs : P.underlying st = some (.slice el)) (hn : sizeT P el = some esz) (hn0 : esz ≠ 0)
    {d s : Value} {zd zs : Arg} {v : AV} {A' : AW} (hdr : VRel σ (zd.ev T) d) (hsr : VRel σ (zs.ev T) s) (h : iop T A (.copy esz zd zs) = some (v, A')) :
    ResV P σ A W ((Builtin.copy_ at_ ty #[d, s]).run P W) v A' := by
  simp only [iop] at h
  split at h
  · cases h
  · rename_i cs n hsrc
    obtain ⟨c, hl, hf, hr, hcs, htake⟩ := src_ok hW hsr hsrc
    have hrun : ∀ (base : Option Addr) (dl cap : Nat), d = .slice base dl cap → (Builtin.copy_ at_ ty #[d, s]).run P W = ((match base with
        | some b => storeCells b (c.toList.take (Nat.min n dl * esz))
        | none => Pure.pure () : Sem Unit).run P W).andThen fun _ w => .ok (goInt (Nat.min n dl)) w := by
      intro base dl cap hd
      subst hd
      simp only [Builtin.copy_, h0, List.getElem?_toArray, List.getElem?_cons_zero, List.getElem?_cons_succ, Sem.run_bind, underlying_run hs, Result.andThen_ok, hl W rfl, sizeOf_run hn]
      rw [htake (Nat.min n dl) (Nat.min_le_left _ _) W rfl]
      simp only [Result.andThen_ok]
      cases base with
      | none => rfl
      | some b => simp only [Sem.run_bind, Sem.run_pure]
    generalize zd.ev T = ad at hdr h
    cases ad <;> simp only at h <;> first | (cases h; done) | skip
    case nilslice =>
      cases h
      simp only [VRel] at hdr
      refine ⟨σ, goInt 0, W, ?_, by simp [VRel, goInt], .refl hW⟩
      rw [hrun none 0 0 hdr]
      simp
    case zslice =>
      cases h
      simp only [VRel] at hdr
      obtain ⟨b, cap, hdr⟩ := hdr
      refine ⟨σ, goInt 0, W, ?_, by simp [VRel, goInt], .refl hW⟩
      rw [hrun (some b) 0 cap hdr]
      simp [storeCells]
    case slice i off dl cap =>
      obtain ⟨e, cc, he, hd⟩ := slice_addr hdr
      have hr1 := hrun _ _ _ hd
      split at h
      · rename_i hk0
        have hk0 := Nat.eq_of_beq_eq_true hk0
        cases h
        refine ⟨σ, goInt 0, W, ?_, by simp [VRel, goInt], .refl hW⟩
        rw [hr1, hk0]
        simp [storeCells]
      · rename_i hk0
        split at h
        · rename_i l et g frz ho
          split at h
          · cases h
          · rename_i hfrz
            have hfrz : frz = false := by simpa using hfrz
            subst hfrz
            split at h
            · rename_i cs' hcs'
              split at h
              · rename_i hone
                split at h
                · rename_i l' hl'
                  split at h
                  · rename_i A1 hp
                    cases h
                    obtain ⟨hlen, rfl⟩ := takeN_some hcs'
                    have hr2 := hr.take (Nat.min n dl * esz)
                    obtain ⟨f, ob, hf', hb', hor⟩ := hW.obj i _ ho
                    rw [he] at hf'; cases hf'
                    obtain ⟨ca, fz, rfl, k1, k2, k3, k4, k5⟩ := hor
                    have hne : cs.take (Nat.min n dl * esz) ≠ [] := by
                      intro hc
                      have h9 := congrArg List.length hc
                      rw [List.length_take, Nat.min_eq_left hlen] at h9
                      have h9 : Nat.min n dl * esz = 0 := h9
                      rcases Nat.mul_eq_zero.1 h9 with h | h
                      · exact hk0 (by rw [h]; rfl)
                      · exact hn0 h
                    obtain ⟨p1, p2⟩ := putFrom_some hl' hne
                    have hrl := hr2.length
                    have hst := storeCells_run (P := P) (et := et) (fz := fz) (c.toList.take (Nat.min n dl * esz)) (e.sh + off) 0 W ca hb' (allOne_rel hr2 hone) (k5 rfl) (by omega)
                    refine ⟨σ, goInt (Nat.min n dl), _, ?_, by simp [VRel, goInt], Step.put hW hp he (Obj.cells (ca.toList.take (e.sh + off + 0) ++ c.toList.take (Nat.min n dl * esz) ++ ca.toList.drop (e.sh + off + 0 + (c.toList.take (Nat.min n dl * esz)).length)).toArray et fz) W.drawn ?_⟩
                    · rw [hr1]
                      simp only
                      rw [hst]; rfl
                    · rw [p2]
                      exact OR.written (P := P) (σ := σ) (e := e) (c := ca) (fz := fz) (et := et) (g := g) (l := l) ⟨ca, fz, rfl, k1, k2, k3, k4, k5⟩ (off := off) hr2 p1
                  · cases h
                · cases h
              · cases h
            · cases h
        · cases h
theorem slarr_ok (hW : WRel P σ A W) (hT : TRel σ T a.tmps) (hG : GRel P σ) {t el : TypeId} {n esz h l off : Nat} {b : Ix} {x : Value} {lo hi : Option Operand} {zlo zhi : Option Arg} (hu : P.underlying t = some (.array n el)) (hn : sizeT P el = some esz)
    (hx : VRel σ (.ptr b off) x) (h1 : optArg P lo = some zlo) (h2 : optArg P hi = some zhi) (hh : bndO T n n zhi = some h) (hl : bndO T h 0 zlo = some l) :
    ResV P σ A W ((Instr.sliceAt t x (lo.map a.eval) (hi.map a.eval) none).run P W) (if Nat.beq l n then .zslice else .slice b (off + l * esz) (h - l) (.k (n - l))) A := by
  simp only [VRel] at hx
  obtain ⟨e, he, rfl⟩ := hx
  have hb := bounds2 (isS := false) (cap := n) hT hG h1 h2 hh hl (Nat.le_refl _) W
  have hle : h ≤ n := by rcases hb.2.1 with h | h <;> omega
  refine ⟨σ, .slice (some (if n = l then ⟨e.blk, e.sh + off, none⟩ else ⟨e.blk, e.sh + (off + l * esz), none⟩)) (h - l) (n - l), W, ?_, ?_, .refl hW⟩
  · simp only [Instr.sliceAt, Sem.run_bind, underlying_run hu, Result.andThen_ok]
    simp only [Instr.sureAddr, Sem.run_bind, Sem.run_pure, Result.andThen_ok, hb.2.2, sizeOf_run hn, Addr.add_none, Nat.add_assoc]
  · by_cases hln : l = n
    · subst hln
      rw [if_pos (Nat.beq_refl _), if_pos rfl]
      simp only [VRel]
      exact ⟨_, _, by rw [show h - l = 0 by have := hb.1; omega]⟩
    · rw [if_neg (fun hc => hln (Nat.eq_of_beq_eq_true hc)), if_neg (fun hc => hln hc.symm)]
      simp only [VRel]
      exact ⟨e, he, rfl⟩
theorem wrap_small (n : Nat) (h : n ≤ 2 ^ 40) : IntKind.i64.wrap (Int.ofNat n) = n := by
  have e : (Int.ofNat n) % (2 ^ 64 : Int) = n := by
    have : (Int.ofNat n) = (n : Int) := rfl
    rw [this]; omega
  show (let m := (Int.ofNat n) % (2 ^ 64 : Int); if (true && decide (m ≥ (2 ^ 63 : Int))) = true then m - 2 ^ 64 else m) = _
  rw [e]
  simp only [Bool.true_and, decide_eq_true_eq]
  rw [if_neg (by omega)]
theorem mkslice_ok (hW : WRel P σ A W) {t el : TypeId} {i : TypeInfo} {z : AV} {n c : Nat} {k k' : IntKind} {xl xc : Value} (hu : P.underlying t = some (.slice el)) (hi : P.info? el = some i) (hz : zeroOf P el = some z) (hn : sizeT P el = some z.cells.length)
    (h0 : z.cells.length ≠ 0) (hl : VRel σ (.int k (.ofNat n)) xl) (hc : VRel σ (.int k' (.ofNat c)) xc) (hnc : n ≤ c) (hcb : c ≤ 2 ^ 30) (hib : i.bytes ≤ 2 ^ 17) :
    ResV P σ A W ((Instr.makeSlice t xl xc).run P W) (.slice A.nx 0 n (.k c)) (A.new (.cells (AE.repl c z.cells) el false false)) := by
  simp only [VRel] at hl hc; subst hl hc
  obtain ⟨v, hv, hr⟩ := zeroValue_run (σ := σ) hz W
  have hcl := hr.cells (zeroOf_spec hz).1
  have hlen := hcl.length
  simp only [Array.length_toList] at hlen
  have hmul : i.bytes * c ≤ 2 ^ 17 * 2 ^ 30 := Nat.mul_le_mul hib hcb
  have w1 : IntKind.i64.wrap (Int.ofNat n) = n := wrap_small n (by omega)
  have w2 : IntKind.i64.wrap (Int.ofNat c) = c := wrap_small c (by omega)
  refine ⟨σ.set A.nx ⟨W.heap.size, 0, 0⟩, .slice (some ⟨W.heap.size, 0, none⟩) n c, { W with heap := W.heap.push (.cells (AE.repl c v.cells.toList).toArray el) }, ?_, by simp [VRel, Sg.set_same], Step.new hW _ _ 0 0 W.drawn ?_⟩
  · simp only [Instr.makeSlice, Sem.run_bind, underlying_run hu, Result.andThen_ok]
    simp only [asInt, asIntOf, Sem.run_bind, Sem.run_pure, Result.andThen_ok, typeInfo, run_program, hi]
    rw [w1, w2]
    have hcond : ¬ (((decide ((c : Int) < 0) || decide ((i.bytes : Int) * (c : Int) > 2 ^ 48)) || decide ((n : Int) < 0) || decide ((n : Int) > (c : Int))) = true) := by
      simp only [Bool.or_eq_true, decide_eq_true_eq]
      have : (i.bytes : Int) * (c : Int) = ((i.bytes * c : Nat) : Int) := by simp
      rw [this]
      omega
    rw [if_neg hcond]
    simp only [Sem.run_bind, run_askRoom, Result.andThen_ok, sizeOf_run hn, Int.toNat_natCast]
    split
    · rename_i hz0
      have hc0 : c = 0 := by rcases Nat.mul_eq_zero.1 hz0 with h | h; exact h; exact absurd h h0
      subst hc0
      have e0 : ∀ f : Nat → Value, Array.map f (Array.range 0) = #[] := fun f => by simp
      simp only [Nat.zero_mul, e0, AE.repl, newRow, Sem.run_bind, Sem.run_pure, Result.andThen_ok, run_newObj]
    · have h3 := range_repl v.cells c (by rw [← hlen]; exact h0)
      simp only [Sem.run_bind, hv, Result.andThen_ok, Sem.run_pure, newRow, run_newObj]
      rw [hlen, h3]
  · intro τ hτ
    have hrel := (VRels.mono hτ _ _ hcl).repl c
    have hl2 := hrel.length
    refine ⟨_, (0, 0), rfl, ?_, ?_, ?_, by simp, by simp⟩
    · show 0 + _ ≤ _
      rw [hl2, Nat.zero_add, List.size_toArray]; exact Nat.le_refl _
    · simp only [List.drop_zero]
      rw [List.take_of_length_le (by rw [hl2]; exact Nat.le_refl _)]
      exact hrel
    · intro _; exact ⟨rfl, by rw [hl2, List.size_toArray]⟩
end Go.AE
namespace Go.AE
variable {P : Program} {σ : Sg} {A : AW} {W : World}
theorem keyK_und {t : TypeId} {kk : EqK} (h : keyK P t = some kk) : ∃ td, P.underlying t = some td ∧ ((∃ k, td = .int k ∧ kk = .i) ∨ (td = .string ∧ kk = .s) ∨ (td = .bool ∧ kk = .b)) := by
  unfold keyK at h
  split at h
  · rename_i k hu; cases h; exact ⟨_, hu, .inl ⟨k, rfl, rfl⟩⟩
  · rename_i hu; cases h; exact ⟨_, hu, .inr (.inl ⟨rfl, rfl⟩)⟩
  · rename_i hu; cases h; exact ⟨_, hu, .inr (.inr ⟨rfl, rfl⟩)⟩
  · cases h
theorem checkKey_run {t : TypeId} {kk : EqK} (h : keyK P t = some kk) (b : Bool) (n : Nat) (v : Value) (w : World) : (Instr.checkKey b (n + 1) t v).run P w = .ok () w := by
  obtain ⟨td, hu, hc⟩ := keyK_und h
  simp only [Instr.checkKey, Sem.run_bind, underlying_run hu, Result.andThen_ok]
  rcases hc with ⟨k, rfl, _⟩ | ⟨rfl, _⟩ | ⟨rfl, _⟩ <;> rfl
theorem sameNow_ok {t : TypeId} {kk : EqK} {td : TypeDesc} (h : keyK P t = some kk) (hu : P.underlying t = some td) {x y : AV} {a b : Value} {r : Bool} (hx : VRel σ x a) (hy : VRel σ y b) (hr : cellEq kk x y = some r) :
    Instr.sameNow td a b = some r := by
  obtain ⟨td', hu', hc⟩ := keyK_und h
  rw [hu] at hu'; cases hu'
  rcases hc with ⟨k, rfl, rfl⟩ | ⟨rfl, rfl⟩ | ⟨rfl, rfl⟩
  · cases x <;> cases y <;> simp only [cellEq] at hr <;> first | (cases hr; done) | skip
    split at hr
    · rename_i hk; subst hk; cases hr
      simp only [VRel] at hx hy; subst hx hy
      simp [Instr.sameNow]
    · cases hr
  · cases x <;> cases y <;> simp only [cellEq] at hr <;> first | (cases hr; done) | skip
    cases hr
    simp only [VRel] at hx hy
    obtain ⟨s, rfl, rfl⟩ := hx
    obtain ⟨u, rfl, rfl⟩ := hy
    simp only [Instr.sameNow]
    rw [bytesEq_of, beq_toListBytes, ByteArray.toList_eq, ByteArray.toList_eq]
  · cases x <;> cases y <;> simp only [cellEq] at hr <;> first | (cases hr; done) | skip
    cases hr
    simp only [VRel] at hx hy; subst hx hy
    simp [Instr.sameNow]
theorem findNow_ok {t : TypeId} {kk : EqK} {td : TypeDesc} (h : keyK P t = some kk) (hu : P.underlying t = some td) {x : AV} {a : Value} (hx : VRel σ x a) : ∀ {es : List (AV × AV × Nat)} {ces : List MapEntry} {i : Nat} {r : Option (Nat × AV × Nat)},
    ESRel σ es ces → findKey kk x es i = some r → match r with
      | none => Instr.findNow td a ces i = some none
      | some (j, v, b) => ∃ cv, Instr.findNow td a ces i = some (some (j, cv)) ∧ VRel σ v cv ∧ i ≤ j ∧ ∃ k, es[j - i]? = some (k, v, b) ∧ cellEq kk x k = some true
  | [], ces, i, r, he, hf => by
    simp only [ESRel] at he; subst he
    simp [findKey] at hf; subst hf
    simp [Instr.findNow]
  | (k, v, b) :: es, ces, i, r, he, hf => by
    simp only [ESRel] at he
    obtain ⟨c, rest, rfl, h1, h2, h3, h4⟩ := he
    simp only [findKey] at hf
    cases hc : cellEq kk x k with
    | none => rw [hc] at hf; cases hf
    | some q =>
      rw [hc] at hf
      have hs := sameNow_ok h hu hx h1 hc
      cases q with
      | true =>
        cases hf
        simp only
        exact ⟨c.val, by simp [Instr.findNow, hs], h2, Nat.le_refl _, k, by simp, hc⟩
      | false =>
        simp only at hf
        have ih := findNow_ok h hu hx (i := i + 1) h4 hf
        cases r with
        | none => simp only at ih ⊢; simp [Instr.findNow, hs, ih]
        | some p =>
          obtain ⟨j, v', b'⟩ := p
          simp only at ih ⊢
          obtain ⟨cv, g1, g2, g3, k', g4, g5⟩ := ih
          refine ⟨cv, by simp [Instr.findNow, hs, g1], g2, by omega, k', ?_, g5⟩
          rw [show j - i = (j - (i + 1)) + 1 by omega]
          simpa using g4
theorem findKey_run {t : TypeId} {td : TypeDesc} {a : Value} {ces : List MapEntry} {r : Option (Nat × Value)} (hu : P.underlying t = some td) (h : Instr.findNow td a ces 0 = some r) (w : World) : (Instr.findKey t a ces).run P w = .ok r w := by
  simp only [Instr.findKey, Sem.run_bind, underlying_run hu, Result.andThen_ok, h, Sem.run_pure]
/-- the object of a map -/
theorem map_obj (hW : WRel P σ A W) {x : Value} {a : Ix} {es : List (AV × AV × Nat)} {clock : Nat} (hx : VRel σ (.map a) x) (ho : A.get a = some (.map es clock)) :
    ∃ e ces, σ a = some e ∧ x = .map (some e.blk) ∧ W.heap[e.blk]? = some (.map ces clock) ∧ ESRel σ es ces.toList ∧ ∀ q, q ∈ es → q.2.2 < clock := by
  simp only [VRel] at hx
  obtain ⟨e, he, rfl⟩ := hx
  obtain ⟨f, ob, hf, hb, ces, rfl, h1, h2⟩ := hW.obj a _ ho
  rw [he] at hf; cases hf
  exact ⟨e, ces, he, rfl, hb, h1, h2⟩
theorem getObj_map {W : World} {b : Nat} {ces : Array MapEntry} {clock : Nat} (h : W.heap[b]? = some (.map ces clock)) : (getObj b).run P W = .ok (.map ces clock) W := by
  simp [getObj, Sem.run, h]
theorem setObj_map {W : World} {b : Nat} {ces : Array MapEntry} {clock : Nat} (o : Obj) (h : W.heap[b]? = some (.map ces clock)) : (setObj b o).run P W = .ok () { W with heap := W.heap.setIfInBounds b o } := by
  simp [setObj, Sem.run, h]
theorem lookup_ok (hW : WRel P σ A W) {t q el : TypeId} {kk : EqK} {zero : AV} {ok : Bool} {zm zk : Arg} {T : TM} {m k : Value} {v : AV} {A' : AW} (hu : P.underlying t = some (.map q el)) (hkk : keyK P q = some kk) (hz : zeroOf P el = some zero)
    (hm : VRel σ (zm.ev T) m) (hk : VRel σ (zk.ev T) k) (h : iop T A (.lookup kk zero ok zm zk) = some (v, A')) : ResV P σ A W ((Instr.lookup t m k ok).run P W) v A' := by
  obtain ⟨zv, hzv, hzr⟩ := zeroValue_run (σ := σ) hz W
  obtain ⟨td, hq, _⟩ := keyK_und hkk
  have hres : ∀ (x : AV) (cx : Value) (b : Bool), VRel σ x cx → VRel σ (if ok then .tup [x, .bool b] else x) (if ok then .tuple #[cx, .bool b] else cx) := by
    intro x cx b hx
    cases ok with
    | true => simp only [if_true, VRel]; exact ⟨_, rfl, VRels.cons hx (VRels.cons (by simp [VRel]) VRels.nil)⟩
    | false => exact hx
  simp only [iop] at h
  generalize zm.ev T = am at hm h
  cases am <;> simp only at h <;> first | (cases h; done) | skip
  case nilmap =>
    cases h
    simp only [VRel] at hm; subst hm
    refine ⟨σ, _, W, ?_, hres zero zv false hzr, .refl hW⟩
    simp only [Instr.lookup, Sem.run_bind, underlying_run hu, Result.andThen_ok, Sem.run_pure, checkKey_run hkk]
    have : (Instr.findKey q k (#[] : Array MapEntry).toList).run P W = .ok none W := findKey_run hq (by simp [Instr.findNow]) W
    rw [this]
    simp only [Result.andThen_ok, Sem.run_bind, hzv, Sem.run_pure]
  case map a =>
    split at h
    · rename_i es clock ho
      obtain ⟨e, ces, he, rfl, hb, hes, _⟩ := map_obj hW hm ho
      split at h
      · rename_i j x b hf
        cases h
        have := findNow_ok hkk hq hk hes hf
        simp only at this
        obtain ⟨cv, g1, g2, _⟩ := this
        refine ⟨σ, _, W, ?_, hres x cv true g2, .refl hW⟩
        simp only [Instr.lookup, Sem.run_bind, underlying_run hu, Result.andThen_ok, getObj_map hb, Sem.run_pure, checkKey_run hkk, findKey_run hq g1]
      · rename_i hf
        cases h
        have := findNow_ok hkk hq hk hes hf
        simp only at this
        refine ⟨σ, _, W, ?_, hres zero zv false hzr, .refl hW⟩
        simp only [Instr.lookup, Sem.run_bind, underlying_run hu, Result.andThen_ok, getObj_map hb, Sem.run_pure, checkKey_run hkk, findKey_run hq this, hzv]
      · cases h
    · cases h
end Go.AE
namespace Go.AE
variable {P : Program} {σ : Sg} {A : AW} {W : World}
theorem ESRel.length : ∀ {es : List (AV × AV × Nat)} {ces : List MapEntry}, ESRel σ es ces → es.length = ces.length
  | [], _, h => by simp only [ESRel] at h; subst h; rfl
  | (_, _, _) :: es, _, h => by simp only [ESRel] at h; obtain ⟨c, rest, rfl, _, _, _, h⟩ := h; simp [ESRel.length h]
theorem ESRel.get : ∀ {es : List (AV × AV × Nat)} {ces : List MapEntry} {i : Nat} {k v : AV} {b : Nat}, ESRel σ es ces → es[i]? = some (k, v, b) → ∃ c, ces[i]? = some c ∧ VRel σ k c.key ∧ VRel σ v c.val ∧ c.born = b
  | [], _, _, _, _, _, _, h => by simp at h
  | (k', v', b') :: es, _, 0, _, _, _, h, hi => by
    simp only [ESRel] at h; obtain ⟨c, rest, rfl, h1, h2, h3, _⟩ := h
    simp at hi; obtain ⟨rfl, rfl, rfl⟩ := hi
    exact ⟨c, rfl, h1, h2, h3⟩
  | (k', v', b') :: es, _, i + 1, _, _, _, h, hi => by
    simp only [ESRel] at h; obtain ⟨c, rest, rfl, _, _, _, h4⟩ := h
    obtain ⟨c', g⟩ := ESRel.get h4 (by simpa using hi)
    exact ⟨c', by simpa using g⟩
theorem ESRel.set : ∀ {es : List (AV × AV × Nat)} {ces : List MapEntry} (i : Nat) {k v : AV} {c : MapEntry}, ESRel σ es ces → VRel σ k c.key → VRel σ v c.val → ESRel σ (es.set i (k, v, c.born)) (ces.set i c)
  | [], _, _, _, _, _, h, _, _ => by simp only [ESRel] at h; subst h; simp [ESRel]
  | (_, _, _) :: es, _, 0, _, _, c, h, hk, hv => by
    simp only [ESRel] at h; obtain ⟨c', rest, rfl, _, _, _, h4⟩ := h
    simp only [List.set_cons_zero, ESRel]; exact ⟨c, rest, rfl, hk, hv, rfl, h4⟩
  | (_, _, _) :: es, _, i + 1, _, _, c, h, hk, hv => by
    simp only [ESRel] at h; obtain ⟨c', rest, rfl, h1, h2, h3, h4⟩ := h
    simp only [List.set_cons_succ, ESRel]; exact ⟨c', _, rfl, h1, h2, h3, ESRel.set i h4 hk hv⟩
theorem ESRel.snoc : ∀ {es : List (AV × AV × Nat)} {ces : List MapEntry} {k v : AV} {c : MapEntry}, ESRel σ es ces → VRel σ k c.key → VRel σ v c.val → ESRel σ (es ++ [(k, v, c.born)]) (ces ++ [c])
  | [], _, _, _, c, h, hk, hv => by simp only [ESRel] at h; subst h; simp only [List.nil_append, ESRel]; exact ⟨c, [], rfl, hk, hv, rfl, rfl⟩
  | (_, _, _) :: es, _, _, _, c, h, hk, hv => by
    simp only [ESRel] at h; obtain ⟨c', rest, rfl, h1, h2, h3, h4⟩ := h
    simp only [List.cons_append, ESRel]; exact ⟨c', _, rfl, h1, h2, h3, ESRel.snoc h4 hk hv⟩
theorem delAt_eq {α : Type} : ∀ (l : List α) (i : Nat), delAt l i = l.eraseIdx i
  | [], _ => by simp [delAt]
  | _ :: _, 0 => by simp [delAt]
  | _ :: l, i + 1 => by simp [delAt, delAt_eq l i]
theorem ESRel.erase : ∀ {es : List (AV × AV × Nat)} {ces : List MapEntry} (i : Nat), ESRel σ es ces → ESRel σ (es.eraseIdx i) (ces.eraseIdx i)
  | [], _, _, h => by simp only [ESRel] at h; subst h; simp [ESRel]
  | (_, _, _) :: es, _, 0, h => by simp only [ESRel] at h; obtain ⟨c', rest, rfl, _, _, _, h4⟩ := h; exact h4
  | (_, _, _) :: es, _, i + 1, h => by
    simp only [ESRel] at h; obtain ⟨c', rest, rfl, h1, h2, h3, h4⟩ := h
    simp only [List.eraseIdx_cons_succ, ESRel]; exact ⟨c', _, rfl, h1, h2, h3, ESRel.erase i h4⟩
theorem keyStays {kk : EqK} {x y : AV} {a b : Value} (hx : VRel σ x a) (hy : VRel σ y b) (h : cellEq kk x y = some true) (w : World) : (Instr.keyThatStays b a).run P w = .ok a w := by
  have hs : Instr.sameBits 10000 b a = true := by
    cases kk <;> cases x <;> cases y <;> simp only [cellEq] at h <;> first | (cases h; done) | skip
    · rename_i p q
      cases h' : (p == q) <;> rw [h'] at h <;> first | (cases h; done) | skip
      have := eq_of_beq h'; subst this
      simp only [VRel] at hx hy; subst hx hy; simp [Instr.sameBits]
    · split at h
      · rename_i hk; subst hk
        rename_i kp p q
        cases h' : (p == q) <;> rw [h'] at h <;> first | (cases h; done) | skip
        have := eq_of_beq h'; subst this
        simp only [VRel] at hx hy; subst hx hy; simp [Instr.sameBits]
      · cases h
    · simp only [VRel] at hx hy
      obtain ⟨s, rfl, rfl⟩ := hx
      obtain ⟨u, rfl, rfl⟩ := hy
      have h' : bytesEq (s.data.toList.map UInt8.toNat) (u.data.toList.map UInt8.toNat) = true := by simpa using h
      rw [bytesEq_of] at h'
      have := eq_of_beq h'
      have hsu : s = u := by
        obtain ⟨⟨s⟩⟩ := s; obtain ⟨⟨u⟩⟩ := u; simp at this; rw [this]
      subst hsu
      simp only [Instr.sameBits]
      rw [beq_toListBytes]
      exact beq_self_eq_true _
  simp only [Instr.keyThatStays, hs, if_true, Sem.run_pure]
theorem mod_eq (ces : Array MapEntry) (i : Nat) (c : MapEntry) (f : MapEntry → MapEntry) (h : ces[i]? = some c) : (ces.modify i f).toList = ces.toList.set i (f c) := by
  obtain ⟨hlt, hc⟩ := Array.getElem?_eq_some_iff.1 h
  apply List.ext_getElem?
  intro j
  simp only [Array.getElem?_toList, Array.getElem?_modify, List.getElem?_set]
  by_cases hj : i = j
  · subst hj; simp [hlt, hc]
  · simp [hj]
theorem mupd_ok (hW : WRel P σ A W) {t q el : TypeId} {kk : EqK} {zm zk zv : Arg} {T : TM} {m k x : Value} {v : AV} {A' : AW} (hu : P.underlying t = some (.map q el)) (hkk : keyK P q = some kk)
    (hm : VRel σ (zm.ev T) m) (hk : VRel σ (zk.ev T) k) (hx : VRel σ (zv.ev T) x) (h : iop T A (.mupd kk zm zk zv) = some (v, A')) :
    v = .undef ∧ ∃ W', (Instr.mapUpdate t m k x).run P W = .ok () W' ∧ Step P σ A W σ A' W' := by
  obtain ⟨td, hq, _⟩ := keyK_und hkk
  simp only [iop] at h
  generalize zm.ev T = am at hm h
  cases am <;> simp only at h <;> first | (cases h; done) | skip
  case map a =>
    split at h
    · rename_i es clock ho
      obtain ⟨e, ces, he, rfl, hb, hes, hbn⟩ := map_obj hW hm ho
      split at h
      · rename_i j y b hf
        split at h
        · rename_i A1 hp
          cases h
          have := findNow_ok hkk hq hk hes hf
          simp only at this
          obtain ⟨cv, g1, g2, _, k', g4, g5⟩ := this
          rw [Nat.sub_zero] at g4
          obtain ⟨c, hc, c1, c2, c3⟩ := ESRel.get hes g4
          have hc' : ces[j]? = some c := by simpa using hc
          refine ⟨rfl, _, ?_, Step.put hW hp he (.map (ces.modify j fun e => { e with key := k, val := x }) clock) W.drawn ?_⟩
          · simp only [Instr.mapUpdate, Sem.run_bind, underlying_run hu, Result.andThen_ok, getObj_map hb, checkKey_run hkk, findKey_run hq g1, hc', Option.map_some, Option.getD_some, keyStays hk c1 g5, setObj_map _ hb]
          · refine ⟨_, rfl, ?_, ?_⟩
            · rw [mod_eq ces j c _ hc', listSet_eq, ← c3]
              exact ESRel.set j (c := { c with key := k, val := x }) hes hk hx
            · intro p hp'
              rw [listSet_eq] at hp'
              rcases List.mem_or_eq_of_mem_set hp' with h' | rfl
              · exact hbn p h'
              · exact hbn (k', y, b) (List.mem_of_getElem? g4)
        · cases h
      · rename_i hf
        split at h
        · rename_i A1 hp
          cases h
          have := findNow_ok hkk hq hk hes hf
          simp only at this
          refine ⟨rfl, _, ?_, Step.put hW hp he (.map (ces.push { key := k, val := x, born := clock }) (clock + 1)) W.drawn ?_⟩
          · simp only [Instr.mapUpdate, Sem.run_bind, underlying_run hu, Result.andThen_ok, getObj_map hb, checkKey_run hkk, findKey_run hq this, setObj_map _ hb]
          · refine ⟨_, rfl, ?_, ?_⟩
            · rw [Array.toList_push]
              exact ESRel.snoc (c := { key := k, val := x, born := clock }) hes hk hx
            · intro p hp'
              rcases List.mem_append.1 hp' with h' | h'
              · have := hbn p h'; omega
              · simp at h'; subst h'; simp
        · cases h
      · cases h
    · cases h
theorem mentry_ok (hW : WRel P σ A W) {t q el : TypeId} {kk : EqK} {zero : AV} {zm zk : Arg} {T : TM} {m k : Value} {v : AV} {A' : AW} (hu : P.underlying t = some (.map q el)) (hkk : keyK P q = some kk) (hz : zeroOf P el = some zero)
    (hm : VRel σ (zm.ev T) m) (hk : VRel σ (zk.ev T) k) (h : iop T A (.mentry kk zero zm zk) = some (v, A')) : ResV P σ A W ((Instr.mapEntry t m k).run P W) v A' := by
  obtain ⟨td, hq, _⟩ := keyK_und hkk
  obtain ⟨zv, hzv, hzr⟩ := zeroValue_run (σ := σ) hz W
  simp only [iop] at h
  generalize zm.ev T = am at hm h
  cases am <;> simp only at h <;> first | (cases h; done) | skip
  case map a =>
    split at h
    · rename_i es clock ho
      obtain ⟨e, ces, he, rfl, hb, hes, hbn⟩ := map_obj hW hm ho
      split at h
      · rename_i j y b hf
        split at h
        · rename_i A1 hp
          cases h
          have := findNow_ok hkk hq hk hes hf
          simp only at this
          obtain ⟨cv, g1, g2, _, k', g4, g5⟩ := this
          rw [Nat.sub_zero] at g4
          obtain ⟨c, hc, c1, c2, c3⟩ := ESRel.get hes g4
          have hc' : ces[j]? = some c := by simpa using hc
          refine ⟨σ, .tuple #[cv, goInt b], _, ?_, ?_, Step.put hW hp he (.map (ces.modify j fun e => { e with key := k }) clock) W.drawn ?_⟩
          · simp only [Instr.mapEntry, Sem.run_bind, underlying_run hu, Result.andThen_ok, getObj_map hb, checkKey_run hkk, findKey_run hq g1, hc', Option.map_some, Option.getD_some, keyStays hk c1 g5, setObj_map _ hb, Sem.run_pure, c3]
          · simp only [VRel]; exact ⟨_, rfl, VRels.cons g2 (VRels.cons (by simp [VRel, goInt]) VRels.nil)⟩
          · refine ⟨_, rfl, ?_, ?_⟩
            · rw [mod_eq ces j c _ hc', listSet_eq, ← c3]
              have hcv : ∃ q, es[j]? = some (k', y, q) := ⟨_, g4⟩
              exact ESRel.set j (c := { c with key := k }) hes hk c2
            · intro p hp'
              rw [listSet_eq] at hp'
              rcases List.mem_or_eq_of_mem_set hp' with h' | rfl
              · exact hbn p h'
              · exact hbn (k', y, b) (List.mem_of_getElem? g4)
        · cases h
      · rename_i hf
        split at h
        · rename_i A1 hp
          cases h
          have := findNow_ok hkk hq hk hes hf
          simp only at this
          refine ⟨σ, .tuple #[zv, goInt clock], _, ?_, ?_, Step.put hW hp he (.map (ces.push { key := k, val := zv, born := clock }) (clock + 1)) W.drawn ?_⟩
          · simp only [Instr.mapEntry, Sem.run_bind, underlying_run hu, Result.andThen_ok, getObj_map hb, checkKey_run hkk, findKey_run hq this, hzv, setObj_map _ hb, Sem.run_pure]
          · simp only [VRel]; exact ⟨_, rfl, VRels.cons hzr (VRels.cons (by simp [VRel, goInt]) VRels.nil)⟩
          · refine ⟨_, rfl, ?_, ?_⟩
            · rw [Array.toList_push]
              exact ESRel.snoc (c := { key := k, val := zv, born := clock }) hes hk hzr
            · intro p hp'
              rcases List.mem_append.1 hp' with h' | h'
              · have := hbn p h'; omega
              · simp at h'; subst h'; simp
        · cases h
      · cases h
    · cases h
theorem del_ok (hW : WRel P σ A W) {at_ : Array TypeId} {ty t q el : TypeId} {kk : EqK} {zm zk : Arg} {T : TM} {m k : Value} {v : AV} {A' : AW} (h0 : at_[0]? = some t) (hu : P.underlying t = some (.map q el)) (hkk : keyK P q = some kk)
    (hm : VRel σ (zm.ev T) m) (hk : VRel σ (zk.ev T) k) (h : iop T A (.del kk zm zk) = some (v, A')) : ResV P σ A W ((Builtin.delete_ at_ ty #[m, k]).run P W) v A' := by
  obtain ⟨td, hq, _⟩ := keyK_und hkk
  have hv : VRel σ (.tup []) (.tuple #[]) := by simp only [VRel]; exact ⟨#[], rfl, VRels.nil⟩
  simp only [iop] at h
  generalize zm.ev T = am at hm h
  cases am <;> simp only at h <;> first | (cases h; done) | skip
  case nilmap =>
    cases h
    simp only [VRel] at hm; subst hm
    refine ⟨σ, .tuple #[], W, ?_, hv, .refl hW⟩
    simp only [Builtin.delete_, h0, List.getElem?_toArray, List.getElem?_cons_zero, List.getElem?_cons_succ, Sem.run_bind, underlying_run hu, Result.andThen_ok, checkKey_run hkk, Sem.run_pure]
  case map a =>
    split at h
    · rename_i es clock ho
      obtain ⟨e, ces, he, rfl, hb, hes, hbn⟩ := map_obj hW hm ho
      split at h
      · rename_i j y b hf
        split at h
        · rename_i A1 hp
          cases h
          have := findNow_ok hkk hq hk hes hf
          simp only at this
          obtain ⟨cv, g1, _⟩ := this
          refine ⟨σ, .tuple #[], _, ?_, hv, Step.put hW hp he (.map (ces.eraseIdxIfInBounds j) clock) W.drawn ?_⟩
          · simp only [Builtin.delete_, h0, List.getElem?_toArray, List.getElem?_cons_zero, List.getElem?_cons_succ, Sem.run_bind, underlying_run hu, Result.andThen_ok, getObj_map hb, checkKey_run hkk, findKey_run hq g1, setObj_map _ hb, Sem.run_pure]
          · refine ⟨_, rfl, ?_, ?_⟩
            · have : (ces.eraseIdxIfInBounds j).toList = ces.toList.eraseIdx j := by
                simp only [Array.eraseIdxIfInBounds]
                split
                · simp
                · rw [List.eraseIdx_of_length_le (by simp; omega)]
              rw [this, delAt_eq]
              exact hes.erase j
            · intro p hp'
              rw [delAt_eq] at hp'
              exact hbn p (List.mem_of_mem_eraseIdx hp')
        · cases h
      · rename_i hf
        split at h
        · rename_i A1 hp
          cases h
          have := findNow_ok hkk hq hk hes hf
          simp only at this
          refine ⟨σ, .tuple #[], _, ?_, hv, Step.put hW hp he (.map ces clock) W.drawn ⟨_, rfl, hes, hbn⟩⟩
          simp only [Builtin.delete_, h0, List.getElem?_toArray, List.getElem?_cons_zero, List.getElem?_cons_succ, Sem.run_bind, underlying_run hu, Result.andThen_ok, getObj_map hb, checkKey_run hkk, findKey_run hq this, setObj_map _ hb, Sem.run_pure]
        · cases h
      · cases h
    · cases h
end Go.AE
namespace Go.AE
variable {P : Program} {σ : Sg} {A : AW} {W : World} {T : TM}
theorem findBorn_ok : ∀ {es : List (AV × AV × Nat)} {ces : List MapEntry} {b : Nat} {k v : AV}, ESRel σ es ces → findBorn b es = some (k, v) →
    ∃ c, ces.find? (fun e => e.born == b) = some c ∧ VRel σ k c.key ∧ VRel σ v c.val
  | [], _, _, _, _, _, h => by simp [findBorn] at h
  | (k', v', b') :: es, _, b, k, v, he, h => by
    simp only [ESRel] at he
    obtain ⟨c, rest, rfl, h1, h2, h3, h4⟩ := he
    simp only [findBorn] at h
    split at h
    · rename_i hb
      cases h
      have := Nat.eq_of_beq_eq_true hb
      exact ⟨c, by rw [List.find?_cons_of_pos (by rw [h3, this]; simp)], h1, h2⟩
    · rename_i hb
      obtain ⟨c', g⟩ := findBorn_ok h4 h
      refine ⟨c', ?_, g.2⟩
      rw [List.find?_cons_of_neg (by rw [h3]; simp; intro hc; exact hb (by rw [hc]; exact Nat.beq_refl _))]
      exact g.1
theorem setBorn_ok : ∀ {es es' : List (AV × AV × Nat)} {ces : List MapEntry} {b : Nat} {x : AV} {cx : Value}, ESRel σ es ces → VRel σ x cx → setBorn b x es = some es' →
    ∃ i, ces.findIdx? (fun e => (e.born : Int) == (b : Int)) = some i ∧ i < ces.length ∧ ESRel σ es' (ces.modify i fun e => { e with val := cx }) ∧ ∀ q, q ∈ es' → ∃ p, p ∈ es ∧ p.2.2 = q.2.2
  | [], _, _, _, _, _, _, _, h => by simp [setBorn] at h
  | (k', v', b') :: es, es', _, b, x, cx, he, hx, h => by
    simp only [ESRel] at he
    obtain ⟨c, rest, rfl, h1, h2, h3, h4⟩ := he
    simp only [setBorn] at h
    split at h
    · rename_i hb
      cases h
      have := Nat.eq_of_beq_eq_true hb
      refine ⟨0, ?_, by simp, ?_, ?_⟩
      · rw [List.findIdx?_cons]; rw [h3, this]; simp
      · simp only [List.modify_zero_cons, ESRel]
        exact ⟨_, rest, rfl, h1, hx, h3, h4⟩
      · intro q hq
        rcases List.mem_cons.1 hq with rfl | hq
        · exact ⟨_, List.mem_cons_self .., rfl⟩
        · exact ⟨q, List.mem_cons_of_mem _ hq, rfl⟩
    · rename_i hb
      split at h
      · rename_i r hr
        cases h
        obtain ⟨i, g1, g2, g3, g4⟩ := setBorn_ok h4 hx hr
        refine ⟨i + 1, ?_, by simp; omega, ?_, ?_⟩
        · rw [List.findIdx?_cons, h3]
          have : ((b' : Int) == (b : Int)) = false := by
            rw [beq_eq_false_iff_ne]; intro hc
            have : b' = b := by omega
            exact hb (by rw [this]; exact Nat.beq_refl _)
          rw [this, g1]; rfl
        · simp only [List.modify_succ_cons, ESRel]
          exact ⟨c, _, rfl, h1, h2, h3, g3⟩
        · intro q hq
          rcases List.mem_cons.1 hq with rfl | hq
          · exact ⟨_, List.mem_cons_self .., rfl⟩
          · obtain ⟨p, hp, hpe⟩ := g4 q hq
            exact ⟨p, List.mem_cons_of_mem _ hp, hpe⟩
      · cases h
theorem estore_ok (hW : WRel P σ A W) {t : TypeId} {zm zs zv : Arg} {m s x : Value} {v : AV} {A' : AW}
    (hm : VRel σ (zm.ev T) m) (hs : VRel σ (zs.ev T) s) (hx : VRel σ (zv.ev T) x) (h : iop T A (.estore zm zs zv) = some (v, A')) :
    v = .undef ∧ ∃ W', (Instr.entryStore t m s x).run P W = .ok () W' ∧ Step P σ A W σ A' W' := by
  simp only [iop] at h
  split at h
  · rename_i a k b hma hsb
    rw [hma] at hm
    rw [hsb] at hs
    split at h
    · rename_i es clock ho
      split at h
      · rename_i es' hes'
        split at h
        · rename_i A1 hp
          cases h
          obtain ⟨e, ces, he, rfl, hb, hes, hbn⟩ := map_obj hW hm ho
          simp only [VRel] at hs; subst hs
          obtain ⟨i, g1, g2, g3, g4⟩ := setBorn_ok hes hx hes'
          refine ⟨rfl, _, ?_, Step.put hW hp he (.map (ces.modify i fun e => { e with val := x }) clock) W.drawn ?_⟩
          · simp only [Instr.entryStore, Sem.run_bind, getObj_map hb, Result.andThen_ok, asInt, asIntOf, Sem.run_pure]
            have : Array.findIdx? (fun e => (e.born : Int) == Int.ofNat b) ces = some i := by
              obtain ⟨l⟩ := ces
              rw [List.findIdx?_toArray]; exact g1
            rw [this]
            exact setObj_map _ hb
          · refine ⟨_, rfl, ?_, ?_⟩
            · rw [Array.toList_modify]; exact g3
            · intro q hq
              obtain ⟨p, hp, hpe⟩ := g4 q hq
              rw [← hpe]; exact hbn p hp
        · cases h
      · cases h
    · cases h
  · cases h
theorem clearm_ok (hW : WRel P σ A W) {at_ : Array TypeId} {ty t q el : TypeId} {zm : Arg} {m : Value} {v : AV} {A' : AW} (h0 : at_[0]? = some t) (hu : P.underlying t = some (.map q el))
    (hm : VRel σ (zm.ev T) m) (h : iop T A (.clearm zm) = some (v, A')) : ResV P σ A W ((Builtin.clear_ at_ ty #[m]).run P W) v A' := by
  have hv : VRel σ (.tup []) (.tuple #[]) := by simp only [VRel]; exact ⟨#[], rfl, VRels.nil⟩
  simp only [iop] at h
  generalize zm.ev T = am at hm h
  cases am <;> simp only at h <;> first | (cases h; done) | skip
  case nilmap =>
    cases h
    simp only [VRel] at hm; subst hm
    refine ⟨σ, .tuple #[], W, ?_, hv, .refl hW⟩
    simp only [Builtin.clear_, h0, List.getElem?_toArray, List.getElem?_cons_zero, Sem.run_bind, underlying_run hu, Result.andThen_ok, Sem.run_pure]
  case map a =>
    split at h
    · rename_i es clock ho
      split at h
      · rename_i A1 hp
        cases h
        obtain ⟨e, ces, he, rfl, hb, hes, hbn⟩ := map_obj hW hm ho
        refine ⟨σ, .tuple #[], _, ?_, hv, Step.put hW hp he (.map #[] clock) W.drawn ⟨_, rfl, by simp [ESRel], by simp⟩⟩
        simp only [Builtin.clear_, h0, List.getElem?_toArray, List.getElem?_cons_zero, Sem.run_bind, underlying_run hu, Result.andThen_ok, getObj_map hb, setObj_map _ hb, Sem.run_pure]
      · cases h
    · cases h
theorem len_ok (hW : WRel P σ A W) {at_ : Array TypeId} {ty t : TypeId} {td : TypeDesc} {q : EqK} {z : Arg} {x : Value} {v : AV} {A' : AW} (h0 : at_[0]? = some t) (hu : P.underlying t = some td)
    (ht : (td = .string ∧ q = .b) ∨ (∃ e, td = .slice e ∧ q = .s) ∨ (∃ k e, td = .map k e ∧ q = .m)) (hx : VRel σ (z.ev T) x) (h : iop T A (.len q z) = some (v, A')) : ResV P σ A W ((Builtin.len_ at_ ty #[x]).run P W) v A' := by
  simp only [iop] at h
  generalize z.ev T = ax at hx h
  rcases ht with ⟨rfl, rfl⟩ | ⟨e, rfl, rfl⟩ | ⟨k, e, rfl, rfl⟩
  · cases ax <;> simp only at h <;> first | (cases h; done) | skip
    cases h
    simp only [VRel] at hx
    obtain ⟨s, rfl, rfl⟩ := hx
    refine ⟨σ, goInt s.size, W, ?_, ?_, .refl hW⟩
    · simp only [Builtin.len_, h0, List.getElem?_toArray, List.getElem?_cons_zero, Sem.run_bind, underlying_run hu, Result.andThen_ok, Sem.run_pure]
    · simp only [VRel, goInt, List.length_map, Array.length_toList]; rfl
  · cases ax <;> simp only at h <;> first | (cases h; done) | skip
    case slice a off n c =>
      cases h
      obtain ⟨e, cc, he, rfl⟩ := slice_addr hx
      refine ⟨σ, goInt n, W, ?_, by simp [VRel, goInt], .refl hW⟩
      simp only [Builtin.len_, h0, List.getElem?_toArray, List.getElem?_cons_zero, Sem.run_bind, underlying_run hu, Result.andThen_ok, Sem.run_pure]
    case zslice =>
      cases h
      simp only [VRel] at hx; obtain ⟨a, c, rfl⟩ := hx
      refine ⟨σ, goInt 0, W, ?_, by simp [VRel, goInt], .refl hW⟩
      simp only [Builtin.len_, h0, List.getElem?_toArray, List.getElem?_cons_zero, Sem.run_bind, underlying_run hu, Result.andThen_ok, Sem.run_pure]; rfl
    case nilslice =>
      cases h
      simp only [VRel] at hx; subst hx
      refine ⟨σ, goInt 0, W, ?_, by simp [VRel, goInt], .refl hW⟩
      simp only [Builtin.len_, h0, List.getElem?_toArray, List.getElem?_cons_zero, Sem.run_bind, underlying_run hu, Result.andThen_ok, Sem.run_pure]; rfl
  · cases ax <;> simp only at h <;> first | (cases h; done) | skip
    case nilmap =>
      cases h
      simp only [VRel] at hx; subst hx
      refine ⟨σ, goInt 0, W, ?_, by simp [VRel, goInt], .refl hW⟩
      simp only [Builtin.len_, h0, List.getElem?_toArray, List.getElem?_cons_zero, Sem.run_bind, underlying_run hu, Result.andThen_ok, Sem.run_pure]
    case map a =>
      split at h
      · rename_i es clock ho
        cases h
        obtain ⟨e, ces, he, rfl, hb, hes, hbn⟩ := map_obj hW hx ho
        refine ⟨σ, goInt ces.size, W, ?_, ?_, .refl hW⟩
        · simp only [Builtin.len_, h0, List.getElem?_toArray, List.getElem?_cons_zero, Sem.run_bind, underlying_run hu, Result.andThen_ok, Sem.run_pure, getObj_map hb]
        · have := hes.length
          simp only [Array.length_toList] at this
          simp [VRel, goInt, this]
      · cases h
theorem cap_ok (hW : WRel P σ A W) {at_ : Array TypeId} {ty t e : TypeId} {z : Arg} {x : Value} {v : AV} {A' : AW} (h0 : at_[0]? = some t) (hu : P.underlying t = some (.slice e)) (hx : VRel σ (z.ev T) x) (h : iop T A (.cap z) = some (v, A')) : ResV P σ A W ((Builtin.cap_ at_ ty #[x]).run P W) v A' := by
  simp only [iop] at h
  split at h
  · rename_i a off n c heq
    cases h
    rw [heq] at hx
    simp only [VRel] at hx
    obtain ⟨e, he, rfl⟩ := hx
    refine ⟨σ, goInt c, W, ?_, by simp [VRel, goInt], .refl hW⟩
    simp only [Builtin.cap_, h0, List.getElem?_toArray, List.getElem?_cons_zero, Sem.run_bind, underlying_run hu, Result.andThen_ok, Sem.run_pure]
  · rename_i heq
    cases h
    rw [heq] at hx
    simp only [VRel] at hx; subst hx
    refine ⟨σ, goInt 0, W, ?_, by simp [VRel, goInt], .refl hW⟩
    simp only [Builtin.cap_, h0, List.getElem?_toArray, List.getElem?_cons_zero, Sem.run_bind, underlying_run hu, Result.andThen_ok, Sem.run_pure]; rfl
  · cases h

/-! ranges over texts and maps -/
theorem getObj_other {W : World} {b : Nat} {o : Obj} (h : W.heap[b]? = some o) (hc : ∀ c t f, o ≠ .cells c t f) : (getObj b).run P W = .ok o W := by
  cases o <;> first | exact absurd rfl (hc _ _ _) | simp [getObj, Sem.run, h]
theorem setObj_other {W : World} {b : Nat} {o : Obj} (o' : Obj) (h : W.heap[b]? = some o) (hc : ∀ c t f, o ≠ .cells c t f) : (setObj b o').run P W = .ok () { W with heap := W.heap.setIfInBounds b o' } := by
  cases o <;> first | exact absurd rfl (hc _ _ _) | simp [setObj, Sem.run, h]
theorem rangeS_ok (hW : WRel P σ A W) {t : TypeId} {x : Value} {s : List Nat} (hu : P.underlying t = some .string) (hx : VRel σ (.str s) x) :
    ResV P σ A W ((Instr.range t x).run P W) (.ptr A.nx 0) (A.new (.siter s 0)) := by
  simp only [VRel] at hx
  obtain ⟨bs, rfl, hbs⟩ := hx
  refine ⟨σ.set A.nx ⟨W.heap.size, 0, 0⟩, .pointer (some ⟨W.heap.size, 0, none⟩), { W with heap := W.heap.push (.stringIter bs 0) }, ?_, by simp [VRel, Sg.set_same], Step.new hW _ _ 0 0 W.drawn ?_⟩
  · simp only [Instr.range, Sem.run_bind, underlying_run hu, Result.andThen_ok, Sem.run_pure, run_newObj]
  · intro τ _; exact ⟨rfl, bs, rfl, by simpa using hbs⟩
theorem rangeM_ok (hW : WRel P σ A W) {t k el : TypeId} {z : Arg} {x : Value} {v : AV} {A' : AW} (hu : P.underlying t = some (.map k el)) (hx : VRel σ (z.ev T) x) (h : iop T A (.rangeM z) = some (v, A')) :
    ResV P σ A W ((Instr.range t x).run P W) v A' := by
  simp only [iop] at h
  generalize z.ev T = ax at hx h
  cases ax <;> simp only at h <;> first | (cases h; done) | skip
  case nilmap =>
    cases h
    simp only [VRel] at hx; subst hx
    refine ⟨σ.set A.nx ⟨W.heap.size, 0, 0⟩, .pointer (some ⟨W.heap.size, 0, none⟩), { W with heap := W.heap.push (.mapIter none 0 #[] 0) }, ?_, by simp [VRel, Sg.set_same], Step.new hW _ _ 0 0 W.drawn ?_⟩
    · simp only [Instr.range, Sem.run_bind, underlying_run hu, Result.andThen_ok, Sem.run_pure, run_newObj]
    · intro τ _; exact ⟨rfl, _, _, _, rfl⟩
  case map a =>
    split at h
    · rename_i es clock ho
      cases h
      obtain ⟨e, ces, he, rfl, hb, hes, hbn⟩ := map_obj hW hx ho
      refine ⟨σ.set A.nx ⟨W.heap.size, 0, 0⟩, .pointer (some ⟨W.heap.size, 0, none⟩), { W with heap := W.heap.push (.mapIter (some e.blk) clock #[] clock) }, ?_, by simp [VRel, Sg.set_same], Step.new hW _ _ 0 0 W.drawn ?_⟩
      · simp only [Instr.range, Sem.run_bind, underlying_run hu, Result.andThen_ok, getObj_map hb, Sem.run_pure, run_newObj]
      · intro τ hτ; exact ⟨rfl, e, hτ _ _ he, rfl⟩
    · cases h
end Go.AE
