import Derived.Test.YtgnebdiembekpaaGreatDoorA2
import Derived.Test.YtgnebdiembekpaaGreatDoorA11
import GoSem.ClaimFn
import GoSem.ClaimGoes
/- Part of the proof: the abstract evaluator, its soundness, its runs: AeJ -/
set_option linter.unusedSectionVars false
set_option linter.unusedSimpArgs false
set_option linter.unusedVariables false
set_option linter.unnecessarySimpa false
namespace Go.AE
/-! the functions that a function leads to, by a table -/
variable {P : Program}
/-- what function k leads to stands in the table -/
def Kid (P : Program) (K : Tr (List Nat)) (k : Nat) : Prop := ∃ fn, P.funcs[k]? = some fn ∧ K.get (Ix.ofTmp k) = some (P.leadsTo fn)
def AllK (P : Program) (K : Tr (List Nat)) : Nat → Nat → Prop
  | _, 0 => True
  | k, n + 1 => Kid P K k ∧ AllK P K (k + 1) n
theorem AllK.app {K : Tr (List Nat)} : ∀ {n m k : Nat}, AllK P K k n → AllK P K (k + n) m → AllK P K k (n + m)
  | 0, m, k, _, h => by simpa using h
  | n + 1, m, k, h, h' => by
    rw [show n + 1 + m = (n + m) + 1 by omega]
    exact ⟨h.1, AllK.app h.2 (by rw [show k + 1 + n = k + (n + 1) by omega]; exact h')⟩
theorem AllK.at {K : Tr (List Nat)} : ∀ {n k j : Nat}, AllK P K k n → j < n → Kid P K (k + j)
  | 0, _, _, _, h => absurd h (by omega)
  | n + 1, k, 0, h, _ => h.1
  | n + 1, k, j + 1, h, hj => by
    rw [show k + (j + 1) = k + 1 + j by omega]
    exact AllK.at h.2 (by omega)
noncomputable section
def someFR : FR := some ⟨.ret, .leaf, ⟨.leaf, [], .h⟩⟩
/-- the same numbers? -/
def fnats : List Nat → List Nat → FR := List.rec (motive := fun _ => List Nat → FR) (fun m => List.rec (motive := fun _ => FR) someFR (fun _ _ _ => none) m) (fun a _ ih m => List.rec (motive := fun _ => FR) none (fun b m' _ => Bool.rec (motive := fun _ => FR) none (ih m') (Nat.beq a b)) m)
theorem fnats_eq : ∀ {l m : List Nat}, (fnats l m).isSome = true → l = m
  | [], [], _ => rfl
  | [], _ :: _, h => by cases h
  | _ :: _, [], h => by cases h
  | a :: l, b :: m, h => by
    change (Bool.rec (motive := fun _ => FR) none (fnats l m) (Nat.beq a b) : FR).isSome = true at h
    cases hb : Nat.beq a b with
    | false => rw [hb] at h; cases h
    | true => rw [hb] at h; rw [Nat.eq_of_beq_eq_true hb, fnats_eq h]
def fkid : Ix → Tr (List Nat) → (List Nat → FR) → FR := Ix.rec (motive := fun _ => Tr (List Nat) → (List Nat → FR) → FR)
  (fun t k => Tr.rec (motive := fun _ => FR) none (fun _ v _ _ _ => Option.rec (motive := fun _ => FR) none k v) t)
  (fun _ ih t k => Tr.rec (motive := fun _ => FR) none (fun l _ _ _ _ => ih l k) t)
  (fun _ ih t k => Tr.rec (motive := fun _ => FR) none (fun _ _ r _ _ => ih r k) t)
theorem fkid_eq (i : Ix) : ∀ (t : Tr (List Nat)) (k : List Nat → FR), fkid i t k = (match t.get i with | some l => k l | none => none) := by
  induction i with
  | h => intro t k; cases t with
    | leaf => rfl
    | node l v r => cases v <;> rfl
  | o p ih => intro t k; cases t with
    | leaf => rfl
    | node l v r => exact ih l k
  | i p ih => intro t k; cases t with
    | leaf => rfl
    | node l v r => exact ih r k
/-- the closure, with marks; at its end: the same as the list? -/
def fclos (K : Tr (List Nat)) (N : Nat) (want : List Nat) : Nat → List Nat → TM → List Nat → FR := Nat.rec (motive := fun _ => List Nat → TM → List Nat → FR) (fun _ _ _ => none)
  (fun _ ih todo M seen => List.rec (motive := fun _ => FR) (fnats seen want) (fun f rest _ => fgT (Ix.ofTmp f) M (fun _ => ih rest M seen) (Bool.rec (motive := fun _ => FR) none (fkid (Ix.ofTmp f) K fun l => fsT (Ix.ofTmp f) M .undef fun M' => ih (l ++ rest) M' (f :: seen)) (Nat.blt f N))) todo)
theorem fclos_ok {K : Tr (List Nat)} {N : Nat} {want : List Nat} (hK : AllK P K 0 N) : ∀ (n : Nat) (todo : List Nat) (M : TM) (seen : List Nat), (∀ g, (M.get (Ix.ofTmp g)).isSome = seen.contains g) → (fclos K N want n todo M seen).isSome = true → ∀ m, n ≤ m → P.closureVia m todo seen = want.reverse
  | 0, _, _, _, _, h, _, _ => by cases h
  | n + 1, [], M, seen, hM, h, m, hm => by
    obtain ⟨m, rfl⟩ : ∃ k, m = k + 1 := ⟨m - 1, by omega⟩
    have := fnats_eq (l := seen) (m := want) h
    simp only [Program.closureVia, this]
  | n + 1, f :: rest, M, seen, hM, h, m, hm => by
    obtain ⟨m, rfl⟩ : ∃ k, m = k + 1 := ⟨m - 1, by omega⟩
    change (fgT (Ix.ofTmp f) M (fun _ => fclos K N want n rest M seen) (Bool.rec (motive := fun _ => FR) none (fkid (Ix.ofTmp f) K fun l => fsT (Ix.ofTmp f) M .undef fun M' => fclos K N want n (l ++ rest) M' (f :: seen)) (Nat.blt f N))).isSome = true at h
    rw [fgT_eq] at h
    have hf := hM f
    simp only [Program.closureVia]
    cases hg : M.get (Ix.ofTmp f) with
    | some v =>
      rw [hg] at h hf
      rw [if_pos (show seen.contains f = true from hf.symm)]
      exact fclos_ok hK n rest M seen hM h m (by omega)
    | none =>
      rw [hg] at h hf
      rw [if_neg (by rw [← hf]; simp)]
      simp only at h
      cases hb : Nat.blt f N with
      | false => rw [hb] at h; cases h
      | true =>
        rw [hb] at h
        change (fkid (Ix.ofTmp f) K fun l => fsT (Ix.ofTmp f) M .undef fun M' => fclos K N want n (l ++ rest) M' (f :: seen)).isSome = true at h
        rw [Nat.blt_eq] at hb
        obtain ⟨fn, h1, h2⟩ := hK.at (j := f) hb
        rw [Nat.zero_add] at h1 h2
        rw [fkid_eq, h2] at h
        simp only at h
        rw [fsT_eq] at h
        rw [h1]
        refine fclos_ok hK n _ _ _ (fun g => ?_) h m (by omega)
        by_cases hgf : g = f
        · subst hgf; rw [Tr.get_set_same]; simp
        · rw [Tr.get_set_other _ _ _ _ (fun e => hgf (Ix.ofTmp_inj e)), hM g]
          simp [hgf]
end
def sumK (K : Tr (List Nat)) : Nat → Nat → Nat
  | _, 0 => 0
  | k, n + 1 => (match K.get (Ix.ofTmp k) with | some l => l.length + 1 | none => 0) + sumK K (k + 1) n
theorem sumK_eq {K : Tr (List Nat)} : ∀ (n k : Nat), AllK P K k n → P.funcs.size = k + n → ((P.funcs.toList.drop k).map fun g => (P.leadsTo g).length + 1).sum = sumK K k n
  | 0, k, _, hs => by
    rw [List.drop_eq_nil_of_le (by rw [Array.length_toList]; omega)]; rfl
  | n + 1, k, h, hs => by
    obtain ⟨fn, h1, h2⟩ := h.1
    have hk : k < P.funcs.toList.length := by rw [Array.length_toList]; omega
    rw [List.drop_eq_getElem_cons hk, List.map_cons, List.sum_cons, sumK_eq n (k + 1) h.2 (by omega)]
    have he : P.funcs.toList[k] = fn := by
      have : P.funcs.toList[k]? = some fn := by rw [Array.getElem?_toList]; exact h1
      rw [List.getElem?_eq_getElem hk] at this
      exact Option.some.inj this
    rw [he]
    simp only [sumK, h2]
/-- the closure of f, as the run says -/
theorem closure_of {K : Tr (List Nat)} {N n f : Nat} {want : List Nat} (hK : AllK P K 0 N) (hs : P.funcs.size = N) (hrun : (fclos K N want n [f] .leaf []).isSome = true) (hn : Nat.ble n (1 + sumK K 0 N) = true) : P.closure f = want.reverse := by
  unfold Program.closure
  have h0 := sumK_eq N 0 hK (by omega)
  rw [List.drop_zero] at h0
  rw [h0]
  refine fclos_ok hK n [f] .leaf [] (fun g => by simp [Tr.get_leaf]) hrun _ (Nat.le_of_ble_eq_true hn)
/-! what the rows' cells ask of each function -/
def itemOf (fn : Func) : Option String := if fn.ours || fn.body.isNone || fn.name == "runtime.NumGoroutine" then some fn.name else none
def globOf (fn : Func) : List Nat := fn.body.elim [] Code.globalsNamed
def readOf (fn : Func) : Option String := if fn.body.isNone then entryReads.lookup fn.name else none
abbrev Info := Option String × List Nat × Option String
def infoAt : List (Nat × Info) → Nat → Info
  | [], _ => (none, [], none)
  | (k, x) :: l, g => bif Nat.beq k g then x else infoAt l g
def Met (P : Program) (X : List (Nat × Info)) (k : Nat) : Prop := ∃ fn, P.funcs[k]? = some fn ∧ (itemOf fn, globOf fn, readOf fn) = infoAt X k
def AllM (P : Program) (X : List (Nat × Info)) : Nat → Nat → Prop
  | _, 0 => True
  | k, n + 1 => Met P X k ∧ AllM P X (k + 1) n
theorem AllM.app {X : List (Nat × Info)} : ∀ {n m k : Nat}, AllM P X k n → AllM P X (k + n) m → AllM P X k (n + m)
  | 0, m, k, _, h => by simpa using h
  | n + 1, m, k, h, h' => by
    rw [show n + 1 + m = (n + m) + 1 by omega]
    exact ⟨h.1, AllM.app h.2 (by rw [show k + 1 + n = k + (n + 1) by omega]; exact h')⟩
theorem AllM.at {X : List (Nat × Info)} : ∀ {n k j : Nat}, AllM P X k n → j < n → Met P X (k + j)
  | 0, _, _, _, h => absurd h (by omega)
  | n + 1, k, 0, h, _ => h.1
  | n + 1, k, j + 1, h, hj => by
    rw [show k + (j + 1) = k + 1 + j by omega]
    exact AllM.at h.2 (by omega)
theorem filterMap_congr' {α β : Type} {f g : α → Option β} : ∀ {l : List α}, (∀ x, x ∈ l → f x = g x) → l.filterMap f = l.filterMap g
  | [], _ => rfl
  | x :: l, h => by
    rw [List.filterMap_cons, List.filterMap_cons, h x (List.mem_cons_self ..), filterMap_congr' fun y hy => h y (List.mem_cons_of_mem _ hy)]
def allBelow (N : Nat) : List Nat → Bool
  | [] => true
  | x :: l => Nat.blt x N && allBelow N l
theorem allBelow_mem {N : Nat} : ∀ {l : List Nat}, allBelow N l = true → ∀ x, x ∈ l → x < N
  | [], _, x, hx => by cases hx
  | y :: l, h, x, hx => by
    simp only [allBelow, Bool.and_eq_true, Nat.blt_eq] at h
    rcases List.mem_cons.1 hx with rfl | hx
    · exact h.1
    · exact allBelow_mem h.2 x hx
theorem inPlace_of {X : List (Nat × Info)} {N f : Nat} {L : List Nat} (hM : AllM P X 0 N) (hc : P.closure f = L) (hb : allBelow N L = true) : P.inPlace f = L.filterMap fun g => (infoAt X g).1 := by
  unfold Program.inPlace
  rw [hc]
  refine filterMap_congr' fun g hg => ?_
  obtain ⟨fn, h1, h2⟩ := hM.at (allBelow_mem hb g hg)
  rw [Nat.zero_add] at h1 h2
  rw [h1, ← h2]; rfl
theorem varsNamed_of {X : List (Nat × Info)} {N f : Nat} {L : List Nat} (hM : AllM P X 0 N) (hc : P.closure f = L) (hb : allBelow N L = true) :
    P.varsNamed f = (((L.flatMap fun g => (infoAt X g).2.1).eraseDups.filterMap fun g => (P.globals[g]?).map (·.name)) ++ L.filterMap fun g => (infoAt X g).2.2).eraseDups := by
  unfold Program.varsNamed
  rw [hc]
  have e1 : (L.flatMap fun g => ((P.funcs[g]?).bind (·.body)).elim [] Code.globalsNamed) = L.flatMap fun g => (infoAt X g).2.1 := by
    have : ∀ l : List Nat, (∀ g, g ∈ l → g < N) → (l.flatMap fun g => ((P.funcs[g]?).bind (·.body)).elim [] Code.globalsNamed) = l.flatMap fun g => (infoAt X g).2.1 := by
      intro l
      induction l with
      | nil => intro _; rfl
      | cons g l ih =>
        intro h
        rw [List.flatMap_cons, List.flatMap_cons, ih fun x hx => h x (List.mem_cons_of_mem _ hx)]
        obtain ⟨fn, h1, h2⟩ := hM.at (h g (List.mem_cons_self ..))
        rw [Nat.zero_add] at h1 h2
        rw [h1, ← h2]; rfl
    exact this L (allBelow_mem hb)
  have e2 : (L.filterMap fun g => (P.funcs[g]?).bind fun fn => if fn.body.isNone then entryReads.lookup fn.name else none) = L.filterMap fun g => (infoAt X g).2.2 := by
    refine filterMap_congr' fun g hg => ?_
    obtain ⟨fn, h1, h2⟩ := hM.at (allBelow_mem hb g hg)
    rw [Nat.zero_add] at h1 h2
    rw [h1, ← h2]; rfl
  rw [e1, e2]
theorem unfollowed_of {f g : Nat} {L : List Nat} {fn : Func} {c : Code} (hc : P.closure f = L) (hg : g ∈ L) (h1 : P.funcs[g]? = some fn) (h2 : fn.body = some c) (h3 : c.unfollowed = true) : P.unfollowed f = true := by
  unfold Program.unfollowed
  rw [hc]
  refine List.any_eq_true.2 ⟨g, hg, ?_⟩
  rw [h1]
  simp only [Option.any_some, h2, h3]
theorem recurses_of {f : Nat} (h : P.unfollowed f = true) : P.recurses f = true := by
  unfold Program.recurses
  rw [h]; rfl
end Go.AE
namespace Go.AE
def allFrom (p : Nat → Bool) : Nat → Nat → Bool
  | _, 0 => true
  | k, n + 1 => p k && allFrom p (k + 1) n
theorem allFrom_at {p : Nat → Bool} : ∀ {n k : Nat}, allFrom p k n = true → ∀ x, k ≤ x → x < k + n → p x = true
  | 0, k, _, x, h1, h2 => absurd h2 (by omega)
  | n + 1, k, h, x, h1, h2 => by
    simp only [allFrom, Bool.and_eq_true] at h
    by_cases hx : x = k
    · subst hx; exact h.1
    · exact allFrom_at h.2 x (by omega) (by omega)
theorem range_all {p : Nat → Bool} {n : Nat} (h : ∀ x, x < n → p x = true) : (List.range n).all p = true :=
  List.all_eq_true.2 fun x hx => h x (List.mem_range.1 hx)
theorem array_all {α : Type} {a : Array α} {p : α → Bool} (h : a.toList.all p = true) : a.all p = true := by
  rw [← Array.all_toList]; exact h
end Go.AE
namespace Go.AE
variable {P : Program}
def NoGo (P : Program) (k : Nat) : Prop := ∃ fn, P.funcs[k]? = some fn ∧ fn.goes = false
def AllG (P : Program) : Nat → Nat → Prop
  | _, 0 => True
  | k, n + 1 => NoGo P k ∧ AllG P (k + 1) n
theorem AllG.app : ∀ {n m k : Nat}, AllG P k n → AllG P (k + n) m → AllG P k (n + m)
  | 0, m, k, _, h => by simpa using h
  | n + 1, m, k, h, h' => by
    rw [show n + 1 + m = (n + m) + 1 by omega]
    exact ⟨h.1, AllG.app h.2 (by rw [show k + 1 + n = k + (n + 1) by omega]; exact h')⟩
theorem AllG.at : ∀ {n k j : Nat}, AllG P k n → j < n → NoGo P (k + j)
  | 0, _, _, _, h => absurd h (by omega)
  | n + 1, k, 0, h, _ => h.1
  | n + 1, k, j + 1, h, hj => by
    rw [show k + (j + 1) = k + 1 + j by omega]
    exact AllG.at h.2 (by omega)
theorem goes_false {N f : Nat} (h : AllG P 0 N) (hs : P.funcs.size = N) : P.goes f = false := by
  have one : ∀ (g : Nat) (fn : Func), P.funcs[g]? = some fn → fn.goes = false := by
    intro g fn hg
    have hlt := (Array.getElem?_eq_some_iff.1 hg).1
    obtain ⟨fn', h1, h2⟩ := h.at (j := g) (by omega)
    rw [Nat.zero_add, hg] at h1
    cases h1; exact h2
  unfold Program.goes
  have e1 : ((P.closure f).any fun g => (P.funcs[g]?).any Func.goes) = false := by
    rw [List.any_eq_false]
    intro g _ hg
    cases hgf : P.funcs[g]? with
    | none => rw [hgf] at hg; cases hg
    | some fn => rw [hgf, Option.any_some, one g fn hgf] at hg; cases hg
  have e2 : P.funcs.any Func.goes = false := by
    rw [← Array.any_toList, List.any_eq_false]
    intro fn hfn hg
    obtain ⟨g, hg2⟩ := List.getElem?_of_mem hfn
    rw [Array.getElem?_toList] at hg2
    rw [one g fn hg2] at hg; cases hg
  rw [e1, e2, Bool.and_false]; rfl
end Go.AE
namespace Go.AE
variable {P : Program}
/-- all that is asked of function k -/
def Fac (P : Program) (K : Tr (List Nat)) (X : List (Nat × Info)) (k : Nat) : Prop := ∃ fn, P.funcs[k]? = some fn ∧ K.get (Ix.ofTmp k) = some (P.leadsTo fn) ∧ (itemOf fn, globOf fn, readOf fn) = infoAt X k ∧ fn.goes = false
def AllF (P : Program) (K : Tr (List Nat)) (X : List (Nat × Info)) : Nat → Nat → Prop
  | _, 0 => True
  | k, n + 1 => Fac P K X k ∧ AllF P K X (k + 1) n
theorem AllF.app {K : Tr (List Nat)} {X : List (Nat × Info)} : ∀ {n m k : Nat}, AllF P K X k n → AllF P K X (k + n) m → AllF P K X k (n + m)
  | 0, m, k, _, h => by simpa using h
  | n + 1, m, k, h, h' => by
    rw [show n + 1 + m = (n + m) + 1 by omega]
    exact ⟨h.1, AllF.app h.2 (by rw [show k + 1 + n = k + (n + 1) by omega]; exact h')⟩
theorem AllF.kids {K : Tr (List Nat)} {X : List (Nat × Info)} : ∀ {n k : Nat}, AllF P K X k n → AllK P K k n
  | 0, _, _ => trivial
  | _ + 1, _, h => ⟨let ⟨fn, a, b, _, _⟩ := h.1; ⟨fn, a, b⟩, AllF.kids h.2⟩
theorem AllF.mets {K : Tr (List Nat)} {X : List (Nat × Info)} : ∀ {n k : Nat}, AllF P K X k n → AllM P X k n
  | 0, _, _ => trivial
  | _ + 1, _, h => ⟨let ⟨fn, a, _, b, _⟩ := h.1; ⟨fn, a, b⟩, AllF.mets h.2⟩
theorem AllF.noGo {K : Tr (List Nat)} {X : List (Nat × Info)} : ∀ {n k : Nat}, AllF P K X k n → AllG P k n
  | 0, _, _ => trivial
  | _ + 1, _, h => ⟨let ⟨fn, a, _, _, b⟩ := h.1; ⟨fn, a, b⟩, AllF.noGo h.2⟩
end Go.AE
