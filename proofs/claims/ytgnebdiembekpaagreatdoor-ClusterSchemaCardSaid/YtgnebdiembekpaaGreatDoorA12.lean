import Derived.Test.YtgnebdiembekpaaGreatDoorA11
import Derived.Laws.Strings
import Derived.Laws.Strings2
/- Part of the proof: the abstract evaluator, its soundness, its runs: AeOp3, AeOp4, AeOp5, AeOp6, AeOp7, AeOp8 -/
set_option linter.unusedSectionVars false
set_option linter.unusedSimpArgs false
set_option linter.unusedVariables false
set_option linter.unnecessarySimpa false
namespace Go.AE
variable {P : Program} {σ : Sg} {A : AW} {W : World}

theorem box_ok (hW : WRel P σ A W) {e : TypeId} {x : Value} {y : AV} (hx : VRel σ y x) (hy : y.isU = false) : ResV P σ A W ((Instr.box e x).run P W) (.ptr A.nx 0) (A.new (.cells y.cells e false false)) := by
  have hc := hx.cells hy
  refine ⟨σ.set A.nx ⟨W.heap.size, 0, 0⟩, .pointer (some ⟨W.heap.size, 0, none⟩), { W with heap := W.heap.push (.cells x.cells e) }, ?_, ?_, Step.new hW _ _ 0 0 W.drawn ?_⟩
  · simp [Instr.box, newVar, newRow]
  · simp [VRel, Sg.set_same]
  · intro τ hτ
    have hl := hc.length
    refine ⟨x.cells, (0, 0), rfl, ?_, ?_, ?_, by simp, by simp⟩
    · simp only [Array.length_toList] at hl; show 0 + _ ≤ _; omega
    · simp only [List.drop_zero]
      rw [List.take_of_length_le (by rw [hl]; exact Nat.le_refl _)]
      exact VRels.mono hτ _ _ hc
    · intro _; simp only [Array.length_toList] at hl; exact ⟨rfl, hl⟩
theorem alloc_ok (hW : WRel P σ A W) {e : TypeId} {z : AV} (hz : zeroOf P e = some z) : ResV P σ A W ((Instr.alloc e true (.tuple #[])).run P W) (.ptr A.nx 0) (A.new (.cells z.cells e false false)) := by
  obtain ⟨v, hv, hr⟩ := zeroValue_run (σ := σ) hz W
  have := box_ok hW (e := e) hr (zeroOf_spec hz).1
  obtain ⟨σ', cv, W', h1, h2, h3⟩ := this
  refine ⟨σ', cv, W', ?_, h2, h3⟩
  simp only [Instr.box] at h1
  simp only [Instr.alloc, Sem.run_bind, hv, Result.andThen_ok]
  exact h1

/-- the parts of an aggregate, filled in -/
def PRel (P : Program) (σ : Sg) (T : TM) (place : Nat → Option (Nat × Nat)) : List (Nat × Nat × Arg) → List (Nat × Value) → Prop
  | [], l => l = []
  | (off, n, x) :: ps, l => ∃ i v rest, l = (i, v) :: rest ∧ place i = some (off, n) ∧ VRel σ (x.ev T) v ∧ PRel P σ T place ps rest
theorem foldl_set_cells (off : Nat) : ∀ (cs : List Value) (j : Nat) (acc : Array Value), off + j + cs.length ≤ acc.size →
    (((cs.zipIdx j).foldl (fun (a : Array Value) (p : Value × Nat) => a.setIfInBounds (off + p.2) p.1) acc)).toList = acc.toList.take (off + j) ++ cs ++ acc.toList.drop (off + j + cs.length)
  | [], j, acc, _ => by simp
  | c :: cs, j, acc, h => by
    simp only [List.zipIdx_cons, List.foldl_cons]
    simp only [List.length_cons] at h
    rw [foldl_set_cells off cs (j + 1) _ (by simp; omega)]
    simp only [Array.toList_setIfInBounds, List.length_cons]
    have h1 : off + (j + 1) = off + j + 1 := by omega
    rw [h1]
    have hlt : off + j < acc.toList.length := by simp; omega
    rw [List.take_set, List.drop_set]
    rw [if_pos (by omega)]
    rw [List.take_succ_eq_append_getElem hlt]
    rw [List.set_append_right _ _ (by simp; omega)]
    simp only [List.length_take, Array.length_toList]
    rw [Nat.min_eq_left (by omega)]
    simp only [Nat.sub_self, List.set_cons_zero, List.append_assoc, List.cons_append, List.nil_append]
    rw [show off + j + 1 + cs.length = off + j + (cs.length + 1) by omega]
theorem fill_ok {T : TM} {place : Nat → Option (Nat × Nat)} : ∀ {ps : List (Nat × Nat × Arg)} {l : List (Nat × Value)} {z z' : List AV} {cells : Array Value},
    PRel P σ T place ps l → VRels σ z cells.toList → placeParts T z ps = some z' → ∃ cells', Instr.fill place cells l = some cells' ∧ VRels σ z' cells'.toList
  | [], l, z, z', cells, hp, hz, h => by
    obtain rfl : l = [] := hp
    simp [placeParts] at h; subst h
    exact ⟨cells, rfl, hz⟩
  | (off, n, x) :: ps, l, z, z', cells, hp, hz, h => by
    obtain ⟨i, v, rest, rfl, hpl, hv, hrest⟩ := hp
    simp only [placeParts] at h
    split at h
    · cases h
    rename_i hu
    split at h
    · rename_i hlen
      split at h
      · rename_i z1 hz1
        have hc := hv.cells (Bool.eq_false_iff.2 hu)
        have hcl := hc.length
        have hzl := hz.length
        simp only [Array.length_toList] at hcl hzl
        simp only [Instr.fill, hpl]
        have hn : (x.ev T).cells ≠ [] := by intro h0; rw [h0] at hlen; exact hlen.2 hlen.1.symm
        have hlen := hlen.1
        · obtain ⟨g1, g2⟩ := putFrom_some hz1 hn
          have hnot : ¬ (v.cells.size ≠ n ∨ off + v.cells.size > cells.size) := by omega
          rw [if_neg (by simp only [ne_eq, decide_not, Bool.or_eq_true, Bool.not_eq_true', decide_eq_false_iff_not, decide_eq_true_eq]; omega)]
          refine fill_ok hrest ?_ h
          have hf := foldl_set_cells off v.cells.toList 0 cells (by simp; omega)
          have he : (Array.foldl (fun cs (x : Value × Nat) => cs.setIfInBounds (off + x.2) x.1) cells v.cells.zipIdx).toList = cells.toList.take off ++ v.cells.toList ++ cells.toList.drop (off + v.cells.size) := by
            rw [← Array.foldl_toList, Array.toList_zipIdx]
            simpa using hf
          show VRels σ z1 (Array.foldl (fun cs (x : Value × Nat) => cs.setIfInBounds (off + x.2) x.1) cells v.cells.zipIdx).toList
          rw [he, g2]
          have hl2 : (x.ev T).cells.length = v.cells.size := hcl
          rw [hl2]
          exact ((hz.take off).append hc).append (hz.drop (off + v.cells.size))
      · cases h
    · cases h
end Go.AE
namespace Go.AE
variable {P : Program} {σ : Sg} {A : AW} {W : World} {T : TM} {a : Act}
theorem mapM_run {α β : Type} {f : α → Sem β} {g : α → Option β} {w : World} (h : ∀ x y, g x = some y → (f x).run P w = .ok y w) :
    ∀ {l : List α} {r : List β}, l.mapM g = some r → (l.mapM f).run P w = .ok r w
  | [], r, hr => by simp at hr; subst hr; simp
  | x :: l, r, hr => by
    simp only [List.mapM_cons, Option.bind_eq_bind, Option.bind_eq_some_iff, Option.pure_def, Option.some.injEq] at hr
    obtain ⟨y, hy, ys, hys, rfl⟩ := hr
    simp [h x y hy, mapM_run h hys]
theorem placesOf_run {fields : Array Field} {places : List (Nat × Nat)} (h : fields.toList.mapM (fun f => (sizeT P f.type).map fun n => (f.offset, n)) = some places) (w : World) :
    (fields.mapM fun f => do pure (f.offset, ← sizeOf f.type) : Sem (Array (Nat × Nat))).run P w = .ok places.toArray w := by
  rw [Array.mapM_eq_mapM_toList]
  simp only [Sem.run_map]
  rw [mapM_run (g := fun (f : Field) => (sizeT P f.type).map fun n => (f.offset, n)) ?_ h]
  · rfl
  · intro f y hy
    simp only [Option.map_eq_some_iff] at hy
    obtain ⟨n, hn, rfl⟩ := hy
    simp [sizeOf_run hn]
theorem parts_rel (hT : TRel σ T a.tmps) (hG : GRel P σ) {place : Nat → Option (Nat × Nat)} : ∀ {parts : List (Nat × Operand)} {ps : List (Nat × Nat × Arg)},
    parts.mapM (fun (i, x) => do
        let (off, n) ← place i
        let y ← argOf P x
        pure (off, n, y)) = some ps → PRel P σ T place ps (parts.map fun (i, x) => (i, a.eval x))
  | [], ps, h => by simp at h; subst h; rfl
  | (i, x) :: parts, ps, h => by
    simp only [List.mapM_cons, Option.bind_eq_bind, Option.bind_eq_some_iff, Option.pure_def, Option.some.injEq] at h
    obtain ⟨y, ⟨⟨off, n⟩, hp, z, hz, rfl⟩, ys, hys, rfl⟩ := h
    exact ⟨i, a.eval x, _, rfl, hp, arg_rel hT hG hz, parts_rel hT hG hys⟩

theorem build_ok (hW : WRel P σ A W) (hT : TRel σ T a.tmps) (hG : GRel P σ) {t : TypeId} {parts : Array (Nat × Operand)} {z : AV} {ps : List (Nat × Nat × Arg)} {l : List AV}
    (hz : zeroOf P t = some z) (hp : partsOf P t parts = some ps) (hd : ∀ e, P.underlying t ≠ some (.slice e)) (hl : placeParts T z.cells ps = some l) :
    ResV P σ A W ((Instr.build t (parts.map fun (i, x) => (i, a.eval x))).run P W) (.agg l) A := by
  obtain ⟨v, hv, hr⟩ := zeroValue_run (σ := σ) hz W
  have hc := hr.cells (zeroOf_spec hz).1
  unfold partsOf at hp
  split at hp
  · rename_i fields hu
    simp only [Option.bind_eq_bind, Option.bind_eq_some_iff] at hp
    obtain ⟨places, hpl, hp⟩ := hp
    have hrel := parts_rel (P := P) hT hG (place := (places[·]?)) hp
    obtain ⟨cells, h1, h2⟩ := fill_ok hrel hc hl
    refine ⟨σ, .agg cells, W, ?_, by simp only [VRel]; exact ⟨cells, rfl, h2⟩, .refl hW⟩
    simp only [Instr.build, Sem.run_bind, hv, Result.andThen_ok, underlying_run hu, placesOf_run hpl]
    simp only [Array.toList_map]
    have : (fun (x : Nat) => places.toArray[x]?) = (fun (x : Nat) => places[x]?) := by funext x; simp
    rw [this, h1]
    rfl
  · rename_i n e hu
    simp only [Option.bind_eq_bind, Option.bind_eq_some_iff] at hp
    obtain ⟨k, hk, hp⟩ := hp
    have hp' : List.mapM (fun (x : Nat × Operand) => do
        let (off, n) ← (fun i => some (i * k, k)) x.1
        let y ← argOf P x.2
        pure (off, n, y)) parts.toList = some ps := hp
    have hrel := parts_rel (P := P) hT hG (place := fun i => some (i * k, k)) hp'
    obtain ⟨cells, h1, h2⟩ := fill_ok hrel hc hl
    refine ⟨σ, .agg cells, W, ?_, by simp only [VRel]; exact ⟨cells, rfl, h2⟩, .refl hW⟩
    simp only [Instr.build, Sem.run_bind, hv, Result.andThen_ok, underlying_run hu, sizeOf_run hk]
    simp only [Array.toList_map]
    rw [h1]
    rfl
  · rename_i e hu
    exact absurd hu (hd e)
  · cases hp

theorem repl_length {α : Type} (l : List α) : ∀ n, (repl n l).length = n * l.length
  | 0 => by simp [repl]
  | n + 1 => by simp [repl, repl_length l n, Nat.succ_mul]; omega
theorem VRels.repl {l : List AV} {vs : List Value} (h : VRels σ l vs) : ∀ n, VRels σ (AE.repl n l) (AE.repl n vs)
  | 0 => by simp [AE.repl, VRels]
  | n + 1 => h.append (VRels.repl h n)
theorem getElem_repl {α : Type} (l : List α) : ∀ (n i : Nat), i < n * l.length → (repl n l)[i]? = l[i % l.length]?
  | 0, i, h => by simp at h
  | n + 1, i, h => by
    simp only [repl]
    by_cases hi : i < l.length
    · rw [List.getElem?_append_left hi, Nat.mod_eq_of_lt hi]
    · rw [List.getElem?_append_right (by omega), getElem_repl l n (i - l.length) (by rw [Nat.succ_mul] at h; omega)]
      congr 1
      rw [Nat.mod_eq_sub_mod (a := i) (by omega)]
theorem range_repl (zero : Array Value) (n : Nat) (hz : zero.size ≠ 0) : (Array.range (n * zero.size)).map (fun i => zero[i % zero.size]!) = (repl n zero.toList).toArray := by
  apply Array.ext
  · simp [repl_length]
  · intro i h1 h2
    simp at h1
    have hg := getElem_repl zero.toList n i (by simpa using h1)
    have hlt : i % zero.size < zero.size := Nat.mod_lt _ (by omega)
    simp only [Array.length_toList] at hg
    simp only [Array.getElem_map, Array.getElem_range, List.getElem_toArray]
    rw [getElem!_pos zero _ hlt]
    have h3 : (repl n zero.toList)[i]? = some zero[i % zero.size] := by rw [hg]; simp [hlt]
    rw [List.getElem?_eq_some_iff] at h3
    exact h3.2.symm
theorem bslice_ok (hW : WRel P σ A W) (hT : TRel σ T a.tmps) (hG : GRel P σ) {t e : TypeId} {len n : Nat} {parts : Array (Nat × Operand)} {z : AV} {ps : List (Nat × Nat × Arg)} {l : List AV}
    (hu : P.underlying t = some (.slice e)) (hz : zeroOf P e = some z) (hn : sizeT P e = some n) (hzn : z.cells.length = n) (hbig : len * n ≤ 2 ^ 12) (hp : partsOf P t parts = some ps)
    (hl : placeParts T (repl len z.cells) ps = some l) :
    ResV P σ A W ((Instr.buildSlice t len (parts.map fun (i, x) => (i, a.eval x))).run P W) (.slice A.nx 0 len (.k len)) (A.new (.cells l e false false)) := by
  obtain ⟨v, hv, hr⟩ := zeroValue_run (σ := σ) hz W
  have hc := hr.cells (zeroOf_spec hz).1
  have hcl := hc.length
  simp only [Array.length_toList] at hcl
  unfold partsOf at hp
  rw [hu] at hp
  simp only [hn, Option.bind_eq_bind, Option.bind_some] at hp
  have hp' : List.mapM (fun (x : Nat × Operand) => do
        let (off, n) ← (fun i => some (i * n, n)) x.1
        let y ← argOf P x.2
        pure (off, n, y)) parts.toList = some ps := hp
  have hrel := parts_rel (P := P) hT hG (place := fun i => some (i * n, n)) hp'
  obtain ⟨cells, h1, h2⟩ := fill_ok hrel (cells := (repl len v.cells.toList).toArray) (by simpa using hc.repl len) hl
  refine ⟨σ.set A.nx ⟨W.heap.size, 0, 0⟩, .slice (some ⟨W.heap.size, 0, none⟩) len len, { W with heap := W.heap.push (.cells cells e) }, ?_, ?_, Step.new hW _ _ 0 0 W.drawn ?_⟩
  · simp only [Instr.buildSlice, Sem.run_bind, underlying_run hu, Result.andThen_ok, sizeOf_run hn]
    rw [if_neg (by omega)]
    by_cases h0 : len * n = 0
    · have : (repl len v.cells.toList).toArray = #[] := by
        have := repl_length v.cells.toList len
        simp only [Array.length_toList, ← hcl, hzn, h0] at this
        rw [List.length_eq_zero_iff.1 this]
      rw [this] at h1
      rw [if_pos h0, h0]
      simp only [Sem.run_bind, Sem.run_pure, Result.andThen_ok, Array.toList_map]
      have h1' : Instr.fill (fun i => some (i * n, n)) #[] (List.map (fun (x : Nat × Operand) => (x.1, a.eval x.2)) parts.toList) = some cells := h1
      have e0 : ∀ f : Nat → Value, Array.map f (Array.range 0) = #[] := fun f => by simp
      rw [e0, h1']
      simp [newRow]
    · rw [if_neg h0]
      simp only [Sem.run_bind, hv, Result.andThen_ok, Sem.run_pure]
      have h3 := range_repl v.cells len (by intro h; rw [← hcl, hzn] at h; rw [h] at h0; simp at h0)
      rw [show len * n = len * v.cells.size by rw [← hcl, hzn], h3]
      simp only [Array.toList_map]
      have h1' : Instr.fill (fun i => some (i * n, n)) (repl len v.cells.toList).toArray (List.map (fun (x : Nat × Operand) => (x.1, a.eval x.2)) parts.toList) = some cells := h1
      rw [h1']
      simp [newRow]
  · simp [VRel, Sg.set_same]
  · intro τ hτ
    have hl2 := h2.length
    simp only [Array.length_toList] at hl2
    refine ⟨cells, (0, 0), rfl, ?_, ?_, ?_, by simp, by simp⟩
    · show 0 + _ ≤ _; omega
    · simp only [List.drop_zero]
      rw [List.take_of_length_le (by simp; omega)]
      exact VRels.mono hτ _ _ h2
    · intro _; exact ⟨rfl, hl2⟩
end Go.AE
namespace Go.AE
variable {P : Program} {σ : Sg} {A : AW} {W : World}
theorem cellsObj_eta (W : World) (b : Nat) (c : Array Value) (t : TypeId) (fz : Nat × Nat) (o : Nat) (v : Value) (h : W.heap[b]? = some (.cells c t fz)) :
    W.setCell ⟨b, o, none⟩ v = { W with heap := W.heap.setIfInBounds b (.cells (c.setIfInBounds o v) t fz) } := by
  simp only [World.setCell]
  congr 1
  obtain ⟨hlt, hb⟩ := Array.getElem?_eq_some_iff.1 h
  apply Array.ext
  · simp
  · intro i h1 h2
    by_cases hi : b = i
    · subst hi; simp [Array.getElem_modify, hb]
    · rw [Array.getElem_modify, if_neg hi, Array.getElem_setIfInBounds_ne (by simpa using h1) hi]
theorem frozen_of {W : World} {b o : Nat} {c : Array Value} {t : TypeId} {fz : Nat × Nat} (h : W.heap[b]? = some (.cells c t fz)) (hf : ¬ (fz.1 ≤ o ∧ o < fz.2)) : W.frozen? ⟨b, o, none⟩ = false := by
  obtain ⟨lo, hi⟩ := fz
  simp only [World.frozen?, h]
  simp only [Bool.and_eq_false_iff, decide_eq_false_iff_not]
  simp only at hf
  omega
theorem loadAt_ok (hW : WRel P σ A W) {t : TypeId} {x : Value} {a : Ix} {off : Nat} {l : List AV} {et : Nat} {g z : Bool} {v : AV} (ha : isAggT P t = some false)
    (hx : VRel σ (.ptr a off) x) (ho : A.get a = some (.cells l et g z)) (hv : listGet l off = some v) : ResV P σ A W ((Instr.loadAt t x).run P W) v A := by
  simp only [VRel] at hx
  obtain ⟨e, he, rfl⟩ := hx
  rw [listGet_eq] at hv
  obtain ⟨u, hu, hr⟩ := cell_of hW ho he hv
  refine ⟨σ, u, W, ?_, hr, .refl hW⟩
  simp [Instr.loadAt, Instr.sureAddr, loadVar, isAgg_run ha, hu]
theorem loadnAt_ok (hW : WRel P σ A W) {t : TypeId} {n : Nat} {x : Value} {a : Ix} {off : Nat} {l : List AV} {et : Nat} {g z : Bool} {vs : List AV} (ha : isAggT P t = some true) (hn : sizeT P t = some n)
    (hx : VRel σ (.ptr a off) x) (ho : A.get a = some (.cells l et g z)) (hv : takeN n (listDrop off l) = some vs) : ResV P σ A W ((Instr.loadAt t x).run P W) (.agg vs) A := by
  simp only [VRel] at hx
  obtain ⟨e, he, rfl⟩ := hx
  obtain ⟨us, hu, hr, _⟩ := cells_of hW ho he hv
  refine ⟨σ, .agg us, W, ?_, by simp only [VRel]; exact ⟨us, rfl, hr⟩, .refl hW⟩
  simp [Instr.loadAt, Instr.sureAddr, loadVar, isAgg_run ha, sizeOf_run hn, hu]

/-- writing cells of an object -/
theorem storeCells_run {b et : Nat} {fz : Nat × Nat} : ∀ (vs : List Value) (o i : Nat) (W : World) (c : Array Value), W.heap[b]? = some (.cells c et fz) → (∀ v, v ∈ vs → v.oneCell' = true) →
    (∀ o, o < c.size → ¬ (fz.1 ≤ o ∧ o < fz.2)) → o + i + vs.length ≤ c.size →
    (storeCells ⟨b, o, none⟩ vs i).run P W = .ok () { W with heap := W.heap.setIfInBounds b (.cells (c.toList.take (o + i) ++ vs ++ c.toList.drop (o + i + vs.length)).toArray et fz) }
  | [], o, i, W, c, h, _, _, _ => by
    simp only [storeCells, Sem.run_pure, List.length_nil, Nat.add_zero, List.append_nil, List.take_append_drop, Array.toArray_toList]
    congr 1
    have : W.heap.setIfInBounds b (.cells c et fz) = W.heap := by
      obtain ⟨hlt, hb⟩ := Array.getElem?_eq_some_iff.1 h
      apply Array.ext
      · simp
      · intro j h1 h2
        by_cases hj : b = j
        · subst hj; simp [hb]
        · rw [Array.getElem_setIfInBounds_ne h2 hj]
    rw [this]
  | v :: vs, o, i, W, c, h, hone, hfz, hle => by
    simp only [List.length_cons] at hle
    have hlt : o + i < c.size := by omega
    have hcell : W.cell? ⟨b, o + i, none⟩ = some c[o + i] := by simp [World.cell?, h, hlt]
    simp only [storeCells, Sem.run_bind, Addr.add_none]
    rw [run_store P W _ v .plain (hone v (List.mem_cons_self ..)), hcell]
    simp only [frozen_of h (hfz _ hlt), Bool.false_eq_true, if_false, Result.andThen_ok]
    rw [cellsObj_eta W b c et fz _ v h]
    have hb : b < W.heap.size := (Array.getElem?_eq_some_iff.1 h).1
    rw [storeCells_run (et := et) (fz := fz) vs o (i + 1) _ (c.setIfInBounds (o + i) v) (by simp [hb]) (fun u hu => hone u (List.mem_cons_of_mem _ hu)) (by simpa using hfz) (by simp; omega)]
    congr 1
    simp only [Array.setIfInBounds_setIfInBounds, Array.toList_setIfInBounds, List.length_cons]
    congr 4
    have hl : o + i < c.toList.length := by simpa using hlt
    rw [List.take_set, List.drop_set, if_pos (by omega)]
    rw [show o + (i + 1) = o + i + 1 by omega, List.take_succ_eq_append_getElem hl]
    rw [List.set_append_right _ _ (by simp; omega)]
    simp only [List.length_take, Array.length_toList]
    rw [Nat.min_eq_left (by omega)]
    simp only [Nat.sub_self, List.set_cons_zero, List.append_assoc, List.cons_append, List.nil_append]
    rw [show o + i + 1 + vs.length = o + i + (vs.length + 1) by omega]
theorem one_all {x : AV} {l : List AV} : allOne (x :: l) = true → x.one = true ∧ allOne l = true := by
  intro h; simp only [allOne] at h; split at h
  · rename_i h1; exact ⟨h1, h⟩
  · cases h
theorem allOne_rel : ∀ {l : List AV} {vs : List Value}, VRels σ l vs → allOne l = true → ∀ v, v ∈ vs → v.oneCell' = true
  | [], _, h, _, v, hv => by simp only [VRels] at h; subst h; cases hv
  | x :: l, _, h, ho, v, hv => by
    simp only [VRels] at h; obtain ⟨w, rest, rfl, h1, h2⟩ := h
    obtain ⟨o1, o2⟩ := one_all ho
    rcases List.mem_cons.1 hv with rfl | hv
    · exact (h1.one o1).1
    · exact allOne_rel h2 o2 v hv
/-- the object behind a write -/
theorem OR.written {e : Ent} {c : Array Value} {et : Nat} {fz : Nat × Nat} {l : List AV} {g : Bool} (h : OR P σ e (.cells c et fz) (.cells l et g false)) {off : Nat} {xs : List AV} {vs : List Value}
    (hr : VRels σ xs vs) (hle : off + xs.length ≤ l.length) :
    OR P σ e (.cells (c.toList.take (e.sh + off) ++ vs ++ c.toList.drop (e.sh + off + vs.length)).toArray et fz) (.cells (l.take off ++ xs ++ l.drop (off + xs.length)) et g false) := by
  obtain ⟨c', fz', hc, h1, h2, h3, h4, h5⟩ := h
  cases hc
  have hxl := hr.length
  have hsz : (c.toList.take (e.sh + off) ++ vs ++ c.toList.drop (e.sh + off + vs.length)).toArray.size = c.size := by simp; omega
  have hll : (l.take off ++ xs ++ l.drop (off + xs.length)).length = l.length := by simp; omega
  refine ⟨_, fz, rfl, by rw [hsz, hll]; exact h1, ?_, ?_, by rw [hsz]; exact h4, by rw [hsz]; exact h5⟩
  · have hd : ((c.toList.take (e.sh + off) ++ vs ++ c.toList.drop (e.sh + off + vs.length)).drop e.sh).take l.length =
        ((c.toList.drop e.sh).take l.length).take off ++ vs ++ ((c.toList.drop e.sh).take l.length).drop (off + xs.length) := by
      rw [List.append_assoc, List.drop_append]
      have e1 : e.sh - (List.take (e.sh + off) c.toList).length = 0 := by simp; omega
      rw [e1, List.drop_zero, List.drop_take]
      rw [show e.sh + off - e.sh = off by omega]
      rw [List.take_append]
      have e2 : (List.take off (List.drop e.sh c.toList)).length = off := by simp; omega
      rw [e2]
      rw [List.take_take, Nat.min_eq_right (by omega : off ≤ l.length)]
      rw [List.take_take, Nat.min_eq_left (by omega : off ≤ l.length), List.append_assoc]
      congr 1
      rw [List.take_append]
      rw [List.take_of_length_le (by omega : vs.length ≤ l.length - off)]
      congr 1
      rw [List.drop_take, List.drop_drop, hxl]
      rw [show l.length - off - vs.length = l.length - (off + vs.length) by omega, show e.sh + (off + vs.length) = e.sh + off + vs.length by omega]
    rw [hll]
    simp only []
    rw [hd]
    exact ((h2.take off).append hr).append (h2.drop (off + xs.length))
  · intro hg
    obtain ⟨g1, g2⟩ := h3 hg
    exact ⟨g1, by rw [hll, hsz]; exact g2⟩
end Go.AE
namespace Go.AE
variable {P : Program} {σ : Sg} {A : AW} {W : World}
theorem setIf_eq (l : List AV) (off : Nat) (y : AV) (h : off < l.length) : l.set off y = l.take off ++ [y] ++ l.drop (off + [y].length) := by
  rw [List.set_eq_take_append_cons_drop, if_pos h]; simp
theorem storeAt_ok (hW : WRel P σ A W) {t : TypeId} {x v : Value} {a : Ix} {off : Nat} {l : List AV} {et : Nat} {g : Bool} {y u : AV} {A' : AW} (hn : sizeT P t = some 1)
    (hx : VRel σ (.ptr a off) x) (ho : A.get a = some (.cells l et g false)) (hy : VRel σ y v) (h1 : y.one = true) (hl : listGet l off = some u)
    (hp : A.put a (.cells (listSet l off y) et g false) = some A') : ∃ W', (Instr.storeAt t x v).run P W = .ok () W' ∧ Step P σ A W σ A' W' := by
  simp only [VRel] at hx
  obtain ⟨e, he, rfl⟩ := hx
  obtain ⟨f, ob, hf, hb, hor⟩ := hW.obj a _ ho
  rw [he] at hf; cases hf
  obtain ⟨c, fz, rfl, k1, k2, k3, k4, k5⟩ := hor
  rw [listGet_eq] at hl
  have hlt : off < l.length := (List.getElem?_eq_some_iff.1 hl).1
  obtain ⟨o1, o2⟩ := hy.one h1
  have hst := storeCells_run (P := P) (et := et) (fz := fz) [v] (e.sh + off) 0 W c hb (by simpa using o1) (k5 rfl) (by simp; omega)
  have hrun : (Instr.storeAt t (.pointer (some ⟨e.blk, e.sh + off, none⟩)) v).run P W = (storeCells ⟨e.blk, e.sh + off, none⟩ [v]).run P W := by
    simp only [Instr.storeAt, Instr.sureAddr, storeVar, Sem.run_bind, Sem.run_pure, Result.andThen_ok, sizeOf_run hn, o2]
    rfl
  refine ⟨_, hrun.trans hst, Step.put hW hp he _ W.drawn ?_⟩
  have := OR.written (P := P) (σ := σ) (e := e) (c := c) (fz := fz) (et := et) (g := g) (l := l) ⟨c, fz, rfl, k1, k2, k3, k4, k5⟩ (off := off) (xs := [y]) (vs := [v]) (VRels.cons hy VRels.nil) (by simp; omega)
  rw [listSet_eq, setIf_eq l off y hlt]
  exact this
theorem storenAt_ok (hW : WRel P σ A W) {t : TypeId} {x v : Value} {a : Ix} {off n : Nat} {l l' vs : List AV} {et : Nat} {g : Bool} {A' : AW} (hn : sizeT P t = some n)
    (hx : VRel σ (.ptr a off) x) (ho : A.get a = some (.cells l et g false)) (hy : VRel σ (.agg vs) v) (h0 : vs.length = n) (h1 : allOne vs = true) (hl : putFrom l off vs = some l')
    (hp : A.put a (.cells l' et g false) = some A') : ∃ W', (Instr.storeAt t x v).run P W = .ok () W' ∧ Step P σ A W σ A' W' := by
  simp only [VRel] at hx hy
  obtain ⟨e, he, rfl⟩ := hx
  obtain ⟨cs, rfl, hcs⟩ := hy
  obtain ⟨f, ob, hf, hb, hor⟩ := hW.obj a _ ho
  rw [he] at hf; cases hf
  have hcl := hcs.length
  simp only [Array.length_toList] at hcl
  have hstart : (Instr.storeAt t (.pointer (some ⟨e.blk, e.sh + off, none⟩)) (.agg cs)).run P W = (storeCells ⟨e.blk, e.sh + off, none⟩ cs.toList).run P W := by
    simp only [Instr.storeAt, Instr.sureAddr, storeVar, Sem.run_bind, Sem.run_pure, Result.andThen_ok, sizeOf_run hn]
    rw [if_neg (show ¬ (Value.agg cs).cells.size ≠ n from by show ¬ cs.size ≠ n; omega)]
    rfl
  by_cases hnil : vs = []
  · subst hnil
    rw [putFrom_nil] at hl; cases hl
    simp only [VRels] at hcs
    refine ⟨{ W with heap := W.heap.setIfInBounds e.blk ob }, ?_, Step.put hW hp he ob W.drawn hor⟩
    rw [hstart, hcs]
    simp only [storeCells, Sem.run_pure]
    congr 1
    have : W.heap.setIfInBounds e.blk ob = W.heap := by
      obtain ⟨hlt, hb⟩ := Array.getElem?_eq_some_iff.1 hb
      apply Array.ext
      · simp
      · intro j h1 h2
        by_cases hj : e.blk = j
        · subst hj; simp [hb]
        · rw [Array.getElem_setIfInBounds_ne h2 hj]
    rw [this]
  · obtain ⟨g1, g2⟩ := putFrom_some hl hnil
    obtain ⟨c, fz, rfl, k1, k2, k3, k4, k5⟩ := hor
    have hst := storeCells_run (P := P) (et := et) (fz := fz) cs.toList (e.sh + off) 0 W c hb (allOne_rel hcs h1) (k5 rfl) (by simp; omega)
    refine ⟨_, by rw [hstart, hst], Step.put hW hp he _ W.drawn ?_⟩
    have := OR.written (P := P) (σ := σ) (e := e) (c := c) (fz := fz) (et := et) (g := g) (l := l) ⟨c, fz, rfl, k1, k2, k3, k4, k5⟩ (off := off) hcs g1
    rw [g2]
    exact this

theorem nilCheck_ok (hW : WRel P σ A W) {ρ : Operand → Value} {o : Oper} {x : Operand} {y v : AV} (hop : o.op = .nilCheck x) (hy : VRel σ y (ρ x))
    (hv : (match y with
      | .ptr a off => some (AV.ptr a off)
      | .func f a c => some (.func f a c)
      | .yield l => some (.yield l)
      | _ => none) = some v) : Res P σ A W ((execOp ρ o).run P W) v A := by
  have hres : ∀ w, ρ x = w → VRel σ v w → (execOp ρ o).run P W = .ok (.value w) W → Res P σ A W ((execOp ρ o).run P W) v A := fun w _ h1 h2 => ⟨σ, w, W, .inl h2, h1, .refl hW⟩
  cases y with
  | ptr b off =>
    cases hv
    have hy' := hy
    simp only [VRel] at hy
    obtain ⟨e, he, hw⟩ := hy
    refine hres _ rfl hy' ?_
    simp only [execOp, hop, hw]; rfl
  | func f b c =>
    cases hv
    have hy' := hy
    simp only [VRel] at hy
    obtain ⟨cs, ds, hw, _, _⟩ := hy
    refine hres _ rfl hy' ?_
    simp only [execOp, hop, hw]; rfl
  | yield l =>
    cases hv
    have hy' := hy
    simp only [VRel] at hy
    obtain ⟨e, he, hw⟩ := hy
    refine hres _ rfl hy' ?_
    simp only [execOp, hop, hw]; rfl
  | _ => simp at hv

theorem fieldAt_ok (hW : WRel P σ A W) {s : TypeId} {fs : Array Field} {f : Field} {k n off : Nat} {x : Value} {a : Ix} (hu : P.underlying s = some (.struct fs)) (hf : fs[k]? = some f)
    (hn : sizeT P f.type = some n) (h0 : n ≠ 0) (hx : VRel σ (.ptr a off) x) : ResV P σ A W ((Instr.fieldAt s x k).run P W) (.ptr a (off + f.offset)) A := by
  simp only [VRel] at hx
  obtain ⟨e, he, rfl⟩ := hx
  refine ⟨σ, .pointer (some ⟨e.blk, e.sh + (off + f.offset), none⟩), W, ?_, by simp only [VRel]; exact ⟨e, he, rfl⟩, .refl hW⟩
  simp only [Instr.fieldAt, Sem.run_bind, underlying_run hu, Result.andThen_ok]
  simp only [hf, Instr.sureAddr, Sem.run_bind, Sem.run_pure, Result.andThen_ok, fieldPlace, sizeOf_run hn, if_neg h0, Addr.add_none]
  rw [Nat.add_assoc]
theorem part_one {t : TypeId} (ha : isAggT P t = some false) {cs : Array Value} {off : Nat} {v : Value} (hv : cs.toList[off]? = some v) (w : World) : (part t cs off).run P w = .ok v w := by
  have hv' : cs[off]? = some v := by simpa using hv
  simp [part, isAgg_run ha, hv']
theorem part_agg {t : TypeId} {n : Nat} (ha : isAggT P t = some true) (hn : sizeT P t = some n) (cs : Array Value) (off : Nat) (w : World) : (part t cs off).run P w = .ok (.agg (cs.extract off (off + n))) w := by
  simp [part, isAgg_run ha, sizeOf_run hn]
theorem field_ok (hW : WRel P σ A W) {s : TypeId} {fs : Array Field} {f : Field} {k : Nat} {x : Value} {cs : List AV} {v : AV} (hu : P.underlying s = some (.struct fs)) (hf : fs[k]? = some f)
    (ha : isAggT P f.type = some false) (hx : VRel σ (.agg cs) x) (hv : listGet cs f.offset = some v) : ResV P σ A W ((Instr.field s x k).run P W) v A := by
  simp only [VRel] at hx
  obtain ⟨ds, rfl, hds⟩ := hx
  rw [listGet_eq] at hv
  obtain ⟨u, hu', hr⟩ := VRels.get hds hv
  refine ⟨σ, u, W, ?_, hr, .refl hW⟩
  simp only [Instr.field, Sem.run_bind, underlying_run hu, Result.andThen_ok]
  simp only [hf, asAgg, Sem.run_bind, Sem.run_pure, Result.andThen_ok, part_one ha hu']
theorem fieldn_ok (hW : WRel P σ A W) {s : TypeId} {fs : Array Field} {f : Field} {k n : Nat} {x : Value} {cs vs : List AV} (hu : P.underlying s = some (.struct fs)) (hf : fs[k]? = some f)
    (ha : isAggT P f.type = some true) (hn : sizeT P f.type = some n) (hx : VRel σ (.agg cs) x) (hv : takeN n (listDrop f.offset cs) = some vs) : ResV P σ A W ((Instr.field s x k).run P W) (.agg vs) A := by
  simp only [VRel] at hx
  obtain ⟨ds, rfl, hds⟩ := hx
  rw [listDrop_eq] at hv
  obtain ⟨_, rfl⟩ := takeN_some hv
  refine ⟨σ, .agg (ds.extract f.offset (f.offset + n)), W, ?_, ?_, .refl hW⟩
  · simp only [Instr.field, Sem.run_bind, underlying_run hu, Result.andThen_ok]
    simp only [hf, asAgg, Sem.run_bind, Sem.run_pure, Result.andThen_ok, part_agg ha hn]
  · simp only [VRel]
    refine ⟨_, rfl, ?_⟩
    have := (hds.drop f.offset).take n
    simpa [List.extract] using this
end Go.AE
namespace Go.AE
variable {P : Program} {σ : Sg} {A : AW} {W : World}
theorem iaddr_ok (hW : WRel P σ A W) {t el : TypeId} {n off len i : Nat} {c : Cap} {k : IntKind} {x ix : Value} {a : Ix} (hu : P.underlying t = some (.slice el)) (hn : sizeT P el = some n)
    (hx : VRel σ (.slice a off len c) x) (hi : VRel σ (.int k (.ofNat i)) ix) (hlt : i < len) : ResV P σ A W ((Instr.indexAt t x ix).run P W) (.ptr a (off + i * n)) A := by
  simp only [VRel] at hi; subst hi
  have hx' : ∃ e cc, σ a = some e ∧ x = .slice (some ⟨e.blk, e.sh + off, none⟩) len cc := by
    cases c with
    | k m => simp only [VRel] at hx; obtain ⟨e, he, rfl⟩ := hx; exact ⟨e, m, he, rfl⟩
    | g z => simp only [VRel] at hx; obtain ⟨e, cc, he, rfl, _⟩ := hx; exact ⟨e, cc, he, rfl⟩
  obtain ⟨e, cc, he, rfl⟩ := hx'
  refine ⟨σ, .pointer (some ⟨e.blk, e.sh + (off + i * n), none⟩), W, ?_, by simp only [VRel]; exact ⟨e, he, rfl⟩, .refl hW⟩
  simp only [Instr.indexAt, asIntOf, Sem.run_bind, Sem.run_pure, Result.andThen_ok, underlying_run hu]
  rw [if_pos ⟨Int.natCast_nonneg i, Int.ofNat_lt.2 hlt⟩]
  simp only [Sem.run_bind, sizeOf_run hn, Result.andThen_ok, Sem.run_pure, Addr.add_none]
  simp [Nat.add_assoc]
theorem iaddra_ok (hW : WRel P σ A W) {t el : TypeId} {len n off i : Nat} {k : IntKind} {x ix : Value} {a : Ix} (hu : P.underlying t = some (.array len el)) (hn : sizeT P el = some n)
    (hx : VRel σ (.ptr a off) x) (hi : VRel σ (.int k (.ofNat i)) ix) (hlt : i < len) : ResV P σ A W ((Instr.indexAt t x ix).run P W) (.ptr a (off + i * n)) A := by
  simp only [VRel] at hi hx; subst hi
  obtain ⟨e, he, rfl⟩ := hx
  refine ⟨σ, .pointer (some ⟨e.blk, e.sh + (off + i * n), none⟩), W, ?_, by simp only [VRel]; exact ⟨e, he, rfl⟩, .refl hW⟩
  simp only [Instr.indexAt, asIntOf, Sem.run_bind, Sem.run_pure, Result.andThen_ok, underlying_run hu, Instr.sureAddr]
  rw [if_pos ⟨Int.natCast_nonneg i, Int.ofNat_lt.2 hlt⟩]
  simp only [Sem.run_bind, sizeOf_run hn, Result.andThen_ok, Sem.run_pure, Addr.add_none]
  simp [Nat.add_assoc]
theorem idxs_ok (hW : WRel P σ A W) {t : TypeId} {i b : Nat} {k : IntKind} {x ix : Value} {s : List Nat} (hu : P.underlying t = some .string)
    (hx : VRel σ (.str s) x) (hi : VRel σ (.int k (.ofNat i)) ix) (hb : listGet s i = some b) : ResV P σ A W ((Instr.index t x ix).run P W) (.int .u8 (.ofNat b)) A := by
  simp only [VRel] at hi hx; subst hi
  obtain ⟨bs, rfl, rfl⟩ := hx
  rw [listGet_eq, List.getElem?_map, Option.map_eq_some_iff] at hb
  obtain ⟨u, hu', rfl⟩ := hb
  refine ⟨σ, .int .u8 u.toNat, W, ?_, by simp [VRel], .refl hW⟩
  simp only [Instr.index, asIntOf, Sem.run_bind, Sem.run_pure, Result.andThen_ok, underlying_run hu]
  rw [if_pos (show 0 ≤ Int.ofNat i from Int.natCast_nonneg i)]
  have : bs[(Int.ofNat i).toNat]? = some u := by
    rw [Array.getElem?_toList] at hu'
    obtain ⟨hlt, he⟩ := Array.getElem?_eq_some_iff.1 hu'
    exact getElem?_eq_some_iff.2 ⟨hlt, he⟩
  rw [this]
  rfl
theorem idxa_ok (hW : WRel P σ A W) {t el : TypeId} {len n i : Nat} {k : IntKind} {x ix : Value} {cs : List AV} {v : AV} (hu : P.underlying t = some (.array len el)) (hn : sizeT P el = some n)
    (ha : isAggT P el = some false) (hx : VRel σ (.agg cs) x) (hi : VRel σ (.int k (.ofNat i)) ix) (hlt : i < len) (hv : listGet cs (i * n) = some v) : ResV P σ A W ((Instr.index t x ix).run P W) v A := by
  simp only [VRel] at hi hx; subst hi
  obtain ⟨ds, rfl, hds⟩ := hx
  rw [listGet_eq] at hv
  obtain ⟨u, hu', hr⟩ := VRels.get hds hv
  refine ⟨σ, u, W, ?_, hr, .refl hW⟩
  simp only [Instr.index, asIntOf, Sem.run_bind, Sem.run_pure, Result.andThen_ok, underlying_run hu]
  rw [if_pos ⟨Int.natCast_nonneg i, Int.ofNat_lt.2 hlt⟩]
  simp only [Sem.run_bind, sizeOf_run hn, Result.andThen_ok]
  exact part_one ha (by simpa using hu') W
theorem idxan_ok (hW : WRel P σ A W) {t el : TypeId} {len n i : Nat} {k : IntKind} {x ix : Value} {cs vs : List AV} (hu : P.underlying t = some (.array len el)) (hn : sizeT P el = some n)
    (ha : isAggT P el = some true) (hx : VRel σ (.agg cs) x) (hi : VRel σ (.int k (.ofNat i)) ix) (hlt : i < len) (hv : takeN n (listDrop (i * n) cs) = some vs) : ResV P σ A W ((Instr.index t x ix).run P W) (.agg vs) A := by
  simp only [VRel] at hi hx; subst hi
  obtain ⟨ds, rfl, hds⟩ := hx
  rw [listDrop_eq] at hv
  obtain ⟨_, rfl⟩ := takeN_some hv
  refine ⟨σ, .agg (ds.extract (i * n) (i * n + n)), W, ?_, ?_, .refl hW⟩
  · simp only [Instr.index, asIntOf, Sem.run_bind, Sem.run_pure, Result.andThen_ok, underlying_run hu]
    rw [if_pos ⟨Int.natCast_nonneg i, Int.ofNat_lt.2 hlt⟩]
    simp only [Sem.run_bind, sizeOf_run hn, Result.andThen_ok]
    have := part_agg (P := P) ha hn ds (i * n) W
    simpa using this
  · simp only [VRel]
    refine ⟨_, rfl, ?_⟩
    have := (hds.drop (i * n)).take n
    simpa [List.extract] using this

/-! plain arithmetic -/
theorem bytesEq_iff : ∀ (x y : List Nat), bytesEq x y = decide (x = y)
  | [], [] => by simp [bytesEq]
  | [], _ :: _ => by simp [bytesEq]
  | _ :: _, [] => by simp [bytesEq]
  | a :: x, b :: y => by
    simp only [bytesEq, bytesEq_iff x y]
    by_cases h : a = b
    · subst h; simp
    · simp [Nat.beq_eq, h]
theorem bytesEq_of {s t : List UInt8} : bytesEq (s.map UInt8.toNat) (t.map UInt8.toNat) = (s == t) := by
  rw [bytesEq_iff]
  by_cases h : s = t
  · subst h; simp
  · have : s.map UInt8.toNat ≠ t.map UInt8.toNat := fun e => h ((List.map_inj_right (fun a b hab => UInt8.toNat_inj.1 hab)).1 e)
    rw [decide_eq_false this]
    simp [h]
theorem bytesLt_of : ∀ {s t : List UInt8}, bytesLt (s.map UInt8.toNat) (t.map UInt8.toNat) = Op.bytesLess s t
  | s, [] => by cases s <;> simp [bytesLt, Op.bytesLess]
  | [], _ :: _ => by simp [bytesLt, Op.bytesLess]
  | a :: s, b :: t => by
    simp only [List.map_cons, bytesLt, Op.bytesLess, bytesLt_of (s := s) (t := t)]
    by_cases h : a < b
    · have h' : a.toNat < b.toNat := h
      have h2 : Nat.blt a.toNat b.toNat = true := Nat.blt_eq.symm ▸ h'
      simp [h, h2]
    · have h' : ¬ a.toNat < b.toNat := h
      have h2 : Nat.blt a.toNat b.toNat = false := by
        rw [Bool.eq_false_iff]; intro hc; exact h' (Nat.blt_eq ▸ hc)
      rw [h2]
      by_cases he : a = b
      · subst he; simp [h]
      · have : ¬ a.toNat = b.toNat := fun e => he (UInt8.toNat_inj.1 e)
        have h3 : Nat.beq a.toNat b.toNat = false := by
          rw [Bool.eq_false_iff]; intro hc; exact this (Nat.eq_of_beq_eq_true hc)
        rw [h3]; simp [h, he]
theorem intBin_ok {op : BinOp} {t : TypeId} {k k' : IntKind} {x y : Int} {v : AV} (hk : (isShift op || decide (k = k')) = true) (h : intBin op k x y = some v) :
    ∃ cv, (binOp op t (.int k x) (.int k' y)) = Pure.pure cv ∧ ∀ σ, VRel σ v cv := by
  cases op <;> simp only [intBin, isShift, Bool.false_or, Bool.true_or, decide_eq_true_eq] at h hk <;>
    first
    | (cases h; subst hk; exact ⟨_, by simp [binOp, Op.intArith, Op.intBits, Op.intCmp]; rfl, fun σ => by simp [VRel]⟩)
    | (split at h
       · cases h
       · rename_i hy
         cases h
         first
         | (subst hk; exact ⟨_, by simp [binOp, Op.intDiv, hy]; rfl, fun σ => by simp [VRel]⟩)
         | exact ⟨_, by simp [binOp, Op.shift, hy]; rfl, fun σ => by simp [VRel]⟩)
end Go.AE
namespace Go.AE
variable {P : Program} {σ : Sg} {A : AW} {W : World}
theorem strBin_ok {op : BinOp} {t : TypeId} {x y : List Nat} {v : AV} {a b : Value} (hx : VRel σ (.str x) a) (hy : VRel σ (.str y) b) (h : strBin op x y = some v) :
    ∃ cv, binOp op t a b = Pure.pure cv ∧ VRel σ v cv := by
  simp only [VRel] at hx hy
  obtain ⟨s, rfl, rfl⟩ := hx
  obtain ⟨u, rfl, rfl⟩ := hy
  have e1 : bytesEq (s.data.toList.map UInt8.toNat) (u.data.toList.map UInt8.toNat) = (s.toList == u.toList) := by
    rw [bytesEq_of, ByteArray.toList_eq, ByteArray.toList_eq]
  have e2 : bytesLt (s.data.toList.map UInt8.toNat) (u.data.toList.map UInt8.toNat) = Op.bytesLess s.toList u.toList := by
    rw [bytesLt_of, ByteArray.toList_eq, ByteArray.toList_eq]
  cases op <;> simp only [strBin, e1, e2] at h <;> first
    | (cases h; exact ⟨_, rfl, by simp [VRel]⟩)
    | (cases h; done)
    | skip
  split at h
  · rename_i hle
    cases h
    have hle' := Nat.le_of_ble_eq_true hle
    simp only [List.length_map, Array.length_toList] at hle'
    refine ⟨.string (s ++ u), ?_, ?_⟩
    · simp only [binOp, Op.stringOp]
      rw [if_neg]
      have : (IntKind.i64.max : Int) = 9223372036854775807 := by rfl
      rw [this]
      have h1 : s.size = s.data.size := rfl
      have h2 : u.size = u.data.size := rfl
      omega
    · simp only [VRel]
      exact ⟨s ++ u, rfl, by rw [← List.map_append]; simp⟩
  · cases h

theorem eqGuard_other {op : BinOp} {t : TypeId} {x y : Operand} {a b : Value} (h1 : a = .nilIface → b = .nilIface → isC x = true ∨ isC y = true) (h2 : ∀ c d, a = .agg c → b ≠ .agg d) (w : World) :
    (eqGuard op t x y a b).run P w = .ok () w := by
  have hmain : ∀ op, op = BinOp.eql ∨ op = BinOp.neq → (eqGuard op t x y a b).run P w = .ok () w := by
    rintro op (rfl | rfl)
    all_goals
      simp only [eqGuard, Bool.not_true, Bool.false_eq_true, if_false]
      split
      · rcases h1 rfl rfl with h | h
        · cases x with
          | const v => simp
          | _ => simp [isC] at h
        · cases y with
          | const v => simp
          | _ => simp [isC] at h
      · exact absurd rfl (h2 _ _ rfl)
      · rfl
  cases op <;> first | rfl | exact hmain _ (.inl rfl) | exact hmain _ (.inr rfl)
section eq
variable {d : Nat} {t : TypeId} (w : World)
theorem eq_bool (hu : P.underlying t = some .bool) (a b : Bool) : (Op.equalIn (d + 1) t (.bool a) (.bool b)).run P w = .ok (a == b) w := by
  simp only [Op.equalIn, Sem.run_bind, underlying_run hu, Result.andThen_ok]; rfl
theorem eq_int {k k' : IntKind} (hu : P.underlying t = some (.int k)) (a b : Int) : (Op.equalIn (d + 1) t (.int k' a) (.int k' b)).run P w = .ok (a == b) w := by
  simp only [Op.equalIn, Sem.run_bind, underlying_run hu, Result.andThen_ok]; rfl
theorem eq_string (hu : P.underlying t = some .string) (a b : ByteArray) : (Op.equalIn (d + 1) t (.string a) (.string b)).run P w = .ok (a == b) w := by
  simp only [Op.equalIn, Sem.run_bind, underlying_run hu, Result.andThen_ok]; rfl
theorem eq_ptr_nn {e : TypeId} (hu : P.underlying t = some (.pointer e)) (b : Option Addr) : (Op.equalIn (d + 1) t (.pointer none) (.pointer b)).run P w = .ok b.isNone w := by
  simp only [Op.equalIn, Sem.run_bind, underlying_run hu, Result.andThen_ok]; rfl
theorem eq_ptr_sn {e : TypeId} (hu : P.underlying t = some (.pointer e)) (b : Addr) : (Op.equalIn (d + 1) t (.pointer (some b)) (.pointer none)).run P w = .ok false w := by
  simp only [Op.equalIn, Sem.run_bind, underlying_run hu, Result.andThen_ok]; rfl
theorem eq_ptr_ss {e : TypeId} {n : Nat} (hu : P.underlying t = some (.pointer e)) (hn : sizeT P e = some n) (h0 : n ≠ 0) (b o q : Nat) :
    (Op.equalIn (d + 1) t (.pointer (some ⟨b, o, none⟩)) (.pointer (some ⟨b, q, none⟩))).run P w = .ok (Nat.beq o q) w := by
  simp only [Op.equalIn, Sem.run_bind, underlying_run hu, Result.andThen_ok]
  simp only [sizeOf_run hn, Result.andThen_ok]
  rw [if_pos h0]
  simp only [sameAddr, beq_self_eq_true, if_true, Sem.run_pure]
  congr 1
  by_cases h : o = q
  · subst h; simp
  · have h1 : ((⟨b, o, none⟩ : Addr) == ⟨b, q, none⟩) = false := by
      rw [beq_eq_false_iff_ne]; intro hc; exact h (congrArg Addr.off hc)
    rw [h1]
    symm
    rw [Bool.eq_false_iff]; intro hc; exact h (Nat.eq_of_beq_eq_true hc)
theorem eq_if_nn {ms : Array (String × TypeId)} (hu : P.underlying t = some (.interface ms)) : (Op.equalIn (d + 1) t .nilIface .nilIface).run P w = .ok true w := by
  simp only [Op.equalIn, Sem.run_bind, underlying_run hu, Result.andThen_ok]; rfl
theorem eq_if_ns {ms : Array (String × TypeId)} (hu : P.underlying t = some (.interface ms)) (u : TypeId) (v : Value) : (Op.equalIn (d + 1) t .nilIface (.iface u v)).run P w = .ok false w := by
  simp only [Op.equalIn, Sem.run_bind, underlying_run hu, Result.andThen_ok]; rfl
theorem eq_if_sn {ms : Array (String × TypeId)} (hu : P.underlying t = some (.interface ms)) (u : TypeId) (v : Value) : (Op.equalIn (d + 1) t (.iface u v) .nilIface).run P w = .ok false w := by
  simp only [Op.equalIn, Sem.run_bind, underlying_run hu, Result.andThen_ok]; rfl
theorem eq_sl_n {e : TypeId} (hu : P.underlying t = some (.slice e)) (l c : Nat) (b : Option Addr) (m k : Nat) : (Op.equalIn (d + 1) t (.slice none l c) (.slice b m k)).run P w = .ok b.isNone w := by
  simp only [Op.equalIn, Sem.run_bind, underlying_run hu, Result.andThen_ok]; rfl
theorem eq_sl_sn {e : TypeId} (hu : P.underlying t = some (.slice e)) (b : Addr) (l c : Nat) (m k : Nat) : (Op.equalIn (d + 1) t (.slice (some b) l c) (.slice none m k)).run P w = .ok false w := by
  simp only [Op.equalIn, Sem.run_bind, underlying_run hu, Result.andThen_ok]; rfl
theorem eq_map_n {e f : TypeId} (hu : P.underlying t = some (.map e f)) (b : Option Nat) : (Op.equalIn (d + 1) t (.map none) (.map b)).run P w = .ok b.isNone w := by
  simp only [Op.equalIn, Sem.run_bind, underlying_run hu, Result.andThen_ok]; rfl
theorem eq_map_sn {e f : TypeId} (hu : P.underlying t = some (.map e f)) (b : Nat) : (Op.equalIn (d + 1) t (.map (some b)) (.map none)).run P w = .ok false w := by
  simp only [Op.equalIn, Sem.run_bind, underlying_run hu, Result.andThen_ok]; rfl
theorem eq_fn_nn {p r : Array TypeId} {v : Bool} (hu : P.underlying t = some (.func p r v)) : (Op.equalIn (d + 1) t .nilFunc .nilFunc).run P w = .ok true w := by
  simp only [Op.equalIn, Sem.run_bind, underlying_run hu, Result.andThen_ok]; rfl
theorem eq_fn_ns {p r : Array TypeId} {v : Bool} (hu : P.underlying t = some (.func p r v)) (f : Fn) (x y : Array Value) : (Op.equalIn (d + 1) t .nilFunc (.func f x y)).run P w = .ok false w := by
  simp only [Op.equalIn, Sem.run_bind, underlying_run hu, Result.andThen_ok]; rfl
theorem eq_fn_sn {p r : Array TypeId} {v : Bool} (hu : P.underlying t = some (.func p r v)) (f : Fn) (x y : Array Value) : (Op.equalIn (d + 1) t (.func f x y) .nilFunc).run P w = .ok false w := by
  simp only [Op.equalIn, Sem.run_bind, underlying_run hu, Result.andThen_ok]; rfl
end eq
/-- '==' as the evaluator says -/
theorem eqV_ok {d : Nat} {t : TypeId} {td : TypeDesc} {k : EqK} {c : Bool} {x y : AV} {a b : Value} {r : Bool} (hu : P.underlying t = some td) (hk : eqKind P td = some k) (hx : VRel σ x a) (hy : VRel σ y b)
    (h : eqV k c x y = some r) (w : World) : (Op.equalIn (d + 1) t a b).run P w = .ok r w := by
  cases td <;> simp only [eqKind] at hk <;> first | (cases hk; done) | skip
  case bool =>
    cases hk
    cases x <;> cases y <;> simp only [eqV] at h <;> first | (cases h; done) | skip
    cases h; simp only [VRel] at hx hy; subst hx hy; exact eq_bool w hu _ _
  case pointer e =>
    split at hk
    · rename_i n hn
      split at hk
      · cases hk
      · rename_i h0
        cases hk
        cases x <;> cases y <;> simp only [eqV] at h <;> first | (cases h; done) | skip
        · split at h
          · rename_i hab
            subst hab; cases h
            simp only [VRel] at hx hy
            obtain ⟨e1, he1, rfl⟩ := hx
            obtain ⟨e2, he2, rfl⟩ := hy
            rw [he1] at he2; cases he2
            rw [eq_ptr_ss w hu hn h0]
            congr 1
            rw [Bool.eq_iff_iff, Nat.beq_eq, Nat.beq_eq]; omega
          · cases h
        · cases h; simp only [VRel] at hx hy; obtain ⟨e1, _, rfl⟩ := hx; subst hy; exact eq_ptr_sn w hu _
        · cases h; simp only [VRel] at hx hy; obtain ⟨e1, _, rfl⟩ := hy; subst hx; exact eq_ptr_nn w hu _
        · cases h; simp only [VRel] at hx hy; subst hx hy; exact eq_ptr_nn w hu _
    · cases hk
  case interface ms =>
    cases hk
    cases x <;> cases y <;> simp only [eqV] at h <;> first | (cases h; done) | skip
    · cases h; simp only [VRel] at hx hy; obtain ⟨u, rfl, _⟩ := hx; subst hy; exact eq_if_sn w hu _ _
    · cases h; simp only [VRel] at hx hy; obtain ⟨u, rfl, _⟩ := hy; subst hx; exact eq_if_ns w hu _ _
    · split at h
      · cases h; simp only [VRel] at hx hy; subst hx hy; exact eq_if_nn w hu
      · cases h
  case slice e =>
    cases hk
    cases x <;> cases y <;> simp only [eqV] at h <;> first | (cases h; done) | skip
    · cases h
      simp only [VRel] at hy; subst hy
      rename_i i o l cc
      cases cc with
      | k m => simp only [VRel] at hx; obtain ⟨e1, _, rfl⟩ := hx; exact eq_sl_sn w hu _ _ _ _ _
      | g z => simp only [VRel] at hx; obtain ⟨e1, c1, _, rfl, _⟩ := hx; exact eq_sl_sn w hu _ _ _ _ _
    · cases h; simp only [VRel] at hx hy; obtain ⟨e1, c1, rfl⟩ := hx; subst hy; exact eq_sl_sn w hu _ _ _ _ _
    · cases h
      simp only [VRel] at hx; subst hx
      rename_i i o l cc
      cases cc with
      | k m => simp only [VRel] at hy; obtain ⟨e1, _, rfl⟩ := hy; exact eq_sl_n w hu _ _ _ _ _
      | g z => simp only [VRel] at hy; obtain ⟨e1, c1, _, rfl, _⟩ := hy; exact eq_sl_n w hu _ _ _ _ _
    · cases h; simp only [VRel] at hx hy; obtain ⟨e1, c1, rfl⟩ := hy; subst hx; exact eq_sl_n w hu _ _ _ _ _
    · cases h; simp only [VRel] at hx hy; subst hx hy; exact eq_sl_n w hu _ _ _ _ _
  case map e f =>
    cases hk
    cases x <;> cases y <;> simp only [eqV] at h <;> first | (cases h; done) | skip
    · cases h; simp only [VRel] at hx hy; obtain ⟨u, _, rfl⟩ := hx; subst hy; exact eq_map_sn w hu _
    · cases h; simp only [VRel] at hx hy; obtain ⟨u, _, rfl⟩ := hy; subst hx; exact eq_map_n w hu _
    · cases h; simp only [VRel] at hx hy; subst hx hy; exact eq_map_n w hu _
  case func p q v =>
    cases hk
    cases x <;> cases y <;> simp only [eqV] at h <;> first | (cases h; done) | skip
    · cases h; simp only [VRel] at hx hy; obtain ⟨u, _, rfl, _⟩ := hx; subst hy; exact eq_fn_sn w hu _ _ _
    · cases h; simp only [VRel] at hx hy; obtain ⟨u, _, rfl, _⟩ := hy; subst hx; exact eq_fn_ns w hu _ _ _
    · cases h; simp only [VRel] at hx hy; subst hx hy; exact eq_fn_nn w hu
end Go.AE
