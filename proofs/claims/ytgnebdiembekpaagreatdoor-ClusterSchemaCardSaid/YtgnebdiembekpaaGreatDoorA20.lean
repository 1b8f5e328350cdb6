import Derived.Test.YtgnebdiembekpaaGreatDoorA19
import Derived.Lib.SlKeysI
import Derived.Test.YtgnebdiembekpaaGreatDoorA18
import Derived.Test.YtgnebdiembekpaaGreatDoorA3
/- Part of the proof: the abstract evaluator, its soundness, its runs: AeExt4, AeExt3, AeExt5 -/
set_option linter.unusedSectionVars false
set_option linter.unusedSimpArgs false
set_option linter.unusedVariables false
set_option linter.unnecessarySimpa false
namespace Go.AE
open Go.WideElems (Fit rd rg)
open Go.RowKit (Below)
variable {P : Program} {σ : Sg} {A A' : AW} {W W' : World} {args : List AV} {vals : Array Value} {v : AV} {f : Nat}
/-! ### the sorted keys, of numbers -/
theorem insI_perm (x : Int) : ∀ l, (insI x l).Perm (x :: l)
  | [] => .refl _
  | y :: l => by
    simp only [insI]
    split
    · exact ((insI_perm x l).cons y).trans (.swap x y l)
    · exact .refl _
theorem sortI_perm : ∀ l, (sortI l).Perm l
  | [] => .refl _
  | x :: l => (insI_perm x (sortI l)).trans ((sortI_perm l).cons x)
theorem upI_pairwise : ∀ (l : List Int), upI l = true → l.Pairwise fun a b => a < b
  | [], _ => .nil
  | [x], _ => by simp
  | x :: y :: l, h => by
    simp only [upI, Bool.and_eq_true, decide_eq_true_eq] at h
    have ih := upI_pairwise (y :: l) h.2
    rw [List.pairwise_cons]
    refine ⟨fun z hz => ?_, ih⟩
    rcases List.mem_cons.1 hz with rfl | hz
    · exact h.1
    · exact Int.lt_trans h.1 ((List.pairwise_cons.1 ih).1 z hz)
theorem intKeys_spec {es : List (AV × AV × Nat)} {ces : List MapEntry} (hr : ESRel σ es ces) : ∀ {l : List Int}, intKeys es = some l → ces.map (·.key) = l.map encZ := by
  induction es generalizing ces with
  | nil =>
    intro l h
    simp only [ESRel] at hr
    subst hr
    simp only [intKeys, Option.some.injEq] at h
    subst h
    rfl
  | cons x es ih =>
    intro l h
    obtain ⟨k, v, b⟩ := x
    obtain ⟨c, rest, rfl, h1, h2, h3, h4⟩ := hr
    cases k <;> try (simp only [intKeys] at h; cases h; done)
    rename_i k n
    cases k <;> try (simp only [intKeys] at h; cases h; done)
    simp only [intKeys] at h
    split at h
    · rename_i r hr'
      simp only [Option.some.injEq] at h
      subst h
      have hk2 := ih h4 hr'
      simp only [VRel] at h1
      simp only [List.map_cons, hk2, h1, encZ]
    · cases h
theorem inI_mem : ∀ {l : List Int}, inI l = true → ∀ x, x ∈ l → -9223372036854775808 ≤ x ∧ x ≤ 9223372036854775807
  | [], _, x, hx => by cases hx
  | y :: l, h, x, hx => by
    simp only [inI, Bool.and_eq_true, decide_eq_true_eq] at h
    rcases List.mem_cons.1 hx with rfl | hx
    · exact h.1
    · exact inI_mem h.2 x hx
theorem encZ_rels : ∀ (l : List Int), VRels σ (l.map (AV.int .i64)) (l.map encZ)
  | [] => by simp [VRels]
  | x :: l => by
    simp only [List.map_cons]
    refine VRels.cons ?_ (encZ_rels l)
    simp only [VRel, encZ]
/-- slices.Sorted(maps.Keys(m)) at numbers, as the shelf's contract says it -/
def SortedI (P : Program) (f g : Nat) (kt et : TypeId) : Prop :=
  ∀ (Bm b nn : Nat) (D0 : DataW Unit) (R : Value → Option (DataW Unit × List MemPlace)) (w : World), Bm < w.heap.size → w.cell? ⟨Bm, 0, none⟩ = some (.map (some b)) → w.ownsMap P kt R b nn D0 → Maps.size D0 ≤ maxLen → Maps.size D0 * 8 ≤ 140737488355328 →
    Calls P f #[.func (.func g) #[] #[.pointer (some ⟨Bm, 0, none⟩)]] w fun e w' => ∃ (v : Value) (ss : List Int), e = .returned v ∧ ss.Perm (Go.intKeys D0) ∧
      w'.ownsRow w.heap.size et 1 v ss.length ((ss.mergeSort (fun x y => decide (x ≤ y))).map encZ) ∧ (v = .slice none 0 0 ↔ ss = []) ∧ Below w.heap.size w w'
theorem sortedKeys_int {es : List (AV × AV × Nat)} {ces : Array MapEntry} {clock : Nat} {kt : TypeId} {lv : List AV} (hr : ESRel σ es ces.toList) (hb : bornsOk es = true) (hclk : ∀ x, x ∈ es → x.2.2 < clock) (hk : P.underlying kt = some (.int .i64)) (h : sortedKeys true es = some lv) :
    ∃ us : List Int, lv = us.map (AV.int .i64) ∧ us.Pairwise (fun a b => a < b) ∧ Fit P kt RR ces clock ∧ us.Perm (Go.intKeys (DataW.map ((ces.toList.map (rg P kt RR)).foldr DataW.insert []))) ∧ ces.size ≤ 1000000 := by
  simp only [sortedKeys, if_true] at h
  split at h
  · rename_i hlen
    split at h
    · rename_i ks hl
      split at h
      · rename_i hup
        cases h
        rw [Bool.and_eq_true] at hup
        have hkeys := intKeys_spec hr hl
        have hlen' : ces.size ≤ 1000000 := by
          have h0 := hr.length
          have h1 : ces.toList.length = ces.size := Array.length_toList
          have := Nat.le_of_ble_eq_true hlen
          omega
        have hpw := upI_pairwise (sortI ks) hup.1
        have hnd : ks.Nodup := (sortI_perm ks).nodup_iff.1 (hpw.imp fun h e => by subst e; exact Int.lt_irrefl _ h)
        have hin := inI_mem hup.2
        have hread : ∀ x, x ∈ ces.toList → ∃ b : Int, b ∈ ks ∧ x.key = encZ b ∧ keyOf P kt x.key = some (.int .i64 b) := by
          intro x hx
          have : x.key ∈ ks.map encZ := by rw [← hkeys]; exact List.mem_map.2 ⟨x, hx, rfl⟩
          obtain ⟨b, hb, he⟩ := List.mem_map.1 this
          refine ⟨b, hb, he.symm, ?_⟩
          rw [← he]
          have hsz := hin b hb
          have hwf : (Lit.int .i64 b).wf = true := by
            have h1 : IntKind.i64.min = -9223372036854775808 := by decide
            have h2 : IntKind.i64.max = 9223372036854775807 := by decide
            simp only [Lit.wf, Bool.and_eq_true, decide_eq_true_eq, h1, h2]
            omega
          simp [keyOf, hk, mapKey, encZ, hwf]
        have hrg : ∀ x, x ∈ ces.toList → ∃ b : Int, x.key = encZ b ∧ rd P kt RR x = some (.int .i64 b, .lit (.bool true)) := by
          intro x hx
          obtain ⟨b, _, h1, h2⟩ := hread x hx
          exact ⟨b, h1, by simp [rd, h2, RR]⟩
        have hfit : Fit P kt RR ces clock := by
          refine ⟨by unfold maxLen; omega, ⟨fun x hx => ?_, ?_, ?_⟩, fun x hx => ?_⟩
          · have : x.born ∈ es.map (·.2.2) := by rw [← hr.borns]; exact List.mem_map.2 ⟨x, hx, rfl⟩
            obtain ⟨y, hy, he⟩ := List.mem_map.1 this
            rw [← he]; exact hclk y hy
          · rw [hr.borns]; exact bornsOk_nodup hb
          · rw [hkeys]
            exact List.Pairwise.map encZ (fun a b hne e => hne (encZ_inj e)) hnd
          · obtain ⟨b, _, h2⟩ := hrg x hx
            exact ⟨_, h2⟩
        refine ⟨sortI ks, rfl, hpw, hfit, ?_, hlen'⟩
        refine (sortI_perm ks).trans ?_
        have h1 : (Go.intKeys (DataW.map ((ces.toList.map (rg P kt RR)).foldr DataW.insert []))).Perm ((ces.toList.map (rg P kt RR)).map fun p => Go.intOf p.1) := (WideShapes.sorted_perm _).map _
        have h2 : (ces.toList.map (rg P kt RR)).map (fun p => Go.intOf p.1) = ks := by
          have h3 : ((ces.toList.map (rg P kt RR)).map (fun p => Go.intOf p.1)).map encZ = ks.map encZ := by
            rw [← hkeys, List.map_map, List.map_map]
            refine List.map_congr_left fun x hx => ?_
            obtain ⟨b, h4, h5⟩ := hrg x hx
            simp only [Function.comp, WideElems.rg_of h5, Go.intOf, h4]
          exact (List.map_inj_right (fun a b hab => encZ_inj hab)).1 h3
        rw [h2] at h1
        exact h1.symm
      · cases h
    · cases h
  · cases h
theorem ext_sortedI {et : TypeId} {kt : Nat → TypeId} {ks : List Nat} (hen : ∀ args w, (callFunc f args).run P w = .ok (.enter f args) w) (hkt : ∀ g, g ∈ ks → P.underlying (kt g) = some (.int .i64)) (hs : ∀ g, g ∈ ks → SortedI P f g (kt g) et) : ExtOk P f (.sorted true et ks) := by
  intro args vals σ A W v A' hr hW hG hv
  unfold extRun at hr
  split at hr <;> rename_i hex
  all_goals try (cases hex; done)
  · rename_i i et' ks' g c
    cases hex
    split at hr
    · rename_i hg
      have hg : g ∈ ks := by simpa using hg
      split at hr
      · rename_i m l ety frz hc
        split at hr
        · rename_i es clock hm
          split at hr
          · rename_i hborn
            -- what the arguments are
            obtain ⟨x, rfl, h1⟩ := vrels1 hv
            simp only [VRel] at h1
            obtain ⟨cs, ds, rfl, hcs, hds⟩ := h1
            have hcs' : cs = #[] := by
              simp only [VRels] at hcs
              exact Array.toList_eq_nil_iff.1 hcs
            subst hcs'
            obtain ⟨p, rfl, hp⟩ := vrels1 hds
            simp only [VRel] at hp
            obtain ⟨e, he, rfl⟩ := hp
            obtain ⟨cv, hcell, hcv⟩ := cell_of hW hc he (o := 0) (x := .map m) rfl
            simp only [VRel] at hcv
            obtain ⟨em, hem, rfl⟩ := hcv
            obtain ⟨e', ob, he', hb, cc, fz, rfl, _, _, hsh, _⟩ := hW.obj c _ hc
            rw [he] at he'; cases he'
            have hsh0 := (hsh rfl).1
            obtain ⟨e', ob, he', hbm, ces, rfl, hes, hclk⟩ := hW.obj m _ hm
            rw [hem] at he'; cases he'
            have key : ∀ lv, sortedKeys true es = some lv → ∃ us : List Int, lv = us.map (AV.int .i64) ∧
                Calls P f #[.func (.func g) #[] #[.pointer (some ⟨e.blk, e.sh + 0, none⟩)]] W fun e w' => ∃ v, e = .returned v ∧ w'.ownsRow W.heap.size et 1 v us.length (us.map encZ) ∧ (v = .slice none 0 0 ↔ us = []) ∧ Below W.heap.size W w' := by
              intro lv hlv
              obtain ⟨us, h1, h2, h3, h4, h5⟩ := sortedKeys_int hes hborn hclk (hkt g hg) hlv
              refine ⟨us, h1, ?_⟩
              have hown : W.ownsMap P (kt g) RR em.blk ces.size (DataW.map ((ces.toList.map (rg P (kt g) RR)).foldr DataW.insert [])) := ⟨ces, clock, hbm, h3, Nat.le_refl _, rfl⟩
              have hsz := hown.size_le
              rw [hsh0, Nat.zero_add] at hcell ⊢
              refine Calls.mono (hs g hg e.blk em.blk ces.size _ RR W (Array.getElem?_eq_some_iff.1 hb).1 hcell hown (by unfold maxLen; omega) (by omega)) ?_
              rintro e w' ⟨v, ss, rfl, k1, k2, k3, k4⟩
              have hperm : ss.Perm us := k1.trans h4.symm
              have hms : ss.mergeSort (fun x y => decide (x ≤ y)) = us := by
                rw [mergeSort_of_perm_i hperm]
                exact List.mergeSort_of_pairwise (h2.imp fun h => by simpa using Int.le_of_lt h)
              rw [hms, hperm.length_eq] at k2
              refine ⟨v, rfl, k2, ?_, k4⟩
              rw [k3]
              constructor
              · intro h; subst h; exact List.nil_perm.1 hperm
              · intro h; subst h; exact List.perm_nil.1 hperm
            have fin : ∀ (us : List Int) (v : AV) (A' : AW), (us = [] → v = .nilslice ∧ A' = A) → (us ≠ [] → v = .slice A.nx 0 us.length (.g 1) ∧ A' = A.new (.cells (us.map (AV.int .i64)) et true false)) →
                Calls P f #[.func (.func g) #[] #[.pointer (some ⟨e.blk, e.sh + 0, none⟩)]] W (fun e w' => ∃ v, e = .returned v ∧ w'.ownsRow W.heap.size et 1 v us.length (us.map encZ) ∧ (v = .slice none 0 0 ↔ us = []) ∧ Below W.heap.size W w') →
                NRes P σ A W ((callFunc f #[.func (.func g) #[] #[.pointer (some ⟨e.blk, e.sh + 0, none⟩)]]).run P W) v A' := by
              intro us v A' hnil hcons hcall
              refine .inr ⟨f, _, hen _ _, Calls.mono hcall ?_⟩
              rintro en w' ⟨cv, rfl, hrow, hn, hbel⟩
              by_cases hus : us = []
              · obtain ⟨rfl, rfl⟩ := hnil hus
                refine ⟨cv, σ, rfl, ?_, Step.kept hW hbel.size hbel.block ⟨hbel.os, hbel.output⟩⟩
                simp only [VRel]
                exact hn.2 hus
              · obtain ⟨rfl, rfl⟩ := hcons hus
                rcases hrow.2 with ⟨h1, _⟩ | ⟨gb, cap, cur, rfl, hge, hgb, q1, q2, q3, q4⟩
                · exact absurd (hn.1 h1) hus
                · refine ⟨_, σ.set A.nx ⟨gb, 0, cap⟩, rfl, ?_, Step.newAt hW _ (.cells cur et (0, 0)) gb 0 cap hge hgb hbel.block ⟨hbel.os, hbel.output⟩ fun τ hτ => ?_⟩
                  · simp only [VRel]
                    exact ⟨_, cap, Sg.set_same _ _ _, rfl, q1, by simp, by omega⟩
                  · refine ⟨cur, (0, 0), rfl, ?_, ?_, by simp, ?_, by simp⟩
                    · simp; omega
                    · have hl : (us.map (AV.int .i64)).length = us.length * 1 := by simp
                      rw [hl, List.drop_zero, q4]
                      exact encZ_rels us
                    · intro _; simp; omega
            split at hr
            · rename_i hlv
              cases hr
              obtain ⟨us, h1, h2⟩ := key _ hlv
              have hus : us = [] := by
                cases us with
                | nil => rfl
                | cons => simp at h1
              exact fin us _ _ (fun _ => ⟨rfl, rfl⟩) (fun h => absurd hus h) h2
            · rename_i lv hne hlv
              cases hr
              obtain ⟨us, h1, h2⟩ := key _ hlv
              subst h1
              refine fin us _ _ (fun h => ?_) (fun _ => ⟨by simp, rfl⟩) h2
              subst h; simp at hne
            · cases hr
          · cases hr
        · cases hr
      · cases hr
    · cases hr
  · cases hr
end Go.AE
namespace Go.AE
variable {P : Program}
theorem u8N_some {v : AV} {m : Nat} (h : u8N v = m + 1) : v = .int .u8 (.ofNat m) := by
  unfold u8N at h
  split at h
  · split at h
    · split at h
      · cases h; rfl
      · cases h
    · cases h
  · cases h
theorem u8Eq_eq : ∀ {x y : List AV}, u8Eq x y = true → x = y
  | [], y, h => by cases y with
    | nil => rfl
    | cons => simp [u8Eq] at h
  | a :: x, [], h => by simp [u8Eq] at h
  | a :: x, b :: y, h => by
    simp only [u8Eq] at h
    split at h
    · rename_i h1
      split at h
      · rename_i h2
        have h1 := Nat.eq_of_beq_eq_true h1
        rw [Nat.blt_eq] at h2
        obtain ⟨m, hm⟩ : ∃ m, u8N a = m + 1 := ⟨u8N a - 1, by omega⟩
        have ha := u8N_some hm
        have hb := u8N_some (v := b) (m := m) (by rw [← h1]; exact hm)
        rw [ha, hb, u8Eq_eq h]
      · cases h
    · cases h
theorem memoFind_mem : ∀ {l : List (List Nat × Bool)} {s : List Nat} {b : Bool}, memoFind l s = some b → (s, b) ∈ l
  | [], s, b, h => by simp [memoFind] at h
  | p :: l, s, b, h => by
    simp only [memoFind] at h
    split at h
    · rename_i hb
      have hs := bytesEq_eq hb
      cases h
      rw [← hs]
      exact List.mem_cons_self ..
    · exact List.mem_cons_of_mem _ (memoFind_mem h)
theorem ro1_get {gl : Ix} {l : List AV} {et : Nat} {nx x : Ix} {o : AO} (h : (ro1 gl l et nx).get x = some o) : x = gl ∧ o = .cells l et false true := by
  by_cases hx : x = gl
  · subst hx
    simp [ro1, AW.get, Tr.get_set_same] at h
    exact ⟨rfl, h.symm⟩
  · simp [ro1, AW.get, Tr.get_set_other _ _ _ _ hx, Tr.get_leaf, olds_get] at h
/-- what a function hands back at some texts, proved by the evaluator once -/
theorem ext_memo (hm : P.follows .mixedOrders = true) {F : Tr IFn} (hF : FRel P F) {n f np g : Nat} {res : List RVar} {body : ICode} (hf : F.get (Ix.ofTmp f) = some (.go np res body)) (hg : g < P.globals.size) {l : List AV} {tbl : List (List Nat × Bool)} {nx : Ix} (hnx : ∀ g', g' < P.globals.size → (gIx g').toNat < nx.toNat)
    (hrun : ∀ p, p ∈ tbl → ∀ et, ∃ A', callFn F (ev F n) f [.str p.1] (ro1 (gIx g) l et nx) = some (.bool p.2, A')) : ExtOk P f (.memo (gIx g) l tbl) := by
  intro args vals σ A W v A' hr hW hG hv
  unfold extRun at hr
  split at hr <;> rename_i hex
  all_goals try (cases hex; done)
  · rename_i gl l0 tbl0 s
    cases hex
    unfold memoRun at hr
    split at hr
    · rename_i l' et hget
      split at hr
      · rename_i hl
        have hl := u8Eq_eq hl
        subst hl
        split at hr
        · rename_i b hb
          cases hr
          obtain ⟨A', hrun⟩ := hrun _ (memoFind_mem hb) et
          obtain ⟨fn, c, h1, h2, h3, _⟩ := hF.go f np res body hf
          let σ1 : Sg := fun x => open Classical in if ∃ g', g' < P.globals.size ∧ x = gIx g' then σ x else none
          have hσ1 : ∀ g', g' < P.globals.size → σ1 (gIx g') = σ (gIx g') := fun g' hg' => if_pos ⟨g', hg', rfl⟩
          have hW1 : WRel P σ1 (ro1 (gIx g) l et nx) W := {
            obj := fun a o ha => by
              obtain ⟨rfl, rfl⟩ := ro1_get ha
              obtain ⟨e, ob, k1, k2, k3⟩ := hW.obj _ _ hget
              refine ⟨e, ob, by rw [hσ1 g hg]; exact k1, k2, ?_⟩
              obtain ⟨c, fz, q1, q2, q3, q4⟩ := k3
              refine ⟨c, fz, q1, q2, ?_, q4⟩
              have : ∀ (x : List AV) (y z : List AV) (vs : List Value), u8Eq x y = true → VRels σ x vs → VRels σ1 x vs := by
                intro x
                induction x with
                | nil => intro y _ vs _ h; simpa only [VRels] using h
                | cons a x ih =>
                  intro y z vs hxy h
                  have hxx := u8Eq_eq hxy
                  subst hxx
                  simp only [u8Eq] at hxy
                  split at hxy
                  · split at hxy
                    · rename_i h2
                      rw [Nat.blt_eq] at h2
                      obtain ⟨m, hm⟩ : ∃ m, u8N a = m + 1 := ⟨u8N a - 1, by omega⟩
                      simp only [VRels] at h ⊢
                      obtain ⟨v, rest, rfl, p1, p2⟩ := h
                      refine ⟨v, rest, rfl, ?_, ih _ z _ hxy p2⟩
                      rw [u8N_some hm] at p1 ⊢
                      simpa only [VRel] using p1
                    · cases hxy
                  · cases hxy
              exact this l l l _ (by assumption) q3
            inj := fun a b e f ha hb he hf hab => by
              obtain ⟨o, ho⟩ := Option.isSome_iff_exists.1 ha
              obtain ⟨u, hu⟩ := Option.isSome_iff_exists.1 hb
              exact absurd ((ro1_get ho).1.trans (ro1_get hu).1.symm) hab
            fresh := fun a e he => by
              by_cases hx : ∃ g', g' < P.globals.size ∧ a = gIx g'
              · obtain ⟨g', hg', rfl⟩ := hx
                exact hnx g' hg'
              · have : σ1 a = none := if_neg hx
                rw [this] at he; cases he }
          have hG1 : GRel P σ1 := fun g' hg' => by
            rw [hσ1 g' hg']; exact hG g' hg'
          have hv1 : VRels σ1 [.str s] vals.toList := by
            obtain ⟨c, rfl, hc⟩ := vrels1 hv
            refine VRels.cons ?_ VRels.nil
            simpa only [VRel] using hc
          refine .inr ⟨f, vals, runF_enter h1 h2 h3 vals W, Calls.mono (calls_of_run hm hF hf hrun hW1 hG1 hv1) ?_⟩
          rintro e w' ⟨cv, σ', rfl, k1, k2⟩
          refine ⟨cv, σ, rfl, by simpa only [VRel] using k1, Step.kept hW k2.size (fun j hj => ?_) k2.io⟩
          by_cases hx : ∃ a e, ((ro1 (gIx g) l et nx).get a).isSome = true ∧ σ1 a = some e ∧ e.blk = j
          · obtain ⟨a, e, ha, he, rfl⟩ := hx
            obtain ⟨o, ho⟩ := Option.isSome_iff_exists.1 ha
            obtain ⟨rfl, rfl⟩ := ro1_get ho
            exact (k2.ro _ _ _ _ ho he).2
          · exact k2.pres j hj fun a e ha he hej => hx ⟨a, e, ha, he, hej⟩
        · cases hr
      · cases hr
    · cases hr
  · cases hr
end Go.AE
namespace Go.AE
variable {P : Program}
theorem Ix.toNat_add : ∀ p q : Ix, (p.add q).toNat = p.toNat + q.toNat
  | .h, q => by simp only [Ix.add, Ix.toNat_succ, Ix.toNat]; omega
  | .o p, .h => by simp only [Ix.add, Ix.toNat]
  | .i p, .h => by simp only [Ix.add, Ix.toNat_succ, Ix.toNat]; omega
  | .o p, .o q => by simp only [Ix.add, Ix.toNat, Ix.toNat_add p q]; omega
  | .o p, .i q => by simp only [Ix.add, Ix.toNat, Ix.toNat_add p q]; omega
  | .i p, .o q => by simp only [Ix.add, Ix.toNat, Ix.toNat_add p q]; omega
  | .i p, .i q => by simp only [Ix.add, Ix.toNat_succ, Ix.toNat, Ix.toNat_add p q]; omega
theorem Ix.add_inj {b p q : Ix} (h : b.add p = b.add q) : p = q := by
  have := congrArg Ix.toNat h
  rw [Ix.toNat_add, Ix.toNat_add] at this
  exact Ix.toNat_inj (by omega)
/-! ### the same, told by a Bool -/
theorem ixEq_eq : ∀ {p q : Ix}, ixEq p q = true → p = q
  | .h, .h, _ => rfl
  | .o p, .o q, h => by rw [ixEq_eq (p := p) (q := q) h]
  | .i p, .i q, h => by rw [ixEq_eq (p := p) (q := q) h]
  | .h, .o _, h => by cases h
  | .h, .i _, h => by cases h
  | .o _, .h, h => by cases h
  | .o _, .i _, h => by cases h
  | .i _, .h, h => by cases h
  | .i _, .o _, h => by cases h
theorem ixEq_refl : ∀ p : Ix, ixEq p p = true
  | .h => rfl
  | .o p => ixEq_refl p
  | .i p => ixEq_refl p
theorem capEq_eq : ∀ {a b : Cap}, capEq a b = true → a = b
  | .k n, .k m, h => by rw [Nat.eq_of_beq_eq_true h]
  | .g n, .g m, h => by rw [Nat.eq_of_beq_eq_true h]
  | .k _, .g _, h => by cases h
  | .g _, .k _, h => by cases h
theorem leafEq_eq {x y : AV} (h : leafEq x y = true) : x = y := by
  unfold leafEq at h
  split at h
  all_goals try rfl
  · rw [eq_of_beq h]
  · simp only [Bool.and_eq_true, decide_eq_true_eq] at h; rw [h.1, h.2]
  · rw [bytesEq_eq h]
  · simp only [Bool.and_eq_true] at h; rw [ixEq_eq h.1, Nat.eq_of_beq_eq_true h.2]
  · simp only [Bool.and_eq_true] at h; rw [ixEq_eq h.1.1.1, Nat.eq_of_beq_eq_true h.1.1.2, Nat.eq_of_beq_eq_true h.1.2, capEq_eq h.2]
  · rw [ixEq_eq h]
  · cases h
mutual
theorem sameV_eq : ∀ {x y : AV}, sameV x y = true → x = y
  | .func f a b, y, h => by
    cases y <;> simp only [sameV, Bool.and_eq_true] at h <;> try (cases h; done)
    rw [Nat.eq_of_beq_eq_true h.1.1, sameVs_eq h.1.2, sameVs_eq h.2]
  | .iface t v, y, h => by
    cases y <;> simp only [sameV, Bool.and_eq_true] at h <;> try (cases h; done)
    rw [Nat.eq_of_beq_eq_true h.1, sameV_eq h.2]
  | .agg l, y, h => by
    cases y <;> simp only [sameV] at h <;> try (cases h; done)
    rw [sameVs_eq h]
  | .tup l, y, h => by
    cases y <;> simp only [sameV] at h <;> try (cases h; done)
    rw [sameVs_eq h]
  | .undef, _, h | .bool _, _, h | .int _ _, _, h | .str _, _, h | .ptr _ _, _, h | .nilptr, _, h | .slice _ _ _ _, _, h | .zslice, _, h | .nilslice, _, h | .map _, _, h | .nilmap, _, h | .yield _, _, h | .nilfunc, _, h | .niliface, _, h | .cls _ _, _, h => leafEq_eq (by simpa only [sameV] using h)
theorem sameVs_eq : ∀ {x y : List AV}, sameVs x y = true → x = y
  | [], [], _ => rfl
  | x :: l, y :: m, h => by
    simp only [sameVs, Bool.and_eq_true] at h
    rw [sameV_eq h.1, sameVs_eq h.2]
  | [], _ :: _, h => by simp [sameVs] at h
  | _ :: _, [], h => by simp [sameVs] at h
end
theorem bEq_eq : ∀ {a b : Bool}, bEq a b = true → a = b
  | true, true, _ => rfl
  | false, false, _ => rfl
theorem sameO_eq {x y : AO} (h : sameO x y = true) : x = y ∧ ∃ l et g z, x = .cells l et g z := by
  unfold sameO at h
  split at h
  · simp only [Bool.and_eq_true] at h
    refine ⟨by rw [sameVs_eq h.1.1.1, Nat.eq_of_beq_eq_true h.1.1.2, bEq_eq h.1.2, bEq_eq h.2], _, _, _, _, rfl⟩
  · cases h
/-! ### what a run made, held against a table -/
theorem notIn_ne {x y : Ix} : ∀ {l : List Ix}, notIn x l = true → y ∈ l → x ≠ y
  | [], _, hy => by cases hy
  | z :: l, h, hy => by
    simp only [notIn, Bool.and_eq_true, Bool.not_eq_true'] at h
    rcases List.mem_cons.1 hy with rfl | hy
    · intro e; subst e; rw [ixEq_refl] at h; cases h.1
    · exact notIn_ne h.2 hy
theorem distinct_nodup : ∀ {l : List Ix}, distinct l = true → l.Nodup
  | [], _ => .nil
  | x :: l, h => by
    simp only [distinct, Bool.and_eq_true] at h
    exact List.nodup_cons.2 ⟨fun hx => notIn_ne h.1 hx rfl, distinct_nodup h.2⟩
def nthS : Nat → Ix → Ix
  | 0, c => c
  | k + 1, c => nthS k c.succ
theorem nthS_toNat : ∀ (k : Nat) (c : Ix), (nthS k c).toNat = c.toNat + k
  | 0, c => rfl
  | k + 1, c => by rw [nthS, nthS_toNat, Ix.toNat_succ]; omega
theorem pickIx_nth : ∀ {ns : List Ix} {cur bad : Ix} {k : Nat} {n : Ix}, ns[k]? = some n → pickIx ns cur bad (nthS k cur) = n
  | [], _, _, k, n, h => by simp at h
  | m :: ns, cur, bad, 0, n, h => by
    simp at h
    simp only [pickIx, nthS, ixEq_refl, if_true]; exact h
  | m :: ns, cur, bad, k + 1, n, h => by
    have h' : ns[k]? = some n := by simpa using h
    have hne : ixEq (nthS k cur.succ) cur = false := by
      rw [Bool.eq_false_iff]
      intro he
      have := congrArg Ix.toNat (ixEq_eq he)
      rw [nthS_toNat, Ix.toNat_succ] at this; omega
    simp only [pickIx, nthS, hne, Bool.false_eq_true, if_false]
    exact pickIx_nth h'
theorem pickIx_bad : ∀ {ns : List Ix} {cur bad r : Ix}, pickIx ns cur bad r ≠ bad → ∃ k, k < ns.length ∧ r = nthS k cur
  | [], _, _, _, h => absurd rfl h
  | m :: ns, cur, bad, r, h => by
    simp only [pickIx] at h
    by_cases he : ixEq r cur = true
    · exact ⟨0, by simp, ixEq_eq he⟩
    · rw [if_neg he] at h
      obtain ⟨k, hk, hr⟩ := pickIx_bad h
      exact ⟨k + 1, by simp; omega, hr⟩
theorem objsOk_get {r : Ix → Ix} {A : AW} : ∀ {ns : List Ix} {os : List AO}, objsOk r ns os A = true → ns.length = os.length ∧ ∀ (k : Nat) (n : Ix) (o : AO), ns[k]? = some n → os[k]? = some o → A.get n = some (mapO r o) ∧ ∃ l et g z, o = .cells l et g z
  | [], [], _ => ⟨rfl, fun k n o h => by simp at h⟩
  | n :: ns, o :: os, h => by
    simp only [objsOk, Bool.and_eq_true] at h
    obtain ⟨h1, h2⟩ := objsOk_get h.2
    refine ⟨by simp [h1], fun k m u hm hu => ?_⟩
    cases k with
    | zero =>
      simp at hm hu
      subst hm hu
      have h0 := h.1
      split at h0
      · rename_i o' ho
        obtain ⟨he, l, et, g, z, hc⟩ := sameO_eq h0
        refine ⟨by rw [ho, he], ?_⟩
        cases o with
        | cells l et g z => exact ⟨_, _, _, _, rfl⟩
        | _ => simp [mapO] at hc
      · cases h0
    | succ k => exact h2 k m u (by simpa using hm) (by simpa using hu)
  | [], _ :: _, h => by simp [objsOk] at h
  | _ :: _, [], h => by simp [objsOk] at h
/-! ### under other names -/
mutual
theorem mapV_rel {σ τ : Sg} {r s : Ix → Ix} (h : ∀ x e, σ (r x) = some e → τ (s x) = some e) : ∀ (x : AV) (v : Value), VRel σ (mapV r x) v → VRel τ (mapV s x) v
  | .undef, _, _ => by simp only [mapV, VRel]
  | .bool _, _, hv => by simpa only [mapV, VRel] using hv
  | .int _ _, _, hv => by simpa only [mapV, VRel] using hv
  | .str _, _, hv => by simpa only [mapV, VRel] using hv
  | .ptr _ _, _, hv => by simp only [mapV, VRel] at hv ⊢; obtain ⟨e, he, hv⟩ := hv; exact ⟨e, h _ _ he, hv⟩
  | .nilptr, _, hv => by simpa only [mapV, VRel] using hv
  | .slice _ _ _ (.k _), _, hv => by simp only [mapV, VRel] at hv ⊢; obtain ⟨e, he, hv⟩ := hv; exact ⟨e, h _ _ he, hv⟩
  | .slice _ _ _ (.g _), _, hv => by simp only [mapV, VRel] at hv ⊢; obtain ⟨e, c, he, hv⟩ := hv; exact ⟨e, c, h _ _ he, hv⟩
  | .zslice, _, hv => by simpa only [mapV, VRel] using hv
  | .nilslice, _, hv => by simpa only [mapV, VRel] using hv
  | .map _, _, hv => by simp only [mapV, VRel] at hv ⊢; obtain ⟨e, he, hv⟩ := hv; exact ⟨e, h _ _ he, hv⟩
  | .nilmap, _, hv => by simpa only [mapV, VRel] using hv
  | .func _ first cap, _, hv => by
    simp only [mapV, VRel] at hv ⊢; obtain ⟨cs, ds, hv, h1, h2⟩ := hv; exact ⟨cs, ds, hv, mapVs_rel h first _ h1, mapVs_rel h cap _ h2⟩
  | .yield _, _, hv => by simp only [mapV, VRel] at hv ⊢; obtain ⟨e, he, hv⟩ := hv; exact ⟨e, h _ _ he, hv⟩
  | .nilfunc, _, hv => by simpa only [mapV, VRel] using hv
  | .iface _ x, _, hv => by simp only [mapV, VRel] at hv ⊢; obtain ⟨y, hv, h1⟩ := hv; exact ⟨y, hv, mapV_rel h x _ h1⟩
  | .niliface, _, hv => by simpa only [mapV, VRel] using hv
  | .agg l, _, hv => by simp only [mapV, VRel] at hv ⊢; obtain ⟨cs, hv, h1⟩ := hv; exact ⟨cs, hv, mapVs_rel h l _ h1⟩
  | .tup l, _, hv => by simp only [mapV, VRel] at hv ⊢; obtain ⟨cs, hv, h1⟩ := hv; exact ⟨cs, hv, mapVs_rel h l _ h1⟩
  | .cls _ _, _, hv => by simpa only [mapV, VRel] using hv
theorem mapVs_rel {σ τ : Sg} {r s : Ix → Ix} (h : ∀ x e, σ (r x) = some e → τ (s x) = some e) : ∀ (x : List AV) (v : List Value), VRels σ (mapVs r x) v → VRels τ (mapVs s x) v
  | [], _, hv => by simpa only [mapVs, VRels] using hv
  | x :: l, _, hv => by
    simp only [mapVs, VRels] at hv ⊢; obtain ⟨v, rest, hv, h1, h2⟩ := hv; exact ⟨v, rest, hv, mapV_rel h x _ h1, mapVs_rel h l _ h2⟩
end
theorem mapVs_length (r : Ix → Ix) : ∀ l, (mapVs r l).length = l.length
  | [] => rfl
  | x :: l => by simp [mapVs, mapVs_length r l]
theorem mapO_rel {σ τ : Sg} {r s : Ix → Ix} (h : ∀ x e, σ (r x) = some e → τ (s x) = some e) {e : Ent} {ob : Obj} {l : List AV} {et : Nat} {g z : Bool} (ho : OR P σ e ob (mapO r (.cells l et g z))) : OR P τ e ob (mapO s (.cells l et g z)) := by
  obtain ⟨c, fz, h1, h2, h3, h4⟩ := ho
  rw [mapVs_length] at h2 h3 h4
  refine ⟨c, fz, h1, by rw [mapVs_length]; exact h2, by rw [mapVs_length]; exact mapVs_rel h _ _ h3, by rw [mapVs_length]; exact h4⟩
/-- more names, nothing of what was has turned -/
theorem Step.names {σ σ' : Sg} {A : AW} {W W' : World} {nx' : Ix} (h : WRel P σ A W) (hs : W.heap.size ≤ W'.heap.size) (hkeep : ∀ j, j < W.heap.size → W'.heap[j]? = W.heap[j]?) (hio : W'.os = W.os ∧ W'.output = W.output)
    (hle : σ.le σ') (hnx : A.nx.toNat ≤ nx'.toNat) (hfr : ∀ a e, σ' a = some e → a.toNat < nx'.toNat) (hdom : ∀ a e, σ' a = some e → σ a = some e ∨ A.nx.toNat ≤ a.toNat) : Step P σ A W σ' { A with nx := nx' } W' where
  le := hle
  rel := ⟨fun a o ha => by
    obtain ⟨e, ob, h1, h2, h3⟩ := h.obj a o ha
    exact ⟨e, ob, hle _ _ h1, by rw [hkeep _ (Array.getElem?_eq_some_iff.1 h2).1]; exact h2, h3.mono hle⟩,
    fun a b e f ha hb he hf hab => by
      obtain ⟨o, ho⟩ := Option.isSome_iff_exists.1 ha
      obtain ⟨u, hu⟩ := Option.isSome_iff_exists.1 hb
      obtain ⟨e', _, h1, _⟩ := h.obj a o ho
      obtain ⟨f', _, h2, _⟩ := h.obj b u hu
      have := hle _ _ h1; rw [he] at this; cases this
      have := hle _ _ h2; rw [hf] at this; cases this
      exact h.inj a b e f ha hb h1 h2 hab, hfr⟩
  size := hs
  pres := fun b hb _ => hkeep b hb
  img := fun a e ha he hlt => by
    obtain ⟨o, ho⟩ := Option.isSome_iff_exists.1 ha
    obtain ⟨e', _, h1, _⟩ := h.obj a o ho
    have := hle _ _ h1; rw [he] at this; cases this
    exact ⟨a, e, ha, h1, rfl⟩
  olds := rfl
  nx := hnx
  dom := hdom
  cdom := fun _ h => .inl h
  keepA := fun _ _ _ _ _ h => h
  keepH := fun a m b l e hlt ha he => hkeep _ (h.lt (A := A) (by rw [show A.get a = some (.mitR m b l) from ha]; rfl) he)
  ro := fun a l et e ha he => ⟨ha, hkeep _ (h.lt (by rw [ha]; rfl) he)⟩
  io := hio
theorem bytesFind_mem : ∀ {l : List (List Nat × AV × List AO)} {s : List Nat} {x : AV × List AO}, memgFind l s = some x → (s, x) ∈ l
  | [], s, b, h => by simp [memgFind] at h
  | p :: l, s, b, h => by
    simp only [memgFind] at h
    split at h
    · rename_i hb
      have hs := bytesEq_eq hb
      cases h
      rw [← hs]
      exact List.mem_cons_self ..
    · exact List.mem_cons_of_mem _ (bytesFind_mem h)
theorem cntIx_toNat : ∀ os : List AO, (cntIx os).toNat = os.length + 1
  | [] => rfl
  | _ :: l => by rw [cntIx, Ix.toNat_succ, cntIx_toNat l]; simp
/-- the world of one thing that is read only, of any world in which it stands -/
theorem ro1_of {σ : Sg} {A : AW} {W : World} {g et : Nat} {l : List AV} {nx : Ix} (hg : g < P.globals.size) (hnx : ∀ g', g' < P.globals.size → (gIx g').toNat < nx.toNat) (hW : WRel P σ A W) (hG : GRel P σ) (hget : A.get (gIx g) = some (.cells l et false true)) (hl : u8Eq l l = true) :
    ∃ σ1 : Sg, WRel P σ1 (ro1 (gIx g) l et nx) W ∧ GRel P σ1 := by
  let σ1 : Sg := fun x => open Classical in if ∃ g', g' < P.globals.size ∧ x = gIx g' then σ x else none
  have hσ1 : ∀ g', g' < P.globals.size → σ1 (gIx g') = σ (gIx g') := fun g' hg' => if_pos ⟨g', hg', rfl⟩
  refine ⟨σ1, {
    obj := fun a o ha => by
      obtain ⟨rfl, rfl⟩ := ro1_get ha
      obtain ⟨e, ob, k1, k2, k3⟩ := hW.obj _ _ hget
      refine ⟨e, ob, by rw [hσ1 g hg]; exact k1, k2, ?_⟩
      obtain ⟨c, fz, q1, q2, q3, q4⟩ := k3
      refine ⟨c, fz, q1, q2, ?_, q4⟩
      have : ∀ (x : List AV) (y z : List AV) (vs : List Value), u8Eq x y = true → VRels σ x vs → VRels σ1 x vs := by
        intro x
        induction x with
        | nil => intro y _ vs _ h; simpa only [VRels] using h
        | cons a x ih =>
          intro y z vs hxy h
          have hxx := u8Eq_eq hxy
          subst hxx
          simp only [u8Eq] at hxy
          split at hxy
          · split at hxy
            · rename_i h2
              rw [Nat.blt_eq] at h2
              obtain ⟨m, hm⟩ : ∃ m, u8N a = m + 1 := ⟨u8N a - 1, by omega⟩
              simp only [VRels] at h ⊢
              obtain ⟨v, rest, rfl, p1, p2⟩ := h
              refine ⟨v, rest, rfl, ?_, ih _ z _ hxy p2⟩
              rw [u8N_some hm] at p1 ⊢
              simpa only [VRel] using p1
            · cases hxy
          · cases hxy
      exact this l l l _ hl q3
    inj := fun a b e f ha hb he hf hab => by
      obtain ⟨o, ho⟩ := Option.isSome_iff_exists.1 ha
      obtain ⟨u, hu⟩ := Option.isSome_iff_exists.1 hb
      exact absurd ((ro1_get ho).1.trans (ro1_get hu).1.symm) hab
    fresh := fun a e he => by
      by_cases hx : ∃ g', g' < P.globals.size ∧ a = gIx g'
      · obtain ⟨g', hg', rfl⟩ := hx
        exact hnx g' hg'
      · have : σ1 a = none := if_neg hx
        rw [this] at he; cases he }, fun g' hg' => by
    rw [hσ1 g' hg']; exact hG g' hg'⟩
theorem putAll_olds (b : Ix) : ∀ (os : List AO) (r : Ix) (A : AW), (putAll b os r A).olds = A.olds ∧ (putAll b os r A).nx = A.nx
  | [], _, _ => ⟨rfl, rfl⟩
  | o :: os, r, A => putAll_olds b os r.succ _
/-- the objects of a table's row, one by one -/
theorem adoptAll {σ τ : Sg} {A : AW} {W w' : World} {σ' : Sg} {A' : AW} {ns0 : List Ix} {bad : Ix} (hnsnd : ns0.Nodup)
    (hτ : ∀ r, τ (Ix.add A.nx r) = σ' (pickIx ns0 .h bad r)) (hold : ∀ x f, (A.get x).isSome = true → τ x = some f → f.blk < W.heap.size) (hA' : WRel P σ' A' w') (hnew : ∀ n, n ∈ ns0 → ∀ e, σ' n = some e → W.heap.size ≤ e.blk) :
    ∀ (os : List AO) (k : Nat) (r : Ix) (B : AW), r = nthS k .h → Step P σ A W τ B w' → (∀ (j : Nat) (o : AO), os[j]? = some o → ∃ n, ns0[k + j]? = some n ∧ A'.get n = some (mapO (pickIx ns0 .h bad) o) ∧ ∃ l et g z, o = .cells l et g z) →
      (∀ x, (B.get x).isSome = true → (A.get x).isSome = true ∨ ∃ j n, j < k ∧ ns0[j]? = some n ∧ x = Ix.add A.nx (nthS j .h)) → (∀ j n, j < k → ns0[j]? = some n → (A'.get n).isSome = true) → Step P σ A W τ (putAll A.nx os r B) w'
  | [], k, r, B, _, hB, _, _, _ => hB
  | o :: os, k, r, B, hr, hB, ho, hin, hlive => by
    obtain ⟨n, hn, hget, l, et, g, z, rfl⟩ := ho 0 _ rfl
    rw [Nat.add_zero] at hn
    have hpk : pickIx ns0 .h bad r = n := by rw [hr]; exact pickIx_nth hn
    obtain ⟨e, ob, he, hb, hor⟩ := hA'.obj _ _ hget
    have hτe : τ (Ix.add A.nx r) = some e := by rw [hτ, hpk]; exact he
    have hge := hnew n (List.mem_of_getElem? hn) e he
    have hrel : OR P τ e ob (mapO (Ix.add A.nx) (.cells l et g z)) := mapO_rel (fun x f hx => by rw [hτ]; exact hx) hor
    have hstep := hB.adopt (n := Ix.add A.nx r) (by rw [Ix.toNat_add]; omega) hτe hb hrel hge (fun x f hx hf => by
      rcases hin x hx with hx | ⟨j, m, hj, hm, rfl⟩
      · have := hold x f hx hf; omega
      · rw [hτ, pickIx_nth hm] at hf
        have hmn : m ≠ n := fun q => by
          subst q
          have h1 := (List.getElem?_eq_some_iff.1 hm)
          have h2 := (List.getElem?_eq_some_iff.1 hn)
          obtain ⟨a1, a2⟩ := h1
          obtain ⟨b1, b2⟩ := h2
          have := (List.getElem_inj hnsnd).1 (a2.trans b2.symm)
          omega
        exact hA'.inj m n f e (hlive j m hj hm) (by rw [hget]; rfl) hf he hmn)
    refine adoptAll hnsnd hτ hold hA' hnew os (k + 1) r.succ _ ?_ hstep (fun j u hu => ?_) (fun x hx => ?_) (fun j m hj hm => ?_)
    · have h1 : r.succ.toNat = (nthS (k + 1) .h).toNat := by rw [hr, Ix.toNat_succ, nthS_toNat, nthS_toNat]; omega
      exact Ix.toNat_inj h1
    · obtain ⟨m, hm, h2⟩ := ho (j + 1) u (by simpa using hu)
      exact ⟨m, by rw [← hm]; congr 1; omega, h2⟩
    · by_cases hxe : x = Ix.add A.nx r
      · exact .inr ⟨k, n, by omega, hn, by rw [hxe, hr]⟩
      · rw [put_get_ne _ _ _ hxe] at hx
        rcases hin x hx with hx | ⟨j, m, hj, hm, h3⟩
        · exact .inl hx
        · exact .inr ⟨j, m, by omega, hm, h3⟩
    · by_cases hjk : j = k
      · subst hjk
        rw [hn] at hm; cases hm
        rw [hget]; rfl
      · exact hlive j m (by omega) hm
/-- what a function makes of some texts, proved by the evaluator once -/
theorem ext_memg (hm : P.follows .mixedOrders = true) {F : Tr IFn} (hF : FRel P F) {n f np g : Nat} {res : List RVar} {body : ICode} (hf : F.get (Ix.ofTmp f) = some (.go np res body)) (hg : g < P.globals.size) {l : List AV} {tbl : List (List Nat × AV × List AO)} {nx : Ix} (hnx : ∀ g', g' < P.globals.size → (gIx g').toNat < nx.toNat)
    (hrun : ∀ p, p ∈ tbl → ∀ et, ∃ v0 A' ns, callFn F (ev F n) f [.str p.1] (ro1 (gIx g) l et nx) = some (v0, A') ∧ resOk (gIx g) ns p.2.1 p.2.2 v0 A' = true) : ExtOk P f (.memg (gIx g) l tbl) := by
  intro args vals σ A W v A2 hr hW hG hv
  unfold extRun at hr
  split at hr <;> rename_i hex
  all_goals try (cases hex; done)
  · rename_i gl l0 tbl0 s
    cases hex
    unfold memgRun at hr
    split at hr
    · rename_i l' et hget
      split at hr
      · rename_i hl
        have hl' := u8Eq_eq hl
        subst hl'
        split at hr
        · rename_i tv os hb
          cases hr
          obtain ⟨v0, A', ns, hrun, hres⟩ := hrun _ (bytesFind_mem hb) et
          simp only [resOk, Bool.and_eq_true] at hres
          obtain ⟨⟨⟨hsv, hso⟩, hng⟩, hds⟩ := hres
          have hsv := sameV_eq hsv
          obtain ⟨hlen, hobj⟩ := objsOk_get hso
          have hnd := distinct_nodup hds
          obtain ⟨fn, c, h1, h2, h3, _⟩ := hF.go f np res body hf
          obtain ⟨σ1, hW1, hG1⟩ := ro1_of (nx := nx) hg hnx hW hG hget hl
          have hv1 : VRels σ1 [.str s] vals.toList := by
            obtain ⟨c, rfl, hc⟩ := vrels1 hv
            refine VRels.cons ?_ VRels.nil
            simpa only [VRel] using hc
          refine .inr ⟨f, vals, runF_enter h1 h2 h3 vals W, Calls.mono (calls_of_run hm hF hf hrun hW1 hG1 hv1) ?_⟩
          rintro e w' ⟨cv, σ', rfl, k1, k2⟩
          obtain ⟨eg, heg, _⟩ := hG1 g hg
          have hgl1 : (ro1 (gIx g) l et nx).get (gIx g) = some (.cells l et false true) := by simp [ro1, AW.get, Tr.get_set_same]
          have hkeep : ∀ j, j < W.heap.size → w'.heap[j]? = W.heap[j]? := fun j hj => by
            by_cases hx : ∃ a e, ((ro1 (gIx g) l et nx).get a).isSome = true ∧ σ1 a = some e ∧ e.blk = j
            · obtain ⟨a, e, ha, he, rfl⟩ := hx
              obtain ⟨o, ho⟩ := Option.isSome_iff_exists.1 ha
              obtain ⟨rfl, rfl⟩ := ro1_get ho
              exact (k2.ro _ _ _ _ ho he).2
            · exact k2.pres j hj fun a e ha he hej => hx ⟨a, e, ha, he, hej⟩
          have hnew : ∀ m, m ∈ ns → ∀ e, σ' m = some e → W.heap.size ≤ e.blk := by
            intro m hmem e he
            refine Nat.le_of_not_lt fun hlt => ?_
            obtain ⟨k, hk⟩ := List.getElem?_of_mem hmem
            have hk' : k < os.length := by rw [← hlen]; exact (List.getElem?_eq_some_iff.1 hk).1
            obtain ⟨o, ho⟩ : ∃ o, os[k]? = some o := ⟨os[k], List.getElem?_eq_getElem hk'⟩
            have hgm := (hobj k m o hk ho).1
            obtain ⟨a0, e0, ha0, he0, hbe⟩ := k2.img m e (by rw [hgm]; rfl) he hlt
            obtain ⟨u, hu⟩ := Option.isSome_iff_exists.1 ha0
            obtain ⟨rfl, rfl⟩ := ro1_get hu
            have hro := (k2.ro _ _ _ _ hu he0).1
            exact k2.rel.inj (gIx g) m e0 e (by rw [hro]; rfl) (by rw [hgm]; rfl) (k2.le _ _ he0) he (notIn_ne hng hmem) hbe
          let τ : Sg := fun x => open Classical in if h : ∃ r, x = Ix.add A.nx r then σ' (pickIx ns .h A'.nx h.choose) else σ x
          have hτ : ∀ r, τ (Ix.add A.nx r) = σ' (pickIx ns .h A'.nx r) := by
            intro r
            have hex : ∃ r', Ix.add A.nx r = Ix.add A.nx r' := ⟨r, rfl⟩
            have : τ (Ix.add A.nx r) = σ' (pickIx ns .h A'.nx hex.choose) := dif_pos hex
            rw [this, ← Ix.add_inj hex.choose_spec]
          have hle : σ.le τ := by
            intro a e ha
            have hlt := hW.fresh a e ha
            have : ¬ ∃ r, a = Ix.add A.nx r := by
              rintro ⟨r, rfl⟩
              rw [Ix.toNat_add] at hlt; omega
            have h0 : τ a = σ a := dif_neg this
            rw [h0]; exact ha
          have hbad : σ' A'.nx = none := k2.rel.none_nx
          have hfr : ∀ a e, τ a = some e → a.toNat < (Ix.add A.nx (cntIx os)).toNat := by
            intro a e ha
            rw [Ix.toNat_add, cntIx_toNat]
            by_cases hx : ∃ r, a = Ix.add A.nx r
            · obtain ⟨r, rfl⟩ := hx
              rw [hτ] at ha
              obtain ⟨k, hk, rfl⟩ := pickIx_bad (ns := ns) (cur := .h) (bad := A'.nx) (r := r) (fun q => by rw [q, hbad] at ha; cases ha)
              rw [Ix.toNat_add, nthS_toNat]
              have : Ix.h.toNat = 1 := rfl
              omega
            · have h0 : τ a = σ a := dif_neg hx
              rw [h0] at ha
              have := hW.fresh a e ha
              omega
          have hdom : ∀ a e, τ a = some e → σ a = some e ∨ A.nx.toNat ≤ a.toNat := by
            intro a e ha
            by_cases hx : ∃ r, a = Ix.add A.nx r
            · obtain ⟨r, rfl⟩ := hx
              right; rw [Ix.toNat_add]; omega
            · have h0 : τ a = σ a := dif_neg hx
              rw [h0] at ha; exact .inl ha
          have hnm := Step.names (σ' := τ) (nx' := Ix.add A.nx (cntIx os)) hW k2.size hkeep k2.io hle (by rw [Ix.toNat_add]; omega) hfr hdom
          have hold : ∀ x f, (A.get x).isSome = true → τ x = some f → f.blk < W.heap.size := by
            intro x f hx hf
            obtain ⟨o, ho⟩ := Option.isSome_iff_exists.1 hx
            obtain ⟨e', ob, h1, h2, _⟩ := hW.obj x o ho
            have := hle _ _ h1; rw [hf] at this; cases this
            exact (Array.getElem?_eq_some_iff.1 h2).1
          have hall := adoptAll (ns0 := ns) (bad := A'.nx) hnd hτ hold k2.rel hnew os 0 .h _ rfl hnm (fun j o ho => by
              have hj : j < ns.length := by rw [hlen]; exact (List.getElem?_eq_some_iff.1 ho).1
              obtain ⟨m, hm⟩ : ∃ m, ns[j]? = some m := ⟨ns[j], List.getElem?_eq_getElem hj⟩
              obtain ⟨q1, q2⟩ := hobj j m o hm ho
              exact ⟨m, by rw [Nat.zero_add]; exact hm, q1, q2⟩) (fun x hx => .inl hx) (fun j m hj => by omega)
          refine ⟨cv, τ, rfl, ?_, ?_⟩
          · rw [← hsv] at k1
            exact mapV_rel (fun x e hx => by rw [hτ]; exact hx) _ _ k1
          · have heq : ({ putAll A.nx os .h A with nx := Ix.add A.nx (cntIx os) } : AW) = putAll A.nx os .h { A with nx := Ix.add A.nx (cntIx os) } := by
              have gen : ∀ (os : List AO) (r : Ix) (B : AW) (m : Ix), ({ putAll A.nx os r B with nx := m } : AW) = putAll A.nx os r { B with nx := m } := by
                intro os
                induction os with
                | nil => intros; rfl
                | cons o os ih => intro r B m; exact ih r.succ _ m
              exact gen ..
            rw [heq]
            exact hall
        · cases hr
      · cases hr
    · cases hr
  · cases hr
end Go.AE
