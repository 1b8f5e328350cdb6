import Derived.Test.YtgnebdiembekpaaGreatDoorA18
import Derived.Shelf.SlIter.Sorted
import Derived.Sort.KeysCollected
import Derived.Sort.Walk0
/- Part of the proof: the abstract evaluator, its soundness, its runs: AeExt2 -/
set_option linter.unusedSectionVars false
set_option linter.unusedSimpArgs false
set_option linter.unusedVariables false
set_option linter.unnecessarySimpa false
namespace Go.AE
open Go.Proofs (encStr)
open Go.WideElems (Fit rd rg)
open Go.RowKit (Below)
variable {P : Program} {σ : Sg} {A A' : AW} {W W' : World} {args : List AV} {vals : Array Value} {v : AV} {f : Nat}
/-! ### the sorted keys -/
def insU (x : List UInt8) : List (List UInt8) → List (List UInt8)
  | [] => [x]
  | y :: l => if Op.bytesLess y x then y :: insU x l else x :: y :: l
def sortU : List (List UInt8) → List (List UInt8)
  | [] => []
  | x :: l => insU x (sortU l)
theorem insU_map (x : List UInt8) : ∀ l, (insU x l).map (List.map UInt8.toNat) = insS (x.map UInt8.toNat) (l.map (List.map UInt8.toNat))
  | [] => rfl
  | y :: l => by
    simp only [insU, List.map_cons, insS, bytesLt_of]
    split
    · rw [List.map_cons, insU_map x l]
    · rfl
theorem sortU_map : ∀ l, (sortU l).map (List.map UInt8.toNat) = sortS (l.map (List.map UInt8.toNat))
  | [] => rfl
  | x :: l => by simp only [sortU, List.map_cons, sortS]; rw [insU_map, sortU_map l]
theorem insU_perm (x : List UInt8) : ∀ l, (insU x l).Perm (x :: l)
  | [] => .refl _
  | y :: l => by
    simp only [insU]
    split
    · exact ((insU_perm x l).cons y).trans (.swap x y l)
    · exact .refl _
theorem sortU_perm : ∀ l, (sortU l).Perm l
  | [] => .refl _
  | x :: l => (insU_perm x (sortU l)).trans ((sortU_perm l).cons x)
theorem upS_pairwise : ∀ (l : List (List UInt8)), upS (l.map (List.map UInt8.toNat)) = true → l.Pairwise fun a b => a < b
  | [], _ => .nil
  | [x], _ => by simp
  | x :: y :: l, h => by
    simp only [List.map_cons, upS, Bool.and_eq_true, bytesLt_of, Go.Proofs.bytesLess_eq, decide_eq_true_eq] at h
    have ih := upS_pairwise (y :: l) h.2
    rw [List.pairwise_cons]
    refine ⟨fun z hz => ?_, ih⟩
    rcases List.mem_cons.1 hz with rfl | hz
    · exact h.1
    · exact List.lt_trans h.1 ((List.pairwise_cons.1 ih).1 z hz)
/-- keys that are texts -/
theorem strKeys_spec {es : List (AV × AV × Nat)} {ces : List MapEntry} (hr : ESRel σ es ces) : ∀ {l : List (List Nat)}, strKeys es = some l → ∃ ks : List (List UInt8), l = ks.map (List.map UInt8.toNat) ∧ ces.map (·.key) = ks.map encStr := by
  induction es generalizing ces with
  | nil =>
    intro l h
    simp only [ESRel] at hr
    subst hr
    simp only [strKeys, Option.some.injEq] at h
    subst h
    exact ⟨[], rfl, rfl⟩
  | cons x es ih =>
    intro l h
    obtain ⟨k, v, b⟩ := x
    obtain ⟨c, rest, rfl, h1, h2, h3, h4⟩ := hr
    cases k <;> simp only [strKeys] at h <;> try (cases h; done)
    rename_i s
    split at h
    · rename_i r hr'
      simp only [Option.some.injEq] at h
      subst h
      obtain ⟨ks, rfl, hk2⟩ := ih h4 hr'
      simp only [VRel] at h1
      obtain ⟨t, ht, hts⟩ := h1
      refine ⟨t.data.toList :: ks, by simp [hts], ?_⟩
      simp only [List.map_cons, hk2, ht, encStr]
    · cases h
theorem ESRel.borns {es : List (AV × AV × Nat)} : ∀ {ces : List MapEntry}, ESRel σ es ces → ces.map (·.born) = es.map (·.2.2) := by
  induction es with
  | nil => intro ces h; simp only [ESRel] at h; subst h; rfl
  | cons x es ih =>
    intro ces h
    obtain ⟨k, v, b⟩ := x
    obtain ⟨c, rest, rfl, _, _, h3, h4⟩ := h
    simp [ih h4, h3]
theorem bornsOk_nodup : ∀ {es : List (AV × AV × Nat)}, bornsOk es = true → (es.map (·.2.2)).Nodup
  | [], _ => by simp
  | (_, _, b) :: es, h => by
    simp only [bornsOk] at h
    split at h
    · rename_i hall
      simp only [List.map_cons, List.nodup_cons]
      refine ⟨fun hm => ?_, bornsOk_nodup h⟩
      obtain ⟨x, hx, he⟩ := List.mem_map.1 hm
      have := List.all_eq_true.1 hall x hx
      rw [he, Nat.beq_refl] at this
      cases this
    · cases h
/-- slices.Sorted(maps.Keys(m)), as the shelf's contract says it -/
def SortedS (P : Program) (f g : Nat) (kt et : TypeId) : Prop :=
  ∀ (Bm b nn : Nat) (D0 : DataW Unit) (R : Value → Option (DataW Unit × List MemPlace)) (w : World), Bm < w.heap.size → w.cell? ⟨Bm, 0, none⟩ = some (.map (some b)) → w.ownsMap P kt R b nn D0 → Maps.size D0 ≤ maxLen → Maps.size D0 * 16 ≤ 140737488355328 →
    Calls P f #[.func (.func g) #[] #[.pointer (some ⟨Bm, 0, none⟩)]] w fun e w' => ∃ (v : Value) (ss : List (List UInt8)), e = .returned v ∧ ss.Perm (Go.strKeys D0) ∧
      w'.ownsRow w.heap.size et 1 v ss.length ((ss.mergeSort (fun x y => decide (x ≤ y))).map encStr) ∧ (v = .slice none 0 0 ↔ ss = []) ∧ Below w.heap.size w w'
theorem shortS_le : ∀ {l : List (List Nat)}, shortS l = true → ∀ x, x ∈ l → x.length ≤ 1000000
  | [], _, x, hx => by cases hx
  | y :: l, h, x, hx => by
    simp only [shortS, Bool.and_eq_true] at h
    rcases List.mem_cons.1 hx with rfl | hx
    · exact Nat.le_of_ble_eq_true h.1
    · exact shortS_le h.2 x hx
theorem encStr_rels : ∀ (l : List (List UInt8)), VRels σ ((l.map (List.map UInt8.toNat)).map AV.str) (l.map encStr)
  | [] => by simp [VRels]
  | x :: l => by
    simp only [List.map_cons]
    refine VRels.cons ?_ (encStr_rels l)
    simp only [VRel, encStr]
    exact ⟨_, rfl, by simp⟩
def RR : Value → Option (DataW Unit × List MemPlace) := fun _ => some (.lit (.bool true), [])
theorem sortedKeys_str {es : List (AV × AV × Nat)} {ces : Array MapEntry} {clock : Nat} {kt : TypeId} {lv : List AV} (hr : ESRel σ es ces.toList) (hb : bornsOk es = true) (hclk : ∀ x, x ∈ es → x.2.2 < clock) (hk : P.underlying kt = some .string) (h : sortedKeys false es = some lv) :
    ∃ us : List (List UInt8), lv = (us.map (List.map UInt8.toNat)).map AV.str ∧ us.Pairwise (fun a b => a < b) ∧ Fit P kt RR ces clock ∧ us.Perm (Go.strKeys (DataW.map ((ces.toList.map (rg P kt RR)).foldr DataW.insert []))) ∧ ces.size ≤ 1000000 := by
  simp only [sortedKeys, Bool.false_eq_true, if_false] at h
  split at h
  · rename_i hlen
    split at h
    · rename_i l hl
      split at h
      · rename_i hup
        cases h
        rw [Bool.and_eq_true] at hup
        obtain ⟨ks, rfl, hkeys⟩ := strKeys_spec hr hl
        have hlen' : ces.size ≤ 1000000 := by
          have h0 := hr.length
          have h1 : ces.toList.length = ces.size := Array.length_toList
          have := Nat.le_of_ble_eq_true hlen
          omega
        have hpw := upS_pairwise (sortU ks) (by rw [sortU_map]; exact hup.1)
        have hnd : ks.Nodup := (sortU_perm ks).nodup_iff.1 (hpw.imp fun h e => by subst e; exact List.lt_irrefl _ h)
        have hshort := shortS_le hup.2
        have hread : ∀ x, x ∈ ces.toList → ∃ b : List UInt8, b ∈ ks ∧ x.key = encStr b ∧ keyOf P kt x.key = some (.string b) := by
          intro x hx
          have : x.key ∈ ks.map encStr := by rw [← hkeys]; exact List.mem_map.2 ⟨x, hx, rfl⟩
          obtain ⟨b, hb, he⟩ := List.mem_map.1 this
          refine ⟨b, hb, he.symm, ?_⟩
          rw [← he]
          have hsz := hshort _ (List.mem_map.2 ⟨b, hb, rfl⟩)
          rw [List.length_map] at hsz
          have : (ByteArray.mk b.toArray).size ≤ maxLen := by
            show b.toArray.size ≤ _
            rw [List.size_toArray]; unfold maxLen; omega
          simp [keyOf, hk, mapKey, encStr, this]
        have hrg : ∀ x, x ∈ ces.toList → ∃ b : List UInt8, x.key = encStr b ∧ rd P kt RR x = some (.string b, .lit (.bool true)) := by
          intro x hx
          obtain ⟨b, _, h1, h2⟩ := hread x hx
          exact ⟨b, h1, by simp [rd, h2, RR]⟩
        have hfit : Fit P kt RR ces clock := by
          refine ⟨by unfold maxLen; omega, ⟨fun x hx => ?_, ?_, ?_⟩, fun x hx => ?_⟩
          · have : x.born ∈ es.map (·.2.2) := by rw [← hr.borns]; exact List.mem_map.2 ⟨x, hx, rfl⟩
            obtain ⟨y, hy, he⟩ := List.mem_map.1 this
            rw [← he]; exact hclk y hy
          · rw [hr.borns]; exact bornsOk_nodup hb
          · rw [hkeys]
            exact List.Pairwise.map encStr (fun a b hne e => hne (encStr_inj e)) hnd
          · obtain ⟨b, _, h2⟩ := hrg x hx
            exact ⟨_, h2⟩
        refine ⟨sortU ks, by rw [sortU_map], hpw, hfit, ?_, hlen'⟩
        refine (sortU_perm ks).trans ?_
        have h1 : (Go.strKeys (DataW.map ((ces.toList.map (rg P kt RR)).foldr DataW.insert []))).Perm ((ces.toList.map (rg P kt RR)).map fun p => strOf p.1) := (WideShapes.sorted_perm _).map _
        have h2 : (ces.toList.map (rg P kt RR)).map (fun p => strOf p.1) = ks := by
          have h3 : ((ces.toList.map (rg P kt RR)).map (fun p => strOf p.1)).map encStr = ks.map encStr := by
            rw [← hkeys, List.map_map, List.map_map]
            refine List.map_congr_left fun x hx => ?_
            obtain ⟨b, h4, h5⟩ := hrg x hx
            simp only [Function.comp, WideElems.rg_of h5, strOf, h4]
          exact (List.map_inj_right (fun a b hab => encStr_inj hab)).1 h3
        rw [h2] at h1
        exact h1.symm
      · cases h
    · cases h
  · cases h
theorem ext_sortedS {et : TypeId} {kt : Nat → TypeId} {ks : List Nat} (hen : ∀ args w, (callFunc f args).run P w = .ok (.enter f args) w) (hkt : ∀ g, g ∈ ks → P.underlying (kt g) = some .string) (hs : ∀ g, g ∈ ks → SortedS P f g (kt g) et) : ExtOk P f (.sorted false et ks) := by
  intro args vals σ A W v A' hr hW hG hv
  unfold extRun at hr
  split at hr <;> rename_i hex
  all_goals try (cases hex; done)
  · rename_i i et' ks' g c
    cases hex
    split at hr
    · rename_i hg
      have hg : g ∈ ks := by simpa using hg
      split at hr
      · rename_i m l ety frz hc
        split at hr
        · rename_i es clock hm
          split at hr
          · rename_i hborn
            -- what the arguments are
            obtain ⟨x, rfl, h1⟩ := vrels1 hv
            simp only [VRel] at h1
            obtain ⟨cs, ds, rfl, hcs, hds⟩ := h1
            have hcs' : cs = #[] := by
              simp only [VRels] at hcs
              exact Array.toList_eq_nil_iff.1 hcs
            subst hcs'
            obtain ⟨p, rfl, hp⟩ := vrels1 hds
            simp only [VRel] at hp
            obtain ⟨e, he, rfl⟩ := hp
            obtain ⟨cv, hcell, hcv⟩ := cell_of hW hc he (o := 0) (x := .map m) rfl
            simp only [VRel] at hcv
            obtain ⟨em, hem, rfl⟩ := hcv
            obtain ⟨e', ob, he', hb, cc, fz, rfl, _, _, hsh, _⟩ := hW.obj c _ hc
            rw [he] at he'; cases he'
            have hsh0 := (hsh rfl).1
            obtain ⟨e', ob, he', hbm, ces, rfl, hes, hclk⟩ := hW.obj m _ hm
            rw [hem] at he'; cases he'
            have key : ∀ lv, sortedKeys false es = some lv → ∃ us : List (List UInt8), lv = (us.map (List.map UInt8.toNat)).map AV.str ∧
                Calls P f #[.func (.func g) #[] #[.pointer (some ⟨e.blk, e.sh + 0, none⟩)]] W fun e w' => ∃ v, e = .returned v ∧ w'.ownsRow W.heap.size et 1 v us.length (us.map encStr) ∧ (v = .slice none 0 0 ↔ us = []) ∧ Below W.heap.size W w' := by
              intro lv hlv
              obtain ⟨us, h1, h2, h3, h4, h5⟩ := sortedKeys_str hes hborn hclk (hkt g hg) hlv
              refine ⟨us, h1, ?_⟩
              have hown : W.ownsMap P (kt g) RR em.blk ces.size (DataW.map ((ces.toList.map (rg P (kt g) RR)).foldr DataW.insert [])) := ⟨ces, clock, hbm, h3, Nat.le_refl _, rfl⟩
              have hsz := hown.size_le
              rw [hsh0, Nat.zero_add] at hcell ⊢
              refine Calls.mono (hs g hg e.blk em.blk ces.size _ RR W (Array.getElem?_eq_some_iff.1 hb).1 hcell hown (by unfold maxLen; omega) (by omega)) ?_
              rintro e w' ⟨v, ss, rfl, k1, k2, k3, k4⟩
              have hperm : ss.Perm us := k1.trans h4.symm
              have hms : ss.mergeSort (fun x y => decide (x ≤ y)) = us := by
                rw [mergeSort_of_perm hperm]
                exact List.mergeSort_of_pairwise (h2.imp fun h => by simpa using List.le_of_lt h)
              rw [hms, hperm.length_eq] at k2
              refine ⟨v, rfl, k2, ?_, k4⟩
              rw [k3]
              constructor
              · intro h; subst h; exact List.nil_perm.1 hperm
              · intro h; subst h; exact List.perm_nil.1 hperm
            have fin : ∀ (us : List (List UInt8)) (v : AV) (A' : AW), (us = [] → v = .nilslice ∧ A' = A) → (us ≠ [] → v = .slice A.nx 0 us.length (.g 1) ∧ A' = A.new (.cells ((us.map (List.map UInt8.toNat)).map AV.str) et true false)) →
                Calls P f #[.func (.func g) #[] #[.pointer (some ⟨e.blk, e.sh + 0, none⟩)]] W (fun e w' => ∃ v, e = .returned v ∧ w'.ownsRow W.heap.size et 1 v us.length (us.map encStr) ∧ (v = .slice none 0 0 ↔ us = []) ∧ Below W.heap.size W w') →
                NRes P σ A W ((callFunc f #[.func (.func g) #[] #[.pointer (some ⟨e.blk, e.sh + 0, none⟩)]]).run P W) v A' := by
              intro us v A' hnil hcons hcall
              refine .inr ⟨f, _, hen _ _, Calls.mono hcall ?_⟩
              rintro en w' ⟨cv, rfl, hrow, hn, hbel⟩
              by_cases hus : us = []
              · obtain ⟨rfl, rfl⟩ := hnil hus
                refine ⟨cv, σ, rfl, ?_, Step.kept hW hbel.size hbel.block ⟨hbel.os, hbel.output⟩⟩
                simp only [VRel]
                exact hn.2 hus
              · obtain ⟨rfl, rfl⟩ := hcons hus
                rcases hrow.2 with ⟨h1, _⟩ | ⟨gb, cap, cur, rfl, hge, hgb, q1, q2, q3, q4⟩
                · exact absurd (hn.1 h1) hus
                · refine ⟨_, σ.set A.nx ⟨gb, 0, cap⟩, rfl, ?_, Step.newAt hW _ (.cells cur et (0, 0)) gb 0 cap hge hgb hbel.block ⟨hbel.os, hbel.output⟩ fun τ hτ => ?_⟩
                  · simp only [VRel]
                    exact ⟨_, cap, Sg.set_same _ _ _, rfl, q1, by simp, by omega⟩
                  · refine ⟨cur, (0, 0), rfl, ?_, ?_, by simp, ?_, by simp⟩
                    · simp; omega
                    · have hl : ((us.map (List.map UInt8.toNat)).map AV.str).length = us.length * 1 := by simp
                      rw [hl, List.drop_zero, q4]
                      exact encStr_rels us
                    · intro _; simp; omega
            split at hr
            · rename_i hlv
              cases hr
              obtain ⟨us, h1, h2⟩ := key _ hlv
              have hus : us = [] := by
                cases us with
                | nil => rfl
                | cons => simp at h1
              exact fin us _ _ (fun _ => ⟨rfl, rfl⟩) (fun h => absurd hus h) h2
            · rename_i lv hne hlv
              cases hr
              obtain ⟨us, h1, h2⟩ := key _ hlv
              subst h1
              refine fin us _ _ (fun h => ?_) (fun _ => ⟨by simp, rfl⟩) h2
              subst h; simp at hne
            · cases hr
          · cases hr
        · cases hr
      · cases hr
    · cases hr
  · cases hr
end Go.AE
