import Derived.Test.YtgnebdiembekpaaGreatDoorA25
import Derived.Test.YtgnebdiembekpaaGreatDoorA6
import Derived.Test.YtgnebdiembekpaaGreatDoorA18
import Derived.Test.YtgnebdiembekpaaGreatDoorProg
import Derived.KernelRfl
import Derived.WalkKit
import Derived.IntWalk
/- Part of the proof: the abstract evaluator, its soundness, its runs: AeP3 -/
set_option linter.unusedSectionVars false
set_option linter.unusedSimpArgs false
set_option linter.unusedVariables false
set_option linter.unnecessarySimpa false
namespace Go.AE
open Go.Proofs Go.RowKit
theorem place_pos (n d : Int) (h0 : 0 < d) (h1 : d ≤ 1000001) (hn : 0 ≤ n.tmod d) (w : World) : Calls Tryz.prog 7 #[.int .i64 n, .int .i64 d] w fun e w' => e = .returned (.int .i64 (n.tmod d)) ∧ w' = w := by
  go_enter Tryz.func7, Tryz.ntmps7
  go_wp2
  go_ret
  exact ⟨rfl, rfl⟩
theorem place_neg (n d : Int) (h0 : 0 < d) (h1 : d ≤ 1000001) (hn : n.tmod d < 0) (h2 : -d < n.tmod d) (w : World) : Calls Tryz.prog 7 #[.int .i64 n, .int .i64 d] w fun e w' => e = .returned (.int .i64 (n.tmod d + d)) ∧ w' = w := by
  have hw : IntKind.i64.wrap (n.tmod d + d) = n.tmod d + d := IntWalk.i64_in _ (by omega)
  go_enter Tryz.func7, Tryz.ntmps7
  go_wp2
  go_ret
  exact ⟨by simp, rfl⟩
theorem ext_place : ExtOk Tryz.prog 7 .place := by
  intro args vals σ A W v A' hr hW hG hv
  have call : ∀ (n : Int) (d : Nat), d ≤ 1000000 → Calls Tryz.prog 7 #[.int .i64 n, .int .i64 (.ofNat (d + 1))] W fun e w' => e = .returned (.int .i64 (n % (.ofNat (d + 1)))) ∧ w' = W := by
    intro n d hd
    have hd0 : (0 : Int) < Int.ofNat (d + 1) := by show (0 : Int) < ((d + 1 : Nat) : Int); omega
    have hd1 : Int.ofNat (d + 1) ≤ 1000001 := by show ((d + 1 : Nat) : Int) ≤ 1000001; omega
    have hlt := Int.tmod_lt_of_pos n hd0
    have e1 := Int.emod_nonneg n (by omega : Int.ofNat (d + 1) ≠ 0)
    have e2 := Int.emod_lt_of_pos n hd0
    have e3 : n % Int.ofNat (d + 1) = if 0 ≤ n ∨ Int.ofNat (d+1) ∣ n then n.tmod (Int.ofNat (d + 1)) else n.tmod (Int.ofNat (d + 1)) + (Int.ofNat (d + 1)).natAbs := by
      have := Int.tmod_eq_emod (a := n) (b := Int.ofNat (d + 1))
      split <;> rename_i h
      · rw [if_pos h] at this; omega
      · rw [if_neg h] at this; omega
    have e4 : ((Int.ofNat (d + 1)).natAbs : Int) = Int.ofNat (d + 1) := rfl
    by_cases hn : 0 ≤ n.tmod (Int.ofNat (d + 1))
    · refine (place_pos n _ hd0 hd1 hn W).mono ?_
      rintro e w' ⟨rfl, rfl⟩
      refine ⟨?_, rfl⟩
      have : n % Int.ofNat (d + 1) = n.tmod (Int.ofNat (d + 1)) := by
        rw [e3] at e2 ⊢
        split
        · rfl
        · rename_i h; rw [if_neg h] at e2; omega
      rw [this]
    · have hneg : -Int.ofNat (d + 1) < n.tmod (Int.ofNat (d + 1)) := by
        rw [e3] at e1
        split at e1 <;> omega
      refine (place_neg n _ hd0 hd1 (by omega) hneg W).mono ?_
      rintro e w' ⟨rfl, rfl⟩
      refine ⟨?_, rfl⟩
      have : n % Int.ofNat (d + 1) = n.tmod (Int.ofNat (d + 1)) + Int.ofNat (d + 1) := by
        rw [e3] at e1 ⊢
        split
        · rename_i h; rw [if_pos h] at e1; omega
        · omega
      rw [this]
  have hen : ∀ args w, (callFunc 7 args).run Tryz.prog w = .ok (.enter 7 args) w := enters_of Tryz.func7 (by kernel_rfl) rfl
  match args, hr with
  | [.cls m k, .int .i64 (.ofNat (d + 1))], hr =>
    simp only [extRun] at hr
    split at hr
    · rename_i hm
      split at hr
      · rename_i hd
        cases hr
        obtain ⟨a, b, rfl, h1, h2⟩ := vrels2 hv
        simp only [VRel] at h1 h2
        obtain ⟨n, rfl, hn⟩ := h1
        subst h2
        refine .inr ⟨7, _, hen _ _, (call n d (Nat.le_of_ble_eq_true hd)).mono ?_⟩
        rintro e w' ⟨rfl, rfl⟩
        refine ⟨_, σ, rfl, ?_, .refl hW⟩
        simp only [VRel]
        have hm := Nat.eq_of_beq_eq_true hm
        have hdvd : ((d + 1 : Nat) : Int) ∣ (m : Int) := Int.natCast_dvd_natCast.2 (Nat.dvd_of_mod_eq_zero hm)
        have := Int.emod_emod_of_dvd n hdvd
        rw [hn] at this
        show Value.int .i64 (n % ((d + 1 : Nat) : Int)) = Value.int .i64 ((k % (d + 1) : Nat) : Int)
        rw [← this]; simp
      · cases hr
    · cases hr
  | [.int .i64 z, .int .i64 (.ofNat (d + 1))], hr =>
    simp only [extRun] at hr
    split at hr
    · rename_i hd
      cases hr
      obtain ⟨a, b, rfl, h1, h2⟩ := vrels2 hv
      simp only [VRel] at h1 h2
      subst h1 h2
      refine .inr ⟨7, _, hen _ _, (call z d (Nat.le_of_ble_eq_true hd)).mono ?_⟩
      rintro e w' ⟨rfl, rfl⟩
      exact ⟨_, σ, rfl, by simp only [VRel], .refl hW⟩
    · cases hr
theorem is540 : ExtIs Tryz.prog 540 Extern.AbiNoEscape.same := ⟨⟨Tryz.f540, Tryz.func540, by kernel_rfl, by kernel_rfl, by kernel_rfl, by kernel_rfl⟩⟩
theorem is591 : ExtIs Tryz.prog 591 (Extern.BytealgMakeNoZero.makeNoZero #[3] #[325]) := ⟨⟨Tryz.f591, Tryz.func591, by kernel_rfl, by kernel_rfl, by kernel_rfl, by kernel_rfl⟩⟩
theorem is609 : ExtIs Tryz.prog 609 Extern.BytealgCount.count := ⟨⟨Tryz.f609, Tryz.func609, by kernel_rfl, by kernel_rfl, by kernel_rfl, by kernel_rfl⟩⟩
theorem ok53 : ExtOk Tryz.prog 53 (.sorted false 9 [94,136,228,457]) := ext_sortedS (kt := fun _ => 9) (enters_of Tryz.func53 (by kernel_rfl) rfl) (fun _ _ => Tryz.underlying9) fun g hg => by
  simp only [List.mem_cons, List.not_mem_nil, or_false] at hg
  rcases hg with rfl | rfl | rfl | rfl
  · exact sortedS_94
  · exact sortedS_136
  · exact sortedS_228
  · exact sortedS_457
theorem ok207 : ExtOk Tryz.prog 207 (.sorted true 3 [343,357,454]) := ext_sortedI (kt := fun _ => 3) (enters_of Tryz.func207 (by kernel_rfl) rfl) (fun _ _ => Tryz.underlying3) fun g hg => by
  simp only [List.mem_cons, List.not_mem_nil, or_false] at hg
  rcases hg with rfl | rfl | rfl
  · exact sortedI_343
  · exact sortedI_357
  · exact sortedI_454
theorem extsOk : ∀ p, p ∈ Tb.exts → FnOk Tryz.prog p.1 p.2 := by
  intro p hp
  simp only [Tb.exts, List.mem_cons, List.not_mem_nil, or_false] at hp
  rcases hp with rfl | rfl | rfl | rfl | rfl | rfl
  · exact ext_place
  · exact ok53
  · exact ok207
  · exact ext_noesc is540
  · exact ext_mknz Tryz.underlying325 is591
  · exact ext_cnt is609
end Go.AE
