import Derived.Test.YtgnebdiembekpaaGreatDoorC6
import Derived.ProofKit
import Derived.OpenShut
import Derived.LaidMore
import Derived.LaidSub
import Derived.Lay
import Derived.Stop.Joined
/- Part of the proof: the abstract evaluator, its soundness, its runs: AeP6 -/
set_option linter.unusedSectionVars false
set_option linter.unusedSimpArgs false
set_option linter.unusedVariables false
set_option linter.unnecessarySimpa false
namespace Go.AE
open Go.Proofs Go.ChangeShapes Go.WideShapes Go.ChangeAt Go.RowKit
def spaceD : DataW Unit := .agg (spaceCodes.map fun n => .lit (.int .u8 n))
theorem space_of_laid {W : World} (h : laidMetH Tryz.prog [("strings.asciiSpace", spaceD)] W) : SpaceIn W := by
  rw [MakeChecks.laidMetH_plain _ _ _ (by kernel_rfl)] at h
  obtain ⟨ps, ⟨g, t, cs, fuel, p, q, hg, ht, hv, hd, _, _⟩, _, _⟩ := h
  obtain rfl := Option.some.inj ((show Tryz.prog.globalNamed "strings.asciiSpace" = some 6 by kernel_rfl).symm.trans hg)
  obtain rfl := Option.some.inj ((show (Tryz.prog.globals[6]?).map (·.type) = some 660 by kernel_rfl).symm.trans ht)
  obtain ⟨xs, m, _, ex, hcl, hl, hel⟩ := DataW.trod_array Tryz.underlying660 hd
  have c5 : Tryz.prog.cellsOf 5 = 1 := by kernel_rfl
  have c660 : Tryz.prog.cellsOf 660 = 256 := by kernel_rfl
  have e3 : (xs.map (·.1)) = spaceCodes.map fun n => (.lit (.int .u8 n) : DataW Unit) := (DataW.agg.inj (Prod.mk.inj ex).1).symm
  have hlen : spaceCodes.length = 256 := by simp [spaceCodes]
  have cell : ∀ r, r < 256 → cs[r]? = (spaceCodes[r]?).map (Value.int .u8) := by
    intro r hr
    have hE := hel r hr
    rw [c5, Nat.mul_one, List.getElem?_eq_getElem (by omega)] at hE
    obtain ⟨z, e1, e2, _⟩ := DataW.trod_int Tryz.underlying5 hE
    have e4 : (xs.map (·.1))[r]? = (spaceCodes.map fun n => (DataW.lit (.int .u8 n) : DataW Unit))[r]? := by rw [e3]
    rw [List.getElem?_map, List.getElem?_map, List.getElem?_eq_getElem (by omega : r < xs.length), List.getElem?_eq_getElem (by omega : r < spaceCodes.length), e2] at e4
    have hz : z = spaceCodes[r]'(by omega) := by
      simpa only [Option.map_some, Option.some.injEq, DataW.lit.injEq, Lit.int.injEq, true_and] using e4
    have h0 : ((cs.toList.drop r).take 1)[0]? = some (.int .u8 z) := by rw [e1]; rfl
    have : cs.toList[r]? = some (.int .u8 z) := by simpa using h0
    rw [List.getElem?_eq_getElem (by omega : r < spaceCodes.length), ← hz]
    simpa using this
  have hblk : ∃ et fz, W.heap[6]? = some (.cells cs et fz) := by
    unfold World.var? at hv
    rw [hg, Option.bind_some] at hv
    split at hv
    · rename_i c et fz hh
      cases hv; exact ⟨et, fz, hh⟩
    · cases hv
  obtain ⟨et, fz, hh⟩ := hblk
  refine ⟨cs, et, fz, hh, List.ext_getElem? fun r => ?_⟩
  rw [List.getElem?_map]
  by_cases hr : r < 256
  · have := cell r hr
    rw [← this]; simp
  · rw [List.getElem?_eq_none (by rw [hcl, c660]; omega), List.getElem?_eq_none (by omega)]; rfl
end Go.AE
