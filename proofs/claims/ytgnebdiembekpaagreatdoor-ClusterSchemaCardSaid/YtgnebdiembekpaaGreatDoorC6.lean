import Derived.Test.YtgnebdiembekpaaGreatDoorA24
import Derived.Test.YtgnebdiembekpaaGreatDoorA26
import Derived.Test.YtgnebdiembekpaaGreatDoorA7
import Derived.Test.YtgnebdiembekpaaGreatDoorA8
import Derived.Test.YtgnebdiembekpaaGreatDoorA20
import Derived.Test.YtgnebdiembekpaaGreatDoorC1
import Derived.Test.YtgnebdiembekpaaGreatDoorC2
import Derived.Test.YtgnebdiembekpaaGreatDoorC3
import Derived.Test.YtgnebdiembekpaaGreatDoorC4
import Derived.Test.YtgnebdiembekpaaGreatDoorC5
/- Part of the proof: the abstract evaluator, its soundness, its runs: AeP4, AeP5, AeP5c -/
set_option linter.unusedSectionVars false
set_option linter.unusedSimpArgs false
set_option linter.unusedVariables false
set_option linter.unnecessarySimpa false
namespace Go.AE
open Go.Proofs
variable {P : Program}
theorem allOk_of : ∀ {l : List (Nat × IFn)}, (∀ p, p ∈ l → FnOk P p.1 p.2) → AllOk P l
  | [], _ => trivial
  | p :: l, h => ⟨h p (List.mem_cons_self ..), allOk_of fun q hq => h q (List.mem_cons_of_mem _ hq)⟩
theorem allOk_app : ∀ {l m : List (Nat × IFn)}, AllOk P l → AllOk P m → AllOk P (l ++ m)
  | [], _, _, h => h
  | _ :: _, _, h, h' => ⟨h.1, allOk_app h.2 h'⟩
theorem mixed : Tryz.prog.follows .mixedOrders = true := by kernel_rfl
theorem x6_g : gIx 6 = Tb.x6 := by kernel_rfl
theorem x11_n : Tb.x11.toNat = 12 := by kernel_rfl
theorem nglob : Tryz.prog.globals.size = 11 := by kernel_rfl
theorem nx_g : ∀ g', g' < Tryz.prog.globals.size → (gIx g').toNat < Tb.x11.toNat := by
  intro g' h
  rw [nglob] at h
  rw [x11_n, gIx, Ix.toNat_ofTmp]; omega
theorem okI : AllOk Tryz.prog (Tb.exts ++ Tb.gos) := allOk_app (allOk_of extsOk) Tb.gosOk
theorem frI : FRel Tryz.prog Tb.tabI := frel_of okI
theorem memoOk : ExtOk Tryz.prog 430 (.memo Tb.x6 Tb.space Tb.words) := by
  have h : Tb.tabI.get (Ix.ofTmp 430) = some Tb.ir430 := by kernel_rfl
  obtain ⟨np, res, body, e⟩ : ∃ np res body, Tb.ir430 = .go np res body := ⟨_, _, _, rfl⟩
  rw [e] at h
  rw [← x6_g]
  refine ext_memo mixed frI (n := 100000) h (by rw [nglob]; decide) nx_g fun p hp et => ?_
  rw [x6_g]
  simp only [Tb.words, List.mem_cons, List.not_mem_nil, or_false] at hp
  rcases hp with rfl | rfl | rfl | rfl | rfl | rfl | rfl
  · exact fsays_ok (Tb.memo_a et)
  · exact fsays_ok (Tb.memo_b et)
  · exact fsays_ok (Tb.memo_c et)
  · exact fsays_ok (Tb.memo_d et)
  · exact fsays_ok (Tb.memo_k et)
  · exact fsays_ok (Tb.memo_p et)
  · exact fsays_ok (Tb.memo_t et)
theorem okA : AllOk Tryz.prog ((430, .ext (.memo Tb.x6 Tb.space Tb.words)) :: (Tb.exts ++ Tb.gos)) := ⟨memoOk, okI⟩
theorem frA : FRel Tryz.prog Tb.tabA := frel_of okA
theorem memgOk : ExtOk Tryz.prog 108 (.memg Tb.x6 Tb.space Tb.ptbl) := by
  have h : Tb.tabA.get (Ix.ofTmp 108) = some Tb.ir108 := by kernel_rfl
  obtain ⟨np, res, body, e⟩ : ∃ np res body, Tb.ir108 = .go np res body := ⟨_, _, _, rfl⟩
  rw [e] at h
  rw [← x6_g]
  refine ext_memg mixed frA (n := 100000) h (by rw [nglob]; decide) nx_g fun p hp et => ?_
  rw [x6_g]
  simp only [Tb.ptbl, List.mem_cons, List.not_mem_nil, or_false] at hp
  rcases hp with rfl | rfl | rfl | rfl
  · obtain ⟨v0, A', h1, h2⟩ := fresOk_ok (Tb.text_0 et); exact ⟨v0, A', _, h1, h2⟩
  · obtain ⟨v0, A', h1, h2⟩ := fresOk_ok (Tb.text_1 et); exact ⟨v0, A', _, h1, h2⟩
  · obtain ⟨v0, A', h1, h2⟩ := fresOk_ok (Tb.text_2 et); exact ⟨v0, A', _, h1, h2⟩
  · obtain ⟨v0, A', h1, h2⟩ := fresOk_ok (Tb.text_3 et); exact ⟨v0, A', _, h1, h2⟩
theorem frC : FRel Tryz.prog Tb.tabC := frel_of ⟨memgOk, okA⟩
/-- all that was lies as it lay -/
structure KeptAll (W w' : World) : Prop where
  size : W.heap.size ≤ w'.heap.size
  old : ∀ j, j < W.heap.size → w'.heap[j]? = W.heap[j]?
  os : w'.os = W.os
  output : w'.output = W.output
def spaceCodes : List Int := (List.range 256).map fun i => if i == 9 || i == 10 || i == 11 || i == 12 || i == 13 || i == 32 then 1 else 0
theorem space_eq : Tb.space = spaceCodes.map (AV.int .u8) := by kernel_rfl
theorem codes_rels (σ : Sg) : ∀ l : List Int, VRels σ (l.map (AV.int .u8)) (l.map (Value.int .u8))
  | [] => VRels.nil
  | x :: l => VRels.cons (by simp only [VRel]) (codes_rels σ l)
/-- the variable strings.asciiSpace holds what the program lays in it -/
def SpaceIn (W : World) : Prop := ∃ c et fz, W.heap[6]? = some (.cells c et fz) ∧ c.toList = spaceCodes.map (Value.int .u8)
theorem world0 {W : World} (h : SpaceIn W) : ∃ (σ : Sg) (et : Nat), WRel Tryz.prog σ (Tb.A0 et) W ∧ GRel Tryz.prog σ := by
  obtain ⟨c, et, fz, h1, h2⟩ := h
  let σ : Sg := fun x => open Classical in if h : ∃ g, g < 11 ∧ x = gIx g then some ⟨h.choose, 0, 0⟩ else none
  have hσ : ∀ g, g < 11 → σ (gIx g) = some ⟨g, 0, 0⟩ := by
    intro g hg
    have hex : ∃ g', g' < 11 ∧ gIx g = gIx g' := ⟨g, hg, rfl⟩
    have : σ (gIx g) = some ⟨hex.choose, 0, 0⟩ := dif_pos hex
    rw [this, ← Ix.ofTmp_inj hex.choose_spec.2]
  refine ⟨σ, et, ⟨fun a o ha => ?_, fun a b e f ha hb he hf hab => ?_, fun a e ha => ?_⟩, fun g hg => ⟨_, hσ g (by rwa [nglob] at hg), rfl, rfl⟩⟩
  · obtain ⟨rfl, rfl⟩ := ro1_get ha
    refine ⟨⟨6, 0, 0⟩, _, by rw [← x6_g]; exact hσ 6 (by omega), h1, c, fz, rfl, ?_, ?_, ?_, ?_, ?_⟩
    · have hl : c.toList.length = 256 := by rw [h2]; simp [spaceCodes]
      have hl2 : Tb.space.length = 256 := by rw [space_eq]; simp [spaceCodes]
      rw [hl2]
      rw [Array.length_toList] at hl
      show 0 + 256 ≤ c.size
      omega
    · rw [h2]
      have hl2 : Tb.space.length = (spaceCodes.map (Value.int .u8)).length := by rw [space_eq]; simp
      rw [List.drop_zero, hl2, List.take_length, space_eq]
      exact codes_rels σ spaceCodes
    · intro _
      refine ⟨rfl, ?_⟩
      have hl : c.toList.length = 256 := by rw [h2]; simp [spaceCodes]
      rw [Array.length_toList] at hl
      rw [space_eq, hl]; simp [spaceCodes]
    · intro h; cases h
    · intro h; cases h
  · obtain ⟨o, ho⟩ := Option.isSome_iff_exists.1 ha
    obtain ⟨u, hu⟩ := Option.isSome_iff_exists.1 hb
    exact absurd ((ro1_get ho).1.trans (ro1_get hu).1.symm) hab
  · show a.toNat < Tb.x11.toNat
    by_cases hx : ∃ g, g < 11 ∧ a = gIx g
    · obtain ⟨g, hg, rfl⟩ := hx
      exact nx_g g (by rw [nglob]; exact hg)
    · have : σ a = none := dif_neg hx
      rw [this] at ha; cases ha
/-- what the evaluator for the kernel says, of the program -/
theorem says {f : Nat} {args : List AV} {vals : Array Value} {b : Bool} {ir : IFn} (hf : Tb.tabC.get (Ix.ofTmp f) = some ir) (hgo : ∃ np res body, ir = .go np res body) (h : ∀ et, fsays Tb.tabC 100000 f args (Tb.A0 et) b = true) (hv : ∀ σ, VRels σ args vals.toList) {W : World} (hsp : SpaceIn W) :
    Calls Tryz.prog f vals W fun e w' => e = .returned (.bool b) ∧ KeptAll W w' := by
  obtain ⟨np, res, body, rfl⟩ := hgo
  obtain ⟨σ, et, hW, hG⟩ := world0 hsp
  obtain ⟨A', hrun⟩ := fsays_ok (h et)
  refine (calls_of_run mixed frC hf hrun hW hG (hv σ)).mono ?_
  rintro e w' ⟨cv, σ', rfl, k1, k2⟩
  simp only [VRel] at k1
  subst k1
  refine ⟨rfl, k2.size, fun j hj => ?_, k2.io.1, k2.io.2⟩
  by_cases hx : ∃ a e, ((Tb.A0 et).get a).isSome = true ∧ σ a = some e ∧ e.blk = j
  · obtain ⟨a, e, ha, he, rfl⟩ := hx
    obtain ⟨o, ho⟩ := Option.isSome_iff_exists.1 ha
    obtain ⟨rfl, rfl⟩ := ro1_get ho
    exact (k2.ro _ _ _ _ ho he).2
  · exact k2.pres j hj fun a e ha he hej => hx ⟨a, e, ha, he, hej⟩
end Go.AE
namespace Go.AE
open Go.Proofs
theorem vrels_cons3 {σ : Sg} {x y z : AV} {a b c : Value} (h1 : VRel σ x a) (h2 : VRel σ y b) (h3 : VRel σ z c) : VRels σ [x, y, z] #[a, b, c].toList := VRels.cons h1 (VRels.cons h2 (VRels.cons h3 VRels.nil))
theorem vrel_cls (σ : Sg) {n : Int} {m k : Nat} (h : n % (m : Int) = (k : Int)) : VRel σ (.cls m k) (.int .i64 n) := by
  simp only [VRel]; exact ⟨n, rfl, h⟩
theorem vrel_bool (σ : Sg) (b : Bool) : VRel σ (.bool b) (.bool b) := by simp only [VRel]
theorem is_go {f : Nat} {ir : IFn} (h : ∃ np res body, ir = .go np res body) : ∃ np res body, ir = .go np res body := h
end Go.AE
namespace Go.AE
open Go.Proofs
theorem clusterSchema_true (nodes at_ down : Int) (W : World) (hsp : SpaceIn W) : Calls Tryz.prog 3 #[.int .i64 nodes, .int .i64 at_, .int .i64 down] W fun e w' => e = .returned (.bool true) ∧ KeptAll W w' := by
  have hf : Tb.tabC.get (Ix.ofTmp 3) = some Tb.ir3 := by kernel_rfl
  rcases (show nodes % 5 = 0 ∨ nodes % 5 = 1 ∨ nodes % 5 = 2 ∨ nodes % 5 = 3 ∨ nodes % 5 = 4 by omega) with hn | hn | hn | hn | hn
  · have ha : at_ % 1 = 0 := by omega
    have hd : down % 1 = 0 := by omega
    exact says hf ⟨_, _, _, rfl⟩ Tb.cs_0_0_0 (fun σ => vrels_cons3 (vrel_cls σ hn) (vrel_cls σ ha) (vrel_cls σ hd)) hsp
  · rcases (show at_ % 2 = 0 ∨ at_ % 2 = 1 by omega) with ha | ha
    · rcases (show down % 2 = 0 ∨ down % 2 = 1 by omega) with hd | hd
      · exact says hf ⟨_, _, _, rfl⟩ Tb.cs_1_0_0 (fun σ => vrels_cons3 (vrel_cls σ hn) (vrel_cls σ ha) (vrel_cls σ hd)) hsp
      · exact says hf ⟨_, _, _, rfl⟩ Tb.cs_1_0_1 (fun σ => vrels_cons3 (vrel_cls σ hn) (vrel_cls σ ha) (vrel_cls σ hd)) hsp
    · rcases (show down % 2 = 0 ∨ down % 2 = 1 by omega) with hd | hd
      · exact says hf ⟨_, _, _, rfl⟩ Tb.cs_1_1_0 (fun σ => vrels_cons3 (vrel_cls σ hn) (vrel_cls σ ha) (vrel_cls σ hd)) hsp
      · exact says hf ⟨_, _, _, rfl⟩ Tb.cs_1_1_1 (fun σ => vrels_cons3 (vrel_cls σ hn) (vrel_cls σ ha) (vrel_cls σ hd)) hsp
  · rcases (show at_ % 3 = 0 ∨ at_ % 3 = 1 ∨ at_ % 3 = 2 by omega) with ha | ha | ha
    · rcases (show down % 3 = 0 ∨ down % 3 = 1 ∨ down % 3 = 2 by omega) with hd | hd | hd
      · exact says hf ⟨_, _, _, rfl⟩ Tb.cs_2_0_0 (fun σ => vrels_cons3 (vrel_cls σ hn) (vrel_cls σ ha) (vrel_cls σ hd)) hsp
      · exact says hf ⟨_, _, _, rfl⟩ Tb.cs_2_0_1 (fun σ => vrels_cons3 (vrel_cls σ hn) (vrel_cls σ ha) (vrel_cls σ hd)) hsp
      · exact says hf ⟨_, _, _, rfl⟩ Tb.cs_2_0_2 (fun σ => vrels_cons3 (vrel_cls σ hn) (vrel_cls σ ha) (vrel_cls σ hd)) hsp
    · rcases (show down % 3 = 0 ∨ down % 3 = 1 ∨ down % 3 = 2 by omega) with hd | hd | hd
      · exact says hf ⟨_, _, _, rfl⟩ Tb.cs_2_1_0 (fun σ => vrels_cons3 (vrel_cls σ hn) (vrel_cls σ ha) (vrel_cls σ hd)) hsp
      · exact says hf ⟨_, _, _, rfl⟩ Tb.cs_2_1_1 (fun σ => vrels_cons3 (vrel_cls σ hn) (vrel_cls σ ha) (vrel_cls σ hd)) hsp
      · exact says hf ⟨_, _, _, rfl⟩ Tb.cs_2_1_2 (fun σ => vrels_cons3 (vrel_cls σ hn) (vrel_cls σ ha) (vrel_cls σ hd)) hsp
    · rcases (show down % 3 = 0 ∨ down % 3 = 1 ∨ down % 3 = 2 by omega) with hd | hd | hd
      · exact says hf ⟨_, _, _, rfl⟩ Tb.cs_2_2_0 (fun σ => vrels_cons3 (vrel_cls σ hn) (vrel_cls σ ha) (vrel_cls σ hd)) hsp
      · exact says hf ⟨_, _, _, rfl⟩ Tb.cs_2_2_1 (fun σ => vrels_cons3 (vrel_cls σ hn) (vrel_cls σ ha) (vrel_cls σ hd)) hsp
      · exact says hf ⟨_, _, _, rfl⟩ Tb.cs_2_2_2 (fun σ => vrels_cons3 (vrel_cls σ hn) (vrel_cls σ ha) (vrel_cls σ hd)) hsp
  · rcases (show at_ % 4 = 0 ∨ at_ % 4 = 1 ∨ at_ % 4 = 2 ∨ at_ % 4 = 3 by omega) with ha | ha | ha | ha
    · rcases (show down % 4 = 0 ∨ down % 4 = 1 ∨ down % 4 = 2 ∨ down % 4 = 3 by omega) with hd | hd | hd | hd
      · exact says hf ⟨_, _, _, rfl⟩ Tb.cs_3_0_0 (fun σ => vrels_cons3 (vrel_cls σ hn) (vrel_cls σ ha) (vrel_cls σ hd)) hsp
      · exact says hf ⟨_, _, _, rfl⟩ Tb.cs_3_0_1 (fun σ => vrels_cons3 (vrel_cls σ hn) (vrel_cls σ ha) (vrel_cls σ hd)) hsp
      · exact says hf ⟨_, _, _, rfl⟩ Tb.cs_3_0_2 (fun σ => vrels_cons3 (vrel_cls σ hn) (vrel_cls σ ha) (vrel_cls σ hd)) hsp
      · exact says hf ⟨_, _, _, rfl⟩ Tb.cs_3_0_3 (fun σ => vrels_cons3 (vrel_cls σ hn) (vrel_cls σ ha) (vrel_cls σ hd)) hsp
    · rcases (show down % 4 = 0 ∨ down % 4 = 1 ∨ down % 4 = 2 ∨ down % 4 = 3 by omega) with hd | hd | hd | hd
      · exact says hf ⟨_, _, _, rfl⟩ Tb.cs_3_1_0 (fun σ => vrels_cons3 (vrel_cls σ hn) (vrel_cls σ ha) (vrel_cls σ hd)) hsp
      · exact says hf ⟨_, _, _, rfl⟩ Tb.cs_3_1_1 (fun σ => vrels_cons3 (vrel_cls σ hn) (vrel_cls σ ha) (vrel_cls σ hd)) hsp
      · exact says hf ⟨_, _, _, rfl⟩ Tb.cs_3_1_2 (fun σ => vrels_cons3 (vrel_cls σ hn) (vrel_cls σ ha) (vrel_cls σ hd)) hsp
      · exact says hf ⟨_, _, _, rfl⟩ Tb.cs_3_1_3 (fun σ => vrels_cons3 (vrel_cls σ hn) (vrel_cls σ ha) (vrel_cls σ hd)) hsp
    · rcases (show down % 4 = 0 ∨ down % 4 = 1 ∨ down % 4 = 2 ∨ down % 4 = 3 by omega) with hd | hd | hd | hd
      · exact says hf ⟨_, _, _, rfl⟩ Tb.cs_3_2_0 (fun σ => vrels_cons3 (vrel_cls σ hn) (vrel_cls σ ha) (vrel_cls σ hd)) hsp
      · exact says hf ⟨_, _, _, rfl⟩ Tb.cs_3_2_1 (fun σ => vrels_cons3 (vrel_cls σ hn) (vrel_cls σ ha) (vrel_cls σ hd)) hsp
      · exact says hf ⟨_, _, _, rfl⟩ Tb.cs_3_2_2 (fun σ => vrels_cons3 (vrel_cls σ hn) (vrel_cls σ ha) (vrel_cls σ hd)) hsp
      · exact says hf ⟨_, _, _, rfl⟩ Tb.cs_3_2_3 (fun σ => vrels_cons3 (vrel_cls σ hn) (vrel_cls σ ha) (vrel_cls σ hd)) hsp
    · rcases (show down % 4 = 0 ∨ down % 4 = 1 ∨ down % 4 = 2 ∨ down % 4 = 3 by omega) with hd | hd | hd | hd
      · exact says hf ⟨_, _, _, rfl⟩ Tb.cs_3_3_0 (fun σ => vrels_cons3 (vrel_cls σ hn) (vrel_cls σ ha) (vrel_cls σ hd)) hsp
      · exact says hf ⟨_, _, _, rfl⟩ Tb.cs_3_3_1 (fun σ => vrels_cons3 (vrel_cls σ hn) (vrel_cls σ ha) (vrel_cls σ hd)) hsp
      · exact says hf ⟨_, _, _, rfl⟩ Tb.cs_3_3_2 (fun σ => vrels_cons3 (vrel_cls σ hn) (vrel_cls σ ha) (vrel_cls σ hd)) hsp
      · exact says hf ⟨_, _, _, rfl⟩ Tb.cs_3_3_3 (fun σ => vrels_cons3 (vrel_cls σ hn) (vrel_cls σ ha) (vrel_cls σ hd)) hsp
  · rcases (show at_ % 5 = 0 ∨ at_ % 5 = 1 ∨ at_ % 5 = 2 ∨ at_ % 5 = 3 ∨ at_ % 5 = 4 by omega) with ha | ha | ha | ha | ha
    · rcases (show down % 5 = 0 ∨ down % 5 = 1 ∨ down % 5 = 2 ∨ down % 5 = 3 ∨ down % 5 = 4 by omega) with hd | hd | hd | hd | hd
      · exact says hf ⟨_, _, _, rfl⟩ Tb.cs_4_0_0 (fun σ => vrels_cons3 (vrel_cls σ hn) (vrel_cls σ ha) (vrel_cls σ hd)) hsp
      · exact says hf ⟨_, _, _, rfl⟩ Tb.cs_4_0_1 (fun σ => vrels_cons3 (vrel_cls σ hn) (vrel_cls σ ha) (vrel_cls σ hd)) hsp
      · exact says hf ⟨_, _, _, rfl⟩ Tb.cs_4_0_2 (fun σ => vrels_cons3 (vrel_cls σ hn) (vrel_cls σ ha) (vrel_cls σ hd)) hsp
      · exact says hf ⟨_, _, _, rfl⟩ Tb.cs_4_0_3 (fun σ => vrels_cons3 (vrel_cls σ hn) (vrel_cls σ ha) (vrel_cls σ hd)) hsp
      · exact says hf ⟨_, _, _, rfl⟩ Tb.cs_4_0_4 (fun σ => vrels_cons3 (vrel_cls σ hn) (vrel_cls σ ha) (vrel_cls σ hd)) hsp
    · rcases (show down % 5 = 0 ∨ down % 5 = 1 ∨ down % 5 = 2 ∨ down % 5 = 3 ∨ down % 5 = 4 by omega) with hd | hd | hd | hd | hd
      · exact says hf ⟨_, _, _, rfl⟩ Tb.cs_4_1_0 (fun σ => vrels_cons3 (vrel_cls σ hn) (vrel_cls σ ha) (vrel_cls σ hd)) hsp
      · exact says hf ⟨_, _, _, rfl⟩ Tb.cs_4_1_1 (fun σ => vrels_cons3 (vrel_cls σ hn) (vrel_cls σ ha) (vrel_cls σ hd)) hsp
      · exact says hf ⟨_, _, _, rfl⟩ Tb.cs_4_1_2 (fun σ => vrels_cons3 (vrel_cls σ hn) (vrel_cls σ ha) (vrel_cls σ hd)) hsp
      · exact says hf ⟨_, _, _, rfl⟩ Tb.cs_4_1_3 (fun σ => vrels_cons3 (vrel_cls σ hn) (vrel_cls σ ha) (vrel_cls σ hd)) hsp
      · exact says hf ⟨_, _, _, rfl⟩ Tb.cs_4_1_4 (fun σ => vrels_cons3 (vrel_cls σ hn) (vrel_cls σ ha) (vrel_cls σ hd)) hsp
    · rcases (show down % 5 = 0 ∨ down % 5 = 1 ∨ down % 5 = 2 ∨ down % 5 = 3 ∨ down % 5 = 4 by omega) with hd | hd | hd | hd | hd
      · exact says hf ⟨_, _, _, rfl⟩ Tb.cs_4_2_0 (fun σ => vrels_cons3 (vrel_cls σ hn) (vrel_cls σ ha) (vrel_cls σ hd)) hsp
      · exact says hf ⟨_, _, _, rfl⟩ Tb.cs_4_2_1 (fun σ => vrels_cons3 (vrel_cls σ hn) (vrel_cls σ ha) (vrel_cls σ hd)) hsp
      · exact says hf ⟨_, _, _, rfl⟩ Tb.cs_4_2_2 (fun σ => vrels_cons3 (vrel_cls σ hn) (vrel_cls σ ha) (vrel_cls σ hd)) hsp
      · exact says hf ⟨_, _, _, rfl⟩ Tb.cs_4_2_3 (fun σ => vrels_cons3 (vrel_cls σ hn) (vrel_cls σ ha) (vrel_cls σ hd)) hsp
      · exact says hf ⟨_, _, _, rfl⟩ Tb.cs_4_2_4 (fun σ => vrels_cons3 (vrel_cls σ hn) (vrel_cls σ ha) (vrel_cls σ hd)) hsp
    · rcases (show down % 5 = 0 ∨ down % 5 = 1 ∨ down % 5 = 2 ∨ down % 5 = 3 ∨ down % 5 = 4 by omega) with hd | hd | hd | hd | hd
      · exact says hf ⟨_, _, _, rfl⟩ Tb.cs_4_3_0 (fun σ => vrels_cons3 (vrel_cls σ hn) (vrel_cls σ ha) (vrel_cls σ hd)) hsp
      · exact says hf ⟨_, _, _, rfl⟩ Tb.cs_4_3_1 (fun σ => vrels_cons3 (vrel_cls σ hn) (vrel_cls σ ha) (vrel_cls σ hd)) hsp
      · exact says hf ⟨_, _, _, rfl⟩ Tb.cs_4_3_2 (fun σ => vrels_cons3 (vrel_cls σ hn) (vrel_cls σ ha) (vrel_cls σ hd)) hsp
      · exact says hf ⟨_, _, _, rfl⟩ Tb.cs_4_3_3 (fun σ => vrels_cons3 (vrel_cls σ hn) (vrel_cls σ ha) (vrel_cls σ hd)) hsp
      · exact says hf ⟨_, _, _, rfl⟩ Tb.cs_4_3_4 (fun σ => vrels_cons3 (vrel_cls σ hn) (vrel_cls σ ha) (vrel_cls σ hd)) hsp
    · rcases (show down % 5 = 0 ∨ down % 5 = 1 ∨ down % 5 = 2 ∨ down % 5 = 3 ∨ down % 5 = 4 by omega) with hd | hd | hd | hd | hd
      · exact says hf ⟨_, _, _, rfl⟩ Tb.cs_4_4_0 (fun σ => vrels_cons3 (vrel_cls σ hn) (vrel_cls σ ha) (vrel_cls σ hd)) hsp
      · exact says hf ⟨_, _, _, rfl⟩ Tb.cs_4_4_1 (fun σ => vrels_cons3 (vrel_cls σ hn) (vrel_cls σ ha) (vrel_cls σ hd)) hsp
      · exact says hf ⟨_, _, _, rfl⟩ Tb.cs_4_4_2 (fun σ => vrels_cons3 (vrel_cls σ hn) (vrel_cls σ ha) (vrel_cls σ hd)) hsp
      · exact says hf ⟨_, _, _, rfl⟩ Tb.cs_4_4_3 (fun σ => vrels_cons3 (vrel_cls σ hn) (vrel_cls σ ha) (vrel_cls σ hd)) hsp
      · exact says hf ⟨_, _, _, rfl⟩ Tb.cs_4_4_4 (fun σ => vrels_cons3 (vrel_cls σ hn) (vrel_cls σ ha) (vrel_cls σ hd)) hsp
end Go.AE
