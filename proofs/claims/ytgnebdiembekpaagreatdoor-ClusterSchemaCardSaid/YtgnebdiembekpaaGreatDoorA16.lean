import Derived.Test.YtgnebdiembekpaaGreatDoorA15
import Derived.Scope
/- Part of the proof: the abstract evaluator, its soundness, its runs: AeRun4, AeRun5, AeRun6, AeRun7, AeRun8, AeDraw1, AeDraw2, AeDraw3, AeDraw4, AeDraw5, AeDraw6 -/
set_option linter.unusedSectionVars false
set_option linter.unusedSimpArgs false
set_option linter.unusedVariables false
set_option linter.unnecessarySimpa false
namespace Go.AE
variable {P : Program} {F : Tr IFn} {E : ICode → TM → AW → Option AR}
theorem Post.trans {σ σ1 : Sg} {A A1 : AW} {W W1 : World} {ds ds1 ds2 : List Nat} {a a1 : Act} {r : AR} (h : Step P σ A W σ1 A1 W1) (hn : a1.tmps.size = a.tmps.size) (hk : ∀ t, t ∉ ds1 → a1.tmps.getD t undef = a.tmps.getD t undef)
    (h1 : ∀ t, t ∈ ds1 → t ∈ ds) (h2 : ∀ t, t ∈ ds2 → t ∈ ds) {e : Exit} {a' : Act} {w' : World} (hp : Post P σ1 A1 W1 ds2 a1 r e a' w') : Post P σ A W ds a r e a' w' := by
  obtain ⟨g1, g2, g3, g4, σ', g5, g6⟩ := hp
  exact ⟨g1, g2, g3.trans hn, fun t ht => by rw [g4 t (fun e => ht (h2 t e)), hk t (fun e => ht (h1 t e))], σ', h.trans g5, g6⟩
theorem Post.wide {σ : Sg} {A : AW} {W : World} {ds ds1 : List Nat} {a : Act} {r : AR} (h1 : ∀ t, t ∈ ds1 → t ∈ ds) {e : Exit} {a' : Act} {w' : World} (hp : Post P σ A W ds1 a r e a' w') : Post P σ A W ds a r e a' w' := by
  obtain ⟨g1, g2, g3, g4, g5⟩ := hp
  exact ⟨g1, g2, g3, fun t ht => g4 t (fun e => ht (h1 t e)), g5⟩
theorem findLab_ok (l : Nat) : ∀ c : Code, findLab (compC P c) l = (findLabel c l).map (compC P)
  | .seq a b => by
    simp only [compC, findLab, findLabel, findLab_ok l a]
    cases h : findLabel a l with
    | none => simp only [Option.map_none]; exact findLab_ok l b
    | some rest => simp [compC]
  | .label l' => by
    simp only [compC, findLab, findLabel]
    split <;> simp [compC]
  | .skip => by simp [compC, findLab, findLabel]
  | .region _ ops d => by
    simp only [compC, findLabel, Option.map_none]
    split
    · unfold drawOf; simp only []; split <;> rfl
    · rfl
  | .cond c a b => by
    simp only [compC, findLabel, Option.map_none]
    split <;> rfl
  | .block _ _ => by simp [compC, findLab, findLabel]
  | .loop b => by
    simp only [findLabel, Option.map_none]
    unfold compC
    simp only []
    split
    · split
      · split <;> rfl
      · rfl
    · rfl
  | .rangeFunc .. => by simp [compC, findLab, findLabel]
  | .exit _ => by simp [compC, findLab, findLabel]
  | .scope _ => by simp [compC, findLab, findLabel]
  | .goto _ => by simp [compC, findLab, findLabel]
  | .ret => by simp [compC, findLab, findLabel]
  | .refuse _ => by simp [compC, findLab, findLabel]
theorem findLabel_dsts (l : Nat) : ∀ {c rest : Code}, findLabel c l = some rest → ∀ d, d ∈ dstsN rest → d ∈ dstsN c
  | .seq a b, rest, h, d, hd => by
    simp only [findLabel] at h
    split at h
    · rename_i r hr
      cases h
      simp only [dstsN, List.mem_append] at hd ⊢
      exact hd.imp (findLabel_dsts l hr d) id
    · simp only [dstsN, List.mem_append]
      exact .inr (findLabel_dsts l h d hd)
  | .label l', rest, h, d, hd => by
    simp only [findLabel] at h
    split at h
    · cases h; simp [dstsN] at hd
    · cases h
  | .skip, _, h, _, _ => by simp [findLabel] at h
  | .region _ _ _, _, h, _, _ => by simp [findLabel] at h
  | .cond _ _ _, _, h, _, _ => by simp [findLabel] at h
  | .block _ _, _, h, _, _ => by simp [findLabel] at h
  | .loop _, _, h, _, _ => by simp [findLabel] at h
  | .rangeFunc .., _, h, _, _ => by simp [findLabel] at h
  | .exit _, _, h, _, _ => by simp [findLabel] at h
  | .scope _, _, h, _, _ => by simp [findLabel] at h
  | .goto _, _, h, _, _ => by simp [findLabel] at h
  | .ret, _, h, _, _ => by simp [findLabel] at h
  | .refuse _, _, h, _, _ => by simp [findLabel] at h
theorem compC_loop_seq (id : Nat) (ops : Array Oper) (rest : Code) : compC P (.loop (.seq (.region id ops false) rest)) = (match isSeqNext ops with
    | some (it, nx, more) => (match argOf P it with
      | some it => ICode.mloop it (Ix.ofTmp nx) (Ix.ofTmp more) ((dstsN rest).eraseDups.map Ix.ofTmp) (compC P rest)
      | none => .bad)
    | none => .loop (compC P (.seq (.region id ops false) rest))) := rfl
theorem compC_loop (b : Code) : compC P (.loop b) = (match b with
    | .seq (.region _ ops false) rest => (match isSeqNext ops with
      | some (it, nx, more) => (match argOf P it with
        | some it => ICode.mloop it (Ix.ofTmp nx) (Ix.ofTmp more) ((dstsN rest).eraseDups.map Ix.ofTmp) (compC P rest)
        | none => .bad)
      | none => .loop (compC P b))
    | _ => .loop (compC P b)) := by
  cases b with
  | seq x y => cases x with
    | region id ops d => cases d <;> rfl
    | _ => rfl
  | _ => rfl
/-- the rounds of loops over maps are sound -/
def MSound (P : Program) (F : Tr IFn) (E : ICode → TM → AW → Option AR) : Prop :=
  ∀ id ops rest it nx more it', isSeqNext ops = some (it, nx, more) → argOf P it = some it' → ∀ T A r,
    evStep F E (.mloop it' (Ix.ofTmp nx) (Ix.ofTmp more) ((dstsN rest).eraseDups.map Ix.ofTmp) (compC P rest)) T A = some r → ∀ σ (a : Act) W, WRel P σ A W → TRel σ T a.tmps → GRel P σ → a.defers = [] →
    (∀ d, d ∈ dstsN (.seq (.region id ops false) rest) → d < a.tmps.size) → ∀ (fr : Frame) (k : List Item) (cs : List Frame),
    ∃ e a' w', Post P σ A W (dstsN (.seq (.region id ops false) rest)) a r e a' w' ∧ Arrives P (lone (fr.at a (.code (.seq (.region id ops false) rest) :: .inLoop (.seq (.region id ops false) rest) :: k)) cs W) fr k cs e a' w'
/-- regions that draw are sound -/
def DSound (P : Program) (F : Tr IFn) (E : ICode → TM → AW → Option AR) : Prop :=
  ∀ id ops n l, drawOf P ops = .draw n l → ∀ T A T' A', runDraw F E A.nx l T { A with nx := addIx n A.nx } = some (T', A') → ∀ σ (a : Act) W, WRel P σ A W → TRel σ T a.tmps → GRel P σ → a.defers = [] →
    (∀ d, d ∈ dstsN (.region id ops true) → d < a.tmps.size) → (Code.region id ops true).wp P (Post P σ A W (dstsN (.region id ops true)) a ⟨.normal, T', A'⟩) a W
section
variable (hS : Sound P E) (hF : FRel P F) (hM : MSound P F E) (hD : DSound P F E)
include hS hF hM hD
theorem loop_ok (c : Code) (T : TM) (A : AW) (r : AR) (h : evStep F E (compC P (.loop c)) T A = some r) (σ : Sg) (a : Act) (W : World) (hW : WRel P σ A W) (hT : TRel σ T a.tmps) (hG : GRel P σ) (hdef : a.defers = []) (hd : ∀ d, d ∈ dstsN c → d < a.tmps.size)
    (fr : Frame) (k : List Item) (cs : List Frame) : ∃ e a' w', Post P σ A W (dstsN c) a r e a' w' ∧ Arrives P (lone (fr.at a (.code c :: .inLoop c :: k)) cs W) fr k cs e a' w' := by
  have plain : compC P (.loop c) = .loop (compC P c) → ∃ e a' w', Post P σ A W (dstsN c) a r e a' w' ∧ Arrives P (lone (fr.at a (.code c :: .inLoop c :: k)) cs W) fr k cs e a' w' := by
    intro hc
    rw [hc] at h
    simp only [evStep] at h
    split at h
    · rename_i r1 h1
      obtain ⟨e, a1, w1, hp, harr⟩ := hS.code c T A r1 h1 σ a W hW hT hG hdef hd fr (.inLoop c :: k) cs
      have hp0 := hp
      obtain ⟨he, hdef1, hn1, hk1, σ1, hst1, hT1⟩ := hp
      split at h
      · rename_i hx
        rw [hx] at he
        subst he
        rw [← hc] at h
        obtain ⟨e2, a2, w2, hp2, harr2⟩ := hS.again c r1.T r1.A r h σ1 a1 w1 hst1.rel hT1 (hG.mono hst1.le) hdef1 (fun d hdd => by rw [hn1]; exact hd d hdd) fr k cs
        exact ⟨e2, a2, w2, Post.trans hst1 hn1 hk1 (fun _ h => h) (fun _ h => h) hp2, .of_steps harr harr2⟩
      · rename_i hx
        cases h
        refine ⟨e, a1, w1, hp0, .pass (x := .inLoop c) rfl (fun _ _ => .inl ?_) harr⟩
        intro hne
        rw [he] at hne
        apply hx
        cases hrx : r.x <;> simp [hrx, exitOf] at hne ⊢
    · cases h
  by_cases hform : ∃ id ops rest, c = .seq (.region id ops false) rest
  · obtain ⟨id, ops, rest, rfl⟩ := hform
    cases hseq : isSeqNext ops with
    | none => exact plain (by rw [compC_loop_seq, hseq])
    | some q =>
      obtain ⟨it, nx, more⟩ := q
      cases harg : argOf P it with
      | none =>
        have : compC P (.loop (.seq (.region id ops false) rest)) = .bad := by rw [compC_loop_seq, hseq]; simp only [harg]
        rw [this] at h
        simp [evStep] at h
      | some it' =>
        have : compC P (.loop (.seq (.region id ops false) rest)) = .mloop it' (Ix.ofTmp nx) (Ix.ofTmp more) ((dstsN rest).eraseDups.map Ix.ofTmp) (compC P rest) := by rw [compC_loop_seq, hseq]; simp only [harg]
        rw [this] at h
        exact hM id ops rest it nx more it' hseq harg T A r h σ a W hW hT hG hdef hd fr k cs
  · refine plain ?_
    rw [compC_loop]
    split
    · rename_i id ops rest
      exact absurd ⟨id, ops, rest, rfl⟩ hform
    · rfl
theorem within_ok (c b : Code) (T : TM) (A : AW) (r : AR) (h : evStep F E (.inscope (compC P c) (compC P b)) T A = some r) (σ : Sg) (a : Act) (W : World) (hW : WRel P σ A W) (hT : TRel σ T a.tmps) (hG : GRel P σ) (hdef : a.defers = [])
    (hd : ∀ d, d ∈ dstsN c → d < a.tmps.size) (hdb : ∀ d, d ∈ dstsN b → d < a.tmps.size) (fr : Frame) (k : List Item) (cs : List Frame) :
    ∃ e a' w', Post P σ A W (dstsN c ++ dstsN b) a r e a' w' ∧ Arrives P (lone (fr.at a (.code c :: .inScope b :: k)) cs W) fr k cs e a' w' := by
  simp only [evStep] at h
  split at h
  · rename_i r1 h1
    obtain ⟨e, a1, w1, hp, harr⟩ := hS.code c T A r1 h1 σ a W hW hT hG hdef hd fr (.inScope b :: k) cs
    have hp0 := hp
    obtain ⟨he, hdef1, hn1, hk1, σ1, hst1, hT1⟩ := hp
    split at h
    · rename_i l hx
      rw [hx] at he
      subst he
      rw [findLab_ok] at h
      split at h
      · rename_i rest hrest
        obtain ⟨rest', hfl, rfl⟩ := Option.map_eq_some_iff.1 hrest
        obtain ⟨e2, a2, w2, hp2, harr2⟩ := hS.within rest' b r1.T r1.A r h σ1 a1 w1 hst1.rel hT1 (hG.mono hst1.le) hdef1 (fun d hdd => by rw [hn1]; exact hdb d (findLabel_dsts l hfl d hdd)) (fun d hdd => by rw [hn1]; exact hdb d hdd) fr k cs
        exact ⟨e2, a2, w2, Post.trans hst1 hn1 hk1 (fun _ h => List.mem_append_left _ h) (fun t ht => List.mem_append_right _ ((List.mem_append.1 ht).elim (findLabel_dsts l hfl t) id)) hp2, .of_steps (harr _ (by simp [gotoIn, hfl])) harr2⟩
      · rename_i hnone
        cases h
        have hfl : findLabel b l = none := by simpa using hnone
        exact ⟨_, a1, w1, hp0.wide (fun _ h => List.mem_append_left _ h), fun k' hk => harr k' (by simp [gotoIn, hfl, hk])⟩
    · rename_i hx
      cases h
      refine ⟨e, a1, w1, hp0.wide (fun _ h => List.mem_append_left _ h), ?_⟩
      subst he
      cases hrx : r.x with
      | normal => rw [hrx] at harr; exact Steps.trans harr (.one step_inScope)
      | exit id => rw [hrx] at harr; exact fun k' hk => harr k' (by simp [exitTo, hk])
      | goto l => exact absurd hrx (hx l)
      | ret => rw [hrx] at harr; exact harr
  · cases h
theorem evStep_sound : Sound P (evStep F E) where
  again := fun c T A r h σ a W hW hT hG hdef hd fr k cs => by
    obtain ⟨e, a', w', hp, harr⟩ := loop_ok hS hF hM hD c T A r h σ a W hW hT hG hdef hd fr k cs
    exact ⟨e, a', w', hp, .of_steps (.one step_inLoop) harr⟩
  within := within_ok hS hF hM hD
  code := fun c T A r h σ a W hW hT hG hdef hd => by
    cases c with
    | skip => simp only [compC, evStep] at h; cases h; exact wp_skip ⟨rfl, hdef, rfl, fun _ _ => rfl, σ, .refl hW, hT⟩
    | label l => simp only [compC, evStep] at h; cases h; exact wp_label ⟨rfl, hdef, rfl, fun _ _ => rfl, σ, .refl hW, hT⟩
    | ret => simp only [compC, evStep] at h; cases h; exact wp_ret ⟨rfl, hdef, rfl, fun _ _ => rfl, σ, .refl hW, hT⟩
    | exit id => simp only [compC, evStep] at h; cases h; exact wp_exit ⟨rfl, hdef, rfl, fun _ _ => rfl, σ, .refl hW, hT⟩
    | goto l => simp only [compC, evStep] at h; cases h; exact wp_goto ⟨rfl, hdef, rfl, fun _ _ => rfl, σ, .refl hW, hT⟩
    | rangeFunc f ps x y => simp [compC, evStep] at h
    | refuse why => simp [compC, evStep] at h
    | region id ops draw =>
      cases draw with
      | false =>
        simp only [compC, Bool.false_eq_true, if_false, evStep] at h
        split at h
        · rename_i T' A' h1
          cases h
          exact reg_ok hS hF hW hT hG hdef hd h1
        · cases h
      | true =>
        simp only [compC, if_true] at h
        have hform : (∃ n l, drawOf P ops = .draw n l) ∨ drawOf P ops = .bad := by
          unfold drawOf
          simp only []
          split
          · exact .inl ⟨_, _, rfl⟩
          · exact .inr rfl
        rcases hform with ⟨n, l, hl⟩ | hl
        · rw [hl] at h
          simp only [evStep] at h
          split at h
          · rename_i T' A' h1
            cases h
            exact hD id ops n l hl T A T' A' h1 σ a W hW hT hG hdef hd
          · cases h
        · rw [hl] at h; simp [evStep] at h
    | seq x y =>
      simp only [compC, evStep] at h
      split at h
      · rename_i r1 h1
        refine wp_seq ?_
        have hx := hS.code x T A r1 h1 σ a W hW hT hG hdef (fun d hdd => hd d (by simp only [dstsN, List.mem_append]; exact .inl hdd))
        refine wp_mono hx ?_
        intro e a1 w1 hp
        have hp0 := hp
        obtain ⟨he, hdef1, hn1, hk1, σ1, hst1, hT1⟩ := hp
        split at h
        · rename_i hrx
          rw [hrx] at he
          subst he
          refine wp_mono (hS.code y r1.T r1.A r h σ1 a1 w1 hst1.rel hT1 (hG.mono hst1.le) hdef1 (fun d hdd => by rw [hn1]; exact hd d (by simp only [dstsN, List.mem_append]; exact .inr hdd))) ?_
          intro e2 a2 w2 hp2
          exact Post.trans hst1 hn1 hk1 (fun _ h => by simp only [dstsN, List.mem_append]; exact .inl h) (fun _ h => by simp only [dstsN, List.mem_append]; exact .inr h) hp2
        · rename_i hrx
          cases h
          subst he
          cases hrx' : r.x with
          | normal => exact absurd hrx' hrx
          | exit id => rw [hrx'] at hp0; exact hp0.wide (fun _ h => by simp only [dstsN, List.mem_append]; exact .inl h)
          | goto l => rw [hrx'] at hp0; exact hp0.wide (fun _ h => by simp only [dstsN, List.mem_append]; exact .inl h)
          | ret => rw [hrx'] at hp0; exact hp0.wide (fun _ h => by simp only [dstsN, List.mem_append]; exact .inl h)
      · cases h
    | cond x y z =>
      simp only [compC] at h
      split at h
      · rename_i c' hc'
        have hx := arg_rel hT hG hc'
        simp only [evStep] at h
        split at h
        · rename_i hb
          rw [hb] at hx; simp only [VRel] at hx
          exact wp_cond_true hx (wp_mono (hS.code y T A r h σ a W hW hT hG hdef (fun d hdd => hd d (by simp only [dstsN, List.mem_append]; exact .inl hdd))) (fun _ _ _ hp => hp.wide (fun _ h => by simp only [dstsN, List.mem_append]; exact .inl h)))
        · rename_i hb
          rw [hb] at hx; simp only [VRel] at hx
          exact wp_cond_false hx (wp_mono (hS.code z T A r h σ a W hW hT hG hdef (fun d hdd => hd d (by simp only [dstsN, List.mem_append]; exact .inr hdd))) (fun _ _ _ hp => hp.wide (fun _ h => by simp only [dstsN, List.mem_append]; exact .inr h)))
        · cases h
      · simp [evStep] at h
    | block id y =>
      simp only [compC, evStep] at h
      split at h
      · rename_i r1 h1
        refine wp_block (wp_mono (hS.code y T A r1 h1 σ a W hW hT hG hdef hd) ?_)
        intro e a1 w1 hp
        have hp0 := hp
        obtain ⟨he, hdef1, hn1, hk1, σ1, hst1, hT1⟩ := hp
        subst he
        cases hrx : r1.x with
        | exit id' =>
          rw [hrx] at h hp0
          simp only [exitOf, Exit.inBlock] at hp0 ⊢
          simp only [] at h
          split at h
          · rename_i hid
            cases h
            rw [if_pos hid]
            exact ⟨rfl, hdef1, hn1, hk1, σ1, hst1, hT1⟩
          · rename_i hid
            cases h
            rw [if_neg hid]
            exact hp0
        | normal => rw [hrx] at h hp0; cases h; exact hp0
        | goto l => rw [hrx] at h hp0; cases h; exact hp0
        | ret => rw [hrx] at h hp0; cases h; exact hp0
      · cases h
    | loop y =>
      intro fr k cs
      obtain ⟨e, a', w', hp, harr⟩ := loop_ok hS hF hM hD y T A r h σ a W hW hT hG hdef hd fr k cs
      exact ⟨e, a', w', hp, .of_steps (.one step_loop) harr⟩
    | scope y =>
      simp only [compC, evStep] at h
      intro fr k cs
      obtain ⟨e, a', w', hp, harr⟩ := hS.within y y T A r h σ a W hW hT hG hdef hd hd fr k cs
      exact ⟨e, a', w', hp.wide (fun _ h => (List.mem_append.1 h).elim id id), .of_steps (.one step_scope) harr⟩
end
end Go.AE
namespace Go.AE
variable {P : Program} {F : Tr IFn} {E : ICode → TM → AW → Option AR}
/-! ### what is said under more names is said under those that were there -/
mutual
theorem VRel.down {σ τ : Sg} (h : σ.le τ) : ∀ (v : AV) (x0 x : Value), VRel σ v x0 → VRel τ v x → VRel σ v x
  | .undef, _, _, _, _ => by simp only [VRel]
  | .bool _, _, _, _, hv => by simpa only [VRel] using hv
  | .int _ _, _, _, _, hv => by simpa only [VRel] using hv
  | .str _, _, _, _, hv => by simpa only [VRel] using hv
  | .ptr _ _, _, _, h0, hv => by
    simp only [VRel] at h0 hv ⊢
    obtain ⟨e0, he0, _⟩ := h0
    obtain ⟨e, he, hv⟩ := hv
    rw [h _ _ he0] at he; cases he
    exact ⟨e0, he0, hv⟩
  | .nilptr, _, _, _, hv => by simpa only [VRel] using hv
  | .slice _ _ _ (.k _), _, _, h0, hv => by
    simp only [VRel] at h0 hv ⊢
    obtain ⟨e0, he0, _⟩ := h0
    obtain ⟨e, he, hv⟩ := hv
    rw [h _ _ he0] at he; cases he
    exact ⟨e0, he0, hv⟩
  | .slice _ _ _ (.g _), _, _, h0, hv => by
    simp only [VRel] at h0 hv ⊢
    obtain ⟨e0, _, he0, _⟩ := h0
    obtain ⟨e, c, he, hv⟩ := hv
    rw [h _ _ he0] at he; cases he
    exact ⟨e0, c, he0, hv⟩
  | .zslice, _, _, _, hv => by simpa only [VRel] using hv
  | .nilslice, _, _, _, hv => by simpa only [VRel] using hv
  | .map _, _, _, h0, hv => by
    simp only [VRel] at h0 hv ⊢
    obtain ⟨e0, he0, _⟩ := h0
    obtain ⟨e, he, hv⟩ := hv
    rw [h _ _ he0] at he; cases he
    exact ⟨e0, he0, hv⟩
  | .nilmap, _, _, _, hv => by simpa only [VRel] using hv
  | .func _ first cap, _, _, h0, hv => by
    simp only [VRel] at h0 hv ⊢
    obtain ⟨cs0, ds0, _, h1, h2⟩ := h0
    obtain ⟨cs, ds, hv, h3, h4⟩ := hv
    exact ⟨cs, ds, hv, VRels.down h first _ _ h1 h3, VRels.down h cap _ _ h2 h4⟩
  | .yield _, _, _, h0, hv => by
    simp only [VRel] at h0 hv ⊢
    obtain ⟨e0, he0, _⟩ := h0
    obtain ⟨e, he, hv⟩ := hv
    rw [h _ _ he0] at he; cases he
    exact ⟨e0, he0, hv⟩
  | .nilfunc, _, _, _, hv => by simpa only [VRel] using hv
  | .iface _ x, _, _, h0, hv => by
    simp only [VRel] at h0 hv ⊢
    obtain ⟨y0, _, h1⟩ := h0
    obtain ⟨y, hv, h2⟩ := hv
    exact ⟨y, hv, VRel.down h x _ _ h1 h2⟩
  | .niliface, _, _, _, hv => by simpa only [VRel] using hv
  | .agg l, _, _, h0, hv => by
    simp only [VRel] at h0 hv ⊢
    obtain ⟨y0, _, h1⟩ := h0
    obtain ⟨y, hv, h2⟩ := hv
    exact ⟨y, hv, VRels.down h l _ _ h1 h2⟩
  | .tup l, _, _, h0, hv => by
    simp only [VRel] at h0 hv ⊢
    obtain ⟨y0, _, h1⟩ := h0
    obtain ⟨y, hv, h2⟩ := hv
    exact ⟨y, hv, VRels.down h l _ _ h1 h2⟩
  | .cls _ _, _, _, _, hv => by simpa only [VRel] using hv
theorem VRels.down {σ τ : Sg} (h : σ.le τ) : ∀ (l : List AV) (x0 x : List Value), VRels σ l x0 → VRels τ l x → VRels σ l x
  | [], _, _, _, hv => by simpa only [VRels] using hv
  | v :: l, _, _, h0, hv => by
    simp only [VRels] at h0 hv ⊢
    obtain ⟨u0, r0, _, h1, h2⟩ := h0
    obtain ⟨u, r, hv, h3, h4⟩ := hv
    exact ⟨u, r, hv, VRel.down h v _ _ h1 h3, VRels.down h l _ _ h2 h4⟩
end
theorem ESRel.down {σ τ : Sg} (h : σ.le τ) : ∀ (l : List (AV × AV × Nat)) (x0 x : List MapEntry), ESRel σ l x0 → ESRel τ l x → ESRel σ l x
  | [], _, _, _, hv => hv
  | (k, v, b) :: l, _, _, h0, hv => by
    simp only [ESRel] at h0 hv ⊢
    obtain ⟨c0, r0, _, h1, h2, _, h3⟩ := h0
    obtain ⟨c, r, hv, g1, g2, g3, g4⟩ := hv
    exact ⟨c, r, hv, VRel.down h k _ _ h1 g1, VRel.down h v _ _ h2 g2, g3, ESRel.down h l _ _ h3 g4⟩
theorem OR.down {σ τ : Sg} (h : σ.le τ) {e : Ent} {ob0 ob : Obj} : ∀ (o : AO), OR P σ e ob0 o → OR P τ e ob o → OR P σ e ob o
  | .cells l et g z, ⟨c0, fz0, _, _, h1, _⟩, ⟨c, fz, k1, k2, k3, k4⟩ => ⟨c, fz, k1, k2, VRels.down h _ _ _ h1 k3, k4⟩
  | .map es clock, ⟨c0, _, h1, _⟩, ⟨c, k1, k2, k3⟩ => ⟨c, k1, ESRel.down h _ _ _ h1 k2, k3⟩
  | .siter _ _, _, hv => hv
  | .miter _ _ _ _, ⟨_, f0, hf0, _⟩, ⟨k0, f, hf, hv⟩ => by
    rw [h _ _ hf0] at hf; cases hf
    exact ⟨k0, f0, hf0, hv⟩
  | .miternil, _, hv => hv
  | .mitR _ _ _, ⟨_, f0, _, _, hf0, _⟩, ⟨k0, f, a, b, hf, hv⟩ => by
    rw [h _ _ hf0] at hf; cases hf
    exact ⟨k0, f0, a, b, hf0, hv⟩

/-! ### the rounds -/
theorem rounds_spec {nx more i m : Ix} {last : Nat} {b : ICode} {T : TM} {A : AW} : ∀ {es : List (AV × AV × Nat)} {outs0 outs : List (AX × TM)}, rounds E nx more i m last b T A es outs0 = some outs →
    (∀ o, o ∈ outs → o ∈ outs0 ∨ ∃ k v born r, (k, v, born) ∈ es ∧ E b ((T.set (.tup [.bool true, k, v]) nx).set (.bool true) more) { cur := Tr.set (.mitR m born last) .leaf i, olds := A.cur :: A.olds, nx := A.nx } = some r ∧ r.x ≠ .normal) ∧
    (∀ o, o ∈ outs0 → o ∈ outs) ∧ ∀ k v born, (k, v, born) ∈ es → ∃ r, E b ((T.set (.tup [.bool true, k, v]) nx).set (.bool true) more) { cur := Tr.set (.mitR m born last) .leaf i, olds := A.cur :: A.olds, nx := A.nx } = some r ∧
      ((r.x = .normal ∧ ∃ m' b' l', r.A.get i = some (.mitR m' b' l')) ∨ (r.x ≠ .normal ∧ (r.x, r.T) ∈ outs))
  | [], outs0, outs, h => by
    simp only [rounds] at h; cases h
    exact ⟨fun _ h => .inl h, fun _ h => h, fun _ _ _ h => by cases h⟩
  | (k, v, born) :: es, outs0, outs, h => by
    simp only [rounds] at h
    split at h
    · rename_i r hr
      split at h
      · rename_i hx
        split at h
        · rename_i m' b' l' hi
          obtain ⟨h0, h1, h2⟩ := rounds_spec h
          refine ⟨fun o ho => (h0 o ho).imp id (fun ⟨k, v, b, r, g1, g2⟩ => ⟨k, v, b, r, List.mem_cons_of_mem _ g1, g2⟩), h1, fun k' v' b'' hm => ?_⟩
          cases hm with
          | head => exact ⟨r, hr, .inl ⟨hx, m', b', l', hi⟩⟩
          | tail _ hm => exact h2 k' v' b'' hm
        · cases h
      · rename_i hx
        obtain ⟨h0, h1, h2⟩ := rounds_spec h
        refine ⟨fun o ho => ?_, fun o ho => h1 o (List.mem_append_left _ ho), fun k' v' b'' hm => ?_⟩
        · rcases h0 o ho with g | ⟨k1, v1, b1, r1, g1, g2⟩
          · rcases List.mem_append.1 g with g | g
            · exact .inl g
            · exact .inr ⟨k, v, born, r, List.mem_cons_self .., hr, fun e => hx e⟩
          · exact .inr ⟨k1, v1, b1, r1, List.mem_cons_of_mem _ g1, g2⟩
        cases hm with
        | head => exact ⟨r, hr, .inr ⟨hx, h1 _ (List.mem_append_right _ (by simp))⟩⟩
        | tail _ hm => exact h2 k' v' b'' hm
    · cases h
theorem forget_at : ∀ (ps : List Ix) (T : TM) (p : Ix), (p ∈ ps → TM.at_ (forget ps T) p = .undef) ∧ (p ∉ ps → TM.at_ (forget ps T) p = TM.at_ T p)
  | [], T, p => ⟨fun h => (by cases h), fun _ => rfl⟩
  | q :: ps, T, p => by
    have ih := forget_at ps (T.set .undef q) p
    simp only [forget]
    constructor
    · intro h
      by_cases hp : p ∈ ps
      · exact ih.1 hp
      · rw [ih.2 hp]
        have : p = q := (List.mem_cons.1 h).resolve_right hp
        subst this
        simp [TM.at_, Tr.get_set_same]
    · intro h
      have h1 : p ≠ q := fun e => h (by rw [e]; exact List.mem_cons_self ..)
      have h2 : p ∉ ps := fun e => h (List.mem_cons_of_mem _ e)
      rw [ih.2 h2]
      simp only [TM.at_]
      rw [Tr.get_set_other _ _ _ _ h1]
theorem bytesEq_eq : ∀ {a b : List Nat}, bytesEq a b = true → a = b
  | [], [], _ => rfl
  | x :: a, y :: b, h => by
    simp only [bytesEq] at h
    split at h
    · rename_i hb
      rw [Nat.eq_of_beq_eq_true hb, bytesEq_eq h]
    · cases h
  | [], _ :: _, h => by simp [bytesEq] at h
  | _ :: _, [], h => by simp [bytesEq] at h
theorem avEq_eq {a b : AV} (h : avEq a b = true) : a = b := by
  unfold avEq at h
  split at h
  all_goals try simp only [Bool.and_eq_true, beq_iff_eq, decide_eq_true_eq] at h
  all_goals first
    | (obtain ⟨⟨⟨rfl, rfl⟩, rfl⟩, rfl⟩ := h; rfl)
    | (obtain ⟨rfl, rfl⟩ := h; rfl)
    | (subst h; rfl)
    | (rw [bytesEq_eq h])
    | rfl
    | (cases h; done)
/-- what all ways out agree on -/
theorem agree_rel {σ : Sg} {tmps : Array Value} {U : TM} : ∀ (ps : List Ix) (Ts : List TM) (T : TM), U ∈ Ts → TRel σ T tmps → (∀ p v, p ∈ ps → U.get p = some v → plainV v = true → ∀ t, Ix.ofTmp t = p → VRel σ v (tmps.getD t undef)) → TRel σ (agree ps Ts T) tmps
  | [], Ts, T, _, h, _ => h
  | p :: ps, Ts, T, hU, h, hp => by
    simp only [agree]
    apply agree_rel ps Ts _ hU
    · split
      · rename_i T1 rest
        split
        · rename_i v hv
          split
          · rename_i hc
            rw [Bool.and_eq_true] at hc
            have hUv : U.get p = some v := by
              cases hU with
              | head => exact hv
              | tail _ hU =>
                have := List.all_eq_true.1 hc.2 U hU
                split at this
                · rename_i u hu
                  rw [avEq_eq this]; exact hu
                · cases this
            intro t
            by_cases htp : p = Ix.ofTmp t
            · subst htp
              have := hp _ v (List.mem_cons_self ..) hUv hc.1 t rfl
              simpa [TM.at_, Tr.get_set_same] using this
            · have : TM.at_ (Tr.set v T p) (Ix.ofTmp t) = TM.at_ T (Ix.ofTmp t) := by
                simp only [TM.at_]; rw [Tr.get_set_other _ _ _ _ (fun e => htp e.symm)]
              rw [this]; exact h t
          · exact h
        · exact h
      · exact h
    · intro q v hq; exact hp q v (List.mem_cons_of_mem _ hq)
end Go.AE
namespace Go.AE
variable {P : Program} {F : Tr IFn} {E : ICode → TM → AW → Option AR}
theorem tail_ok (hS : Sound P E) {c : Code} {σ : Sg} {A : AW} {W : World} {a : Act} {r1 r : AR} (hG : GRel P σ) (hd : ∀ d, d ∈ dstsN c → d < a.tmps.size) (hc : c.wp P (Post P σ A W (dstsN c) a r1) a W)
    (hx : (r1.x = .normal ∧ E (compC P (.loop c)) r1.T r1.A = some r) ∨ (r1.x ≠ .normal ∧ r = r1)) (fr : Frame) (k : List Item) (cs : List Frame) :
    ∃ e a' w', Post P σ A W (dstsN c) a r e a' w' ∧ Arrives P (lone (fr.at a (.code c :: .inLoop c :: k)) cs W) fr k cs e a' w' := by
  obtain ⟨e, a1, w1, hp, harr⟩ := hc fr (.inLoop c :: k) cs
  have hp0 := hp
  obtain ⟨he, hdef1, hn1, hk1, σ1, hst1, hT1⟩ := hp
  rcases hx with ⟨hx, h⟩ | ⟨hx, rfl⟩
  · rw [hx] at he
    subst he
    obtain ⟨e2, a2, w2, hp2, harr2⟩ := hS.again c r1.T r1.A r h σ1 a1 w1 hst1.rel hT1 (hG.mono hst1.le) hdef1 (fun d hdd => by rw [hn1]; exact hd d hdd) fr k cs
    exact ⟨e2, a2, w2, Post.trans hst1 hn1 hk1 (fun _ h => h) (fun _ h => h) hp2, .of_steps harr harr2⟩
  · refine ⟨e, a1, w1, hp0, .pass (x := .inLoop c) rfl (fun _ _ => .inl ?_) harr⟩
    intro hne
    rw [he] at hne
    apply hx
    cases hrx : r.x <;> simp [hrx, exitOf] at hne ⊢
theorem isSeqNext_spec {ops : Array Oper} {it : Operand} {nx more : Nat} (h : isSeqNext ops = some (it, nx, more)) :
    ∃ x y, ops.toList = [x, y] ∧ x.op = .next it false ∧ x.dst = some nx ∧ y.op = .extract (.tmp nx) 0 ∧ y.dst = some more ∧ nx ≠ more ∧ x.guard = none ∧ y.guard = none := by
  unfold isSeqNext at h
  split at h
  · rename_i x y hl
    split at h
    · rename_i it' nx' t more' h1 h2 h3 h4
      split at h
      · rename_i hc
        cases h
        obtain ⟨rfl, h5, h6, h7⟩ := hc
        exact ⟨x, y, hl, h1, h2, h3, h4, h5, h6, h7⟩
      · cases h
    · cases h
  · cases h
/-- a step of the iterator and the look whether there was one -/
theorem next_region {id : Nat} {ops : Array Oper} {it : Operand} {nx more : Nat} (h : isSeqNext ops = some (it, nx, more)) {a : Act} {W W1 : World} {vs : Array Value} {v0 : Value} (hnx : nx < a.tmps.size)
    (hrun : ∀ ty, (Instr.next (a.eval it) false ty).run P W = .ok (.tuple vs) W1) (h0 : vs[0]? = some v0) {Q : Exit → Act → World → Prop} (hq : Q .normal ((a.put (some nx) (.tuple vs)).put (some more) v0) W1) :
    (Code.region id ops false).wp P Q a W := by
  obtain ⟨x, y, hl, h1, h2, h3, h4, h5, h6, h7⟩ := isSeqNext_spec h
  have hsz : ops.size = 2 := by rw [← Array.length_toList, hl]; rfl
  have e0 : ops[0]? = some x := by rw [← Array.getElem?_toList, hl]; rfl
  have e1 : ops[1]? = some y := by rw [← Array.getElem?_toList, hl]; rfl
  refine wp_region ?_
  rw [hsz]
  show wpOps P ops Q [0, 1] a W
  rw [wpOps_cons]
  have w0 : Region.wanted x (yielded ops a.tmps) = true := by simp [Region.wanted, h6]
  simp only [wpOp, e0, w0, if_true]
  left
  have r0 : (execOp a.eval x).run P W = .ok (.value (.tuple vs)) W1 := by
    simp only [execOp, h1, Sem.run_bind, hrun, Result.andThen_ok, Sem.run_pure]
  unfold Oper.wp
  rw [r0, Oper.upon_value, h2, wpOps_cons]
  have w1 : Region.wanted y (yielded ops (a.put (some nx) (.tuple vs)).tmps) = true := by simp [Region.wanted, h7]
  simp only [wpOp, e1, w1, if_true]
  left
  have ev : (a.put (some nx) (.tuple vs)).eval (.tmp nx) = .tuple vs := by simp [Act.eval, Act.put, hnx]
  have r1 : (execOp (a.put (some nx) (.tuple vs)).eval y).run P W1 = .ok (.value v0) W1 := by
    simp only [execOp, h3, ev, Instr.extract, h0, Sem.run_bind, Sem.run_pure, Result.andThen_ok]
  unfold Oper.wp
  rw [r1, Oper.upon_value, h4]
  exact hq
/-- what holds between two rounds -/
structure RInv (P : Program) (σ : Sg) (A A1 : AW) (W : World) (a0 : Act) (ds : List Nat) (T0 : TM) (blk mb since last : Nat) (s : Array Nat) (a : Act) (W' : World) : Prop where
  st : Step P σ A W σ A1 W'
  tr : TRel σ T0 a.tmps
  df : a.defers = []
  sz : a.tmps.size = a0.tmps.size
  kp : ∀ t, t ∉ ds → a.tmps.getD t undef = a0.tmps.getD t undef
  it : W'.heap[blk]? = some (.mapIter (some mb) since s last)
theorem drop_get {A A1 : AW} {i : Ix} (h : A.drop i = some A1) {x : Ix} (hx : x ≠ i) : A1.get x = A.get x := (AW.drop_some h).2.2.1 x hx
theorem plain_rel {σ τ : Sg} {v : AV} {x : Value} (hp : plainV v = true) (h : VRel σ v x) : VRel τ v x := by
  cases v <;> simp [plainV] at hp <;> simpa only [VRel] using h
section
variable {σ : Sg} {A A1 : AW} {W : World} {i m : Ix} {since last : Nat} {seen : List Nat} {ei fm : Ent}
/-- the world in which a round runs -/
def roundA (A : AW) (i m : Ix) (born last : Nat) : AW := { cur := Tr.set (.mitR m born last) .leaf i, olds := A.cur :: A.olds, nx := A.nx }
theorem roundA_same (A : AW) (i m : Ix) (born last : Nat) : (roundA A i m born last).get i = some (.mitR m born last) := by
  simp [roundA, AW.get, Tr.get_set_same]
theorem roundA_other (A : AW) (i m : Ix) (born last : Nat) {x : Ix} (h : x ≠ i) : (roundA A i m born last).get x = A.get x := by
  simp only [roundA, AW.get, Tr.get_set_other _ _ _ _ h, Tr.get, olds_get]
theorem roundA_live {born : Nat} (hi : A.get i = some (.miter m since seen last)) {x : Ix} (h : ((roundA A i m born last).get x).isSome = true) : (A.get x).isSome = true := by
  by_cases hx : x = i
  · subst hx; rw [hi]; rfl
  · rw [roundA_other _ _ _ _ _ hx] at h; exact h
theorem round_start (hW : WRel P σ A W) (hi : A.get i = some (.miter m since seen last)) (hei : σ i = some ei) (hdrop : A.drop i = some A1) {W' W2 : World} {born : Nat} {s : Array Nat} (hst : Step P σ A W σ A1 W')
    (h2 : W2.heap = W'.heap.setIfInBounds ei.blk (.mapIter (some fm.blk) since (s.push born) last)) (hsz : ei.blk < W'.heap.size) (hfm : σ m = some fm) (hsh : ei.sh = 0) :
    WRel P σ (roundA A i m born last) W2 where
  obj := fun a o ha => by
    by_cases hai : a = i
    · subst hai
      rw [roundA_same] at ha; cases ha
      exact ⟨ei, _, hei, by rw [h2]; simp [hsz], hsh, fm, since, s.push born, hfm, rfl, by simp⟩
    · rw [roundA_other _ _ _ _ _ hai] at ha
      obtain ⟨e, ob, he, hb, ho⟩ := hst.rel.obj a o (by rw [drop_get hdrop hai]; exact ha)
      refine ⟨e, ob, he, ?_, ho⟩
      have := hW.inj a i e ei (by rw [ha]; rfl) (by rw [hi]; rfl) he hei hai
      rw [h2]; simp [Ne.symm this, hb]
  inj := fun a b e f ha hb he hf hab => hW.inj a b e f (roundA_live hi ha) (roundA_live hi hb) he hf hab
  fresh := hW.fresh
theorem round_end (hW : WRel P σ A W) (hi : A.get i = some (.miter m since seen last)) (hei : σ i = some ei) (hdrop : A.drop i = some A1) {W' W2 W3 : World} {born : Nat} {s : Array Nat} (hst : Step P σ A W σ A1 W')
    (h2 : W2.heap = W'.heap.setIfInBounds ei.blk (.mapIter (some fm.blk) since (s.push born) last)) (h2o : W2.os = W'.os ∧ W2.output = W'.output) (hrs : WRel P σ (roundA A i m born last) W2)
    {σ3 : Sg} {A3 : AW} (h3 : Step P σ (roundA A i m born last) W2 σ3 A3 W3) : Step P σ A W σ A1 W3 := by
  obtain ⟨_, d1, d2, d3, d4⟩ := AW.drop_some hdrop
  have hne : ∀ {x : Ix} {o : AO}, A1.get x = some o → x ≠ i ∧ A.get x = some o := by
    intro x o hx
    have : x ≠ i := fun e => by rw [e, d1] at hx; cases hx
    exact ⟨this, by rw [← d2 x this]; exact hx⟩
  have hA3 : ∀ {x : Ix} {o : AO}, A1.get x = some o → A3.get x = some o := by
    intro x o hx
    obtain ⟨hxi, hx⟩ := hne hx
    obtain ⟨e, _, he, _⟩ := hW.obj x o hx
    have hlt := hW.fresh x e he
    have hc : A3.cur.get x = none := by
      cases hq : A3.cur.get x with
      | none => rfl
      | some o' =>
        rcases h3.cdom x (by rw [hq]; rfl) with h | h
        · simp only [roundA, Tr.get_set_other _ _ _ _ hxi, Tr.get] at h
          cases h
        · simp only [roundA] at h; omega
    have ho : A3.olds = A.cur :: A.olds := h3.olds
    simp only [AW.get, hc, ho, olds_get]
    exact hx
  have hs1 : W'.heap.size = W2.heap.size := by rw [h2]; simp
  exact {
    le := .refl σ
    rel := {
      obj := fun x o hx => by
        obtain ⟨hxi, hx0⟩ := hne hx
        obtain ⟨e, ob0, he, _, ho0⟩ := hrs.obj x o (by rw [roundA_other _ _ _ _ _ hxi]; exact hx0)
        obtain ⟨e3, ob3, he3, hb3, ho3⟩ := h3.rel.obj x o (hA3 hx)
        rw [h3.le _ _ he] at he3; cases he3
        exact ⟨e, ob3, he, hb3, OR.down h3.le o ho0 ho3⟩
      inj := fun x y e f hx hy he hf hxy => by
        obtain ⟨o, ho⟩ := Option.isSome_iff_exists.1 hx
        obtain ⟨u, hu⟩ := Option.isSome_iff_exists.1 hy
        exact hW.inj x y e f (by rw [(hne ho).2]; rfl) (by rw [(hne hu).2]; rfl) he hf hxy
      fresh := fun x e he => by rw [d4]; exact hW.fresh x e he }
    size := by have := hst.size; have := h3.size; omega
    pres := fun b hb hn => by
      have hb1 := hst.size
      rw [h3.pres b (by omega) (fun x e hx he => hn x e (roundA_live hi hx) he)]
      have := hn i ei (by rw [hi]; rfl) hei
      rw [h2]
      simp only [Array.getElem?_setIfInBounds_ne this]
      exact hst.pres b hb hn
    img := fun x e hx he _ => by
      obtain ⟨o, ho⟩ := Option.isSome_iff_exists.1 hx
      exact ⟨x, e, by rw [(hne ho).2]; rfl, he, rfl⟩
    olds := d3
    nx := by rw [d4]; exact Nat.le_refl _
    dom := fun _ _ h => .inl h
    cdom := fun x hx => .inl (AW.drop_cur hdrop hx)
    keepA := fun x m' b' l' _ hx => (hne hx).2
    keepH := fun x m' b' l' e hlt hx he => by
      obtain ⟨hxi, hx0⟩ := hne hx
      have := hW.inj x i e ei (by rw [hx0]; rfl) (by rw [hi]; rfl) he hei hxi
      rw [h3.keepH x m' b' l' e (by simp only [roundA]; exact hlt) (hA3 hx) he, h2]
      simp only [Array.getElem?_setIfInBounds_ne (Ne.symm this)]
      exact hst.keepH x m' b' l' e hlt hx he
    ro := fun x l et e hx he => by
      obtain ⟨g1, g2⟩ := hst.ro x l et e hx he
      refine ⟨g1, ?_⟩
      obtain ⟨hxi, _⟩ := hne g1
      have := hW.inj x i e ei (by rw [hx]; rfl) (by rw [hi]; rfl) he hei hxi
      rw [(h3.ro x l et e (by rw [roundA_other _ _ _ _ _ hxi]; exact hx) he).2, h2]
      simp only [Array.getElem?_setIfInBounds_ne (Ne.symm this)]
      exact g2
    io := ⟨(h3.io.1.trans h2o.1).trans hst.io.1, (h3.io.2.trans h2o.2).trans hst.io.2⟩ }
end
end Go.AE
namespace Go.AE
variable {P : Program} {F : Tr IFn} {E : ICode → TM → AW → Option AR}
theorem next_cases {W : World} {b mb clock : Nat} {ces : Array MapEntry} {seen : Array Nat} (hb : W.heap[b]? = some (.mapIter (some mb) clock seen clock)) (hm : W.heap[mb]? = some (.map ces clock))
    (hborn : ∀ c, c ∈ ces.toList → c.born < clock) :
    (∃ W1 : World, W1.heap = W.heap ∧ (W1.os = W.os ∧ W1.output = W.output) ∧ (∀ c, c ∈ ces.toList → seen.contains c.born = true) ∧ ∀ ty, (Instr.next (.pointer (some ⟨b, 0, none⟩)) false ty).run P W = .ok (.tuple #[.bool false]) W1) ∨
    (∃ (e : MapEntry) (W1 : World), e ∈ ces.toList ∧ seen.contains e.born = false ∧ W1.heap = W.heap.setIfInBounds b (.mapIter (some mb) clock (seen.push e.born) clock) ∧ (W1.os = W.os ∧ W1.output = W.output) ∧
      ∀ ty, (Instr.next (.pointer (some ⟨b, 0, none⟩)) false ty).run P W = .ok (.tuple #[.bool true, e.key, e.val]) W1) := by
  have hch : ∀ n, 0 < n → ∃ k w, (choose (.mapNext n)).run P W = .ok k w ∧ w.heap = W.heap ∧ (w.os = W.os ∧ w.output = W.output) ∧ k < n := by
    intro n hn
    by_cases h1 : n ≤ 1
    · exact ⟨0, W, by simp [choose, Sem.run, Question.forced, h1], rfl, ⟨rfl, rfl⟩, hn⟩
    · exact ⟨W.tape W.drawn (.mapNext n) % n, { W with drawn := W.drawn + 1 }, by simp [choose, Sem.run, Question.forced, h1, Question.cut], rfl, ⟨rfl, rfl⟩, Nat.mod_lt _ hn⟩
  have hr := fun ty => next_run (P := P) (ty := ty) hb hm hborn
  simp only [] at hr
  generalize hl : (ces.filter fun e => !seen.contains e.born) = left at hr
  by_cases he : left.isEmpty = true
  · left
    have : left = #[] := by simpa [Array.isEmpty_iff] using he
    subst this
    obtain ⟨k, w, h1, h2, h2o, h3⟩ := hch 1 (by omega)
    have hk : k = 0 := by omega
    subst hk
    refine ⟨w, h2, h2o, fun c hc => ?_, fun ty => ?_⟩
    · have := Array.filter_eq_empty_iff.1 hl
      have := this c (by simpa using hc)
      simpa using this
    rw [hr ty]
    have : ((if (#[] : Array MapEntry).isEmpty = true then #[none] else #[]) ++ Array.map some (#[] : Array MapEntry)) = #[none] := by simp
    rw [this]
    show ((choose (.mapNext 1)).run P W).andThen _ = _
    rw [h1]
    rfl
  · right
    have hne : left.isEmpty = false := by simpa using he
    have hcand : ((if left.isEmpty = true then #[none] else #[]) ++ left.map some) = left.map some := by rw [hne]; simp
    have hpos : 0 < left.size := by
      rcases Nat.eq_zero_or_pos left.size with h | h
      · exact absurd (by rw [Array.isEmpty_iff_size_eq_zero]; exact h) he
      · exact h
    obtain ⟨k, w, h1, h2, h2o, h3⟩ := hch left.size hpos
    have hmem : left[k] ∈ ces.filter fun e => !seen.contains e.born := hl ▸ Array.getElem_mem h3
    rw [Array.mem_filter] at hmem
    have hm1 : left[k] ∈ ces := hmem.1
    refine ⟨left[k], { w with heap := w.heap.setIfInBounds b (.mapIter (some mb) clock (seen.push left[k].born) clock) }, by simpa using hm1, by simpa using hmem.2, by simp [h2], h2o, fun ty => ?_⟩
    rw [hr ty, hcand]
    have hs : (Array.map some left).size = left.size := by simp
    rw [hs, h1]
    simp only [Result.andThen_ok]
    have : (Array.map some left)[k]? = some (some left[k]) := by simp [h3]
    rw [this]
theorem ESRel.mem {σ : Sg} : ∀ {es : List (AV × AV × Nat)} {ces : List MapEntry} {c : MapEntry}, ESRel σ es ces → c ∈ ces → ∃ k v, (k, v, c.born) ∈ es ∧ VRel σ k c.key ∧ VRel σ v c.val
  | [], _, c, h, hc => by simp only [ESRel] at h; subst h; cases hc
  | (k, v, b) :: es, _, c, h, hc => by
    simp only [ESRel] at h
    obtain ⟨c0, rest, rfl, h1, h2, h3, h4⟩ := h
    cases hc with
    | head => exact ⟨k, v, by rw [h3]; exact List.mem_cons_self .., h1, h2⟩
    | tail _ hc =>
      obtain ⟨k', v', g1, g2, g3⟩ := ESRel.mem h4 hc
      exact ⟨k', v', List.mem_cons_of_mem _ g1, g2, g3⟩
theorem ESRel.mem' {σ : Sg} : ∀ {es : List (AV × AV × Nat)} {ces : List MapEntry} {k v : AV} {b : Nat}, ESRel σ es ces → (k, v, b) ∈ es → ∃ c, c ∈ ces ∧ c.born = b
  | (k', v', b') :: es, _, k, v, b, h, hc => by
    simp only [ESRel] at h
    obtain ⟨c0, rest, rfl, h1, h2, h3, h4⟩ := h
    cases hc with
    | head => exact ⟨c0, List.mem_cons_self .., h3⟩
    | tail _ hc =>
      obtain ⟨c, g1, g2⟩ := ESRel.mem' h4 hc
      exact ⟨c, List.mem_cons_of_mem _ g1, g2⟩
theorem unseen_mem {seen : List Nat} : ∀ {es : List (AV × AV × Nat)} {k v : AV} {b : Nat}, (k, v, b) ∈ unseen seen es → (k, v, b) ∈ es ∧ seen.contains b = false
  | [], _, _, _, h => by simp [unseen] at h
  | (k', v', b') :: es, k, v, b, h => by
    simp only [unseen] at h
    split at h
    · have := unseen_mem h
      exact ⟨List.mem_cons_of_mem _ this.1, this.2⟩
    · rename_i hb
      cases h with
      | head => exact ⟨List.mem_cons_self .., by simpa using hb⟩
      | tail _ h =>
        have := unseen_mem h
        exact ⟨List.mem_cons_of_mem _ this.1, this.2⟩
theorem bornsOk_uniq : ∀ {l : List (AV × AV × Nat)} {k v k' v' : AV} {b : Nat}, bornsOk l = true → (k, v, b) ∈ l → (k', v', b) ∈ l → k = k' ∧ v = v'
  | (k0, v0, b0) :: l, k, v, k', v', b, h, h1, h2 => by
    simp only [bornsOk] at h
    split at h
    · rename_i hall
      have hno : ∀ {x y : AV}, (x, y, b0) ∉ l := by
        intro x y hm
        have := List.all_eq_true.1 hall _ hm
        simp at this
      cases h1 with
      | head =>
        cases h2 with
        | head => exact ⟨rfl, rfl⟩
        | tail _ h2 => exact absurd h2 hno
      | tail _ h1 =>
        cases h2 with
        | head => exact absurd h1 hno
        | tail _ h2 => exact bornsOk_uniq h h1 h2
    · cases h
theorem mem_unseen {seen : List Nat} : ∀ {es : List (AV × AV × Nat)} {k v : AV} {b : Nat}, (k, v, b) ∈ es → seen.contains b = false → (k, v, b) ∈ unseen seen es
  | (k', v', b') :: es, k, v, b, h, hb => by
    simp only [unseen]
    cases h with
    | head => rw [if_neg (by rw [hb]; simp)]; exact List.mem_cons_self ..
    | tail _ h =>
      split
      · exact mem_unseen h hb
      · exact List.mem_cons_of_mem _ (mem_unseen h hb)
theorem filter_lt {α : Type} {p q : α → Bool} : ∀ {l : List α} {x : α}, (∀ y, q y = true → p y = true) → x ∈ l → p x = true → q x = false → (l.filter q).length < (l.filter p).length
  | y :: l, x, h, hx, h1, h2 => by
    have hle : ∀ l : List α, (l.filter q).length ≤ (l.filter p).length := by
      intro l
      induction l with
      | nil => simp
      | cons z l ih =>
        simp only [List.filter_cons]
        cases hq : q z with
        | true => rw [h z hq]; simp only [if_true, List.length_cons]; omega
        | false =>
          simp only [Bool.false_eq_true, if_false]
          split
          · simp only [List.length_cons]; omega
          · exact ih
    simp only [List.filter_cons]
    cases hx with
    | head =>
      rw [h1, h2]
      simp only [Bool.false_eq_true, if_false, if_true, List.length_cons]
      have := hle l; omega
    | tail _ hx =>
      have ih := filter_lt h hx h1 h2
      cases hq : q y with
      | true => rw [h y hq]; simp only [if_true, List.length_cons]; omega
      | false =>
        simp only [Bool.false_eq_true, if_false]
        split
        · simp only [List.length_cons]; omega
        · exact ih
theorem stepOf_next {ops : Array Oper} {it : Operand} {it' : Arg} {nx more : Nat} (h : isSeqNext ops = some (it, nx, more)) (ha : argOf P it = some it') :
    ops.toList.map (stepOf P ops) = [⟨some (Ix.ofTmp nx), none, .nextm it'⟩, ⟨some (Ix.ofTmp more), none, .extract 0 (.t (Ix.ofTmp nx))⟩] := by
  obtain ⟨x, y, hl, h1, h2, h3, h4, h5, h6, h7⟩ := isSeqNext_spec h
  rw [hl]
  simp only [List.map_cons, List.map_nil]
  have e1 : stepOf P ops x = ⟨some (Ix.ofTmp nx), none, .nextm it'⟩ := by
    have hg : guardOf ops x = some none := by simp [guardOf, h6]
    have hc : compO P x = some (.nextm it') := by simp [compO, h1, ha]
    simp [stepOf, hg, hc, h2]
  have e2 : stepOf P ops y = ⟨some (Ix.ofTmp more), none, .extract 0 (.t (Ix.ofTmp nx))⟩ := by
    have hg : guardOf ops y = some none := by simp [guardOf, h7]
    have hc : compO P y = some (.extract 0 (.t (Ix.ofTmp nx))) := by simp [compO, h3, argOf]
    simp [stepOf, hg, hc, h4]
  rw [e1, e2]
end Go.AE
namespace Go.AE
variable {P : Program} {F : Tr IFn} {E : ICode → TM → AW → Option AR}
theorem dsts_seqNext {id : Nat} {ops : Array Oper} {rest : Code} {it : Operand} {nx more : Nat} (h : isSeqNext ops = some (it, nx, more)) (t : Nat) : t ∈ dstsN (.seq (.region id ops false) rest) ↔ t = nx ∨ t = more ∨ t ∈ dstsN rest := by
  obtain ⟨x, y, hl, h1, h2, h3, h4, h5, h6, h7⟩ := isSeqNext_spec h
  simp only [dstsN, hl, List.mem_append, List.filterMap_cons, h2, h4, List.filterMap_nil, List.mem_cons, List.not_mem_nil, or_false, or_assoc]
theorem T0_rel {σ : Sg} {T : TM} {a : Act} {id : Nat} {ops : Array Oper} {rest : Code} {it : Operand} {nx more : Nat} (h : isSeqNext ops = some (it, nx, more)) (hT : TRel σ T a.tmps) {tmps : Array Value}
    (hk : ∀ t, t ∉ dstsN (.seq (.region id ops false) rest) → tmps.getD t undef = a.tmps.getD t undef) :
    TRel σ (forget (Ix.ofTmp nx :: Ix.ofTmp more :: (dstsN rest).eraseDups.map Ix.ofTmp) T) tmps := by
  intro t
  by_cases ht : Ix.ofTmp t ∈ Ix.ofTmp nx :: Ix.ofTmp more :: (dstsN rest).eraseDups.map Ix.ofTmp
  · rw [(forget_at _ T _).1 ht]; simp only [VRel]
  · rw [(forget_at _ T _).2 ht]
    have : t ∉ dstsN (.seq (.region id ops false) rest) := by
      intro hc
      apply ht
      rcases (dsts_seqNext h t).1 hc with rfl | rfl | hc
      · exact List.mem_cons_self ..
      · exact List.mem_cons_of_mem _ (List.mem_cons_self ..)
      · exact List.mem_cons_of_mem _ (List.mem_cons_of_mem _ (List.mem_map.2 ⟨t, List.mem_eraseDups.2 hc, rfl⟩))
    rw [hk t this]
    exact hT t
theorem rounds_main (hS : Sound P E) {id : Nat} {ops : Array Oper} {rest : Code} {it : Operand} {nx more : Nat} {it' : Arg} (hseq : isSeqNext ops = some (it, nx, more)) (harg : argOf P it = some it') {T : TM} {A A1 : AW} {r : AR} {σ : Sg} {a : Act} {W : World}
    (hW : WRel P σ A W) (hT : TRel σ T a.tmps) (hG : GRel P σ) (hdef : a.defers = []) (hd : ∀ d, d ∈ dstsN (.seq (.region id ops false) rest) → d < a.tmps.size) {i m : Ix} {last : Nat} {seen : List Nat} {es left : List (AV × AV × Nat)}
    (hAi : A.get i = some (.miter m last seen last)) (hAm : A.get m = some (.map es last)) (hleft : unseen seen es = left) (hit0 : it'.ev (forget (Ix.ofTmp nx :: Ix.ofTmp more :: (dstsN rest).eraseDups.map Ix.ofTmp) T) = .ptr i 0) (hbo : bornsOk left = true) (hdrop : A.drop i = some A1)
    (h : (match rounds E (Ix.ofTmp nx) (Ix.ofTmp more) i m last (compC P rest) (forget (Ix.ofTmp nx :: Ix.ofTmp more :: (dstsN rest).eraseDups.map Ix.ofTmp) T) A left [] with
        | some [] => (match E (compC P rest) (((forget (Ix.ofTmp nx :: Ix.ofTmp more :: (dstsN rest).eraseDups.map Ix.ofTmp) T).set (.tup [.bool false]) (Ix.ofTmp nx)).set (.bool false) (Ix.ofTmp more)) A1 with
          | some r => (match r.x with
            | .normal => none
            | _ => some r)
          | none => none)
        | some ((x, T1) :: outs) =>
          if outs.all (fun o => o.1 = x) then some ⟨x, agree ((dstsN rest).eraseDups.map Ix.ofTmp) (T1 :: outs.map (·.2)) (forget (Ix.ofTmp nx :: Ix.ofTmp more :: (dstsN rest).eraseDups.map Ix.ofTmp) T), A1⟩
          else none
        | none => none) = some r) (fr : Frame) (k : List Item) (cs : List Frame) :
    ∃ e a' w', Post P σ A W (dstsN (.seq (.region id ops false) rest)) a r e a' w' ∧ Arrives P (lone (fr.at a (.code (.seq (.region id ops false) rest) :: .inLoop (.seq (.region id ops false) rest) :: k)) cs W) fr k cs e a' w' := by
  have hdn := dsts_seqNext (id := id) (rest := rest) hseq
  have hT0 : ∀ {tmps : Array Value}, (∀ t, t ∉ dstsN (.seq (.region id ops false) rest) → tmps.getD t undef = a.tmps.getD t undef) → TRel σ (forget (Ix.ofTmp nx :: Ix.ofTmp more :: (dstsN rest).eraseDups.map Ix.ofTmp) T) tmps := fun hk => T0_rel hseq hT hk
  have hdead : ∀ p, p ∈ (dstsN rest).eraseDups.map Ix.ofTmp → ∃ t, p = Ix.ofTmp t := fun p hp => by
    obtain ⟨t, _, rfl⟩ := List.mem_map.1 hp; exact ⟨t, rfl⟩
  generalize hT0e : forget (Ix.ofTmp nx :: Ix.ofTmp more :: (dstsN rest).eraseDups.map Ix.ofTmp) T = T0 at h hit0 hT0
  generalize hde : (dstsN rest).eraseDups.map Ix.ofTmp = dead at h hdead
  obtain ⟨ei, obi, hei, hbi, hsh, fm, hfm, rfl⟩ := hW.obj i _ hAi
  have hmi : m ≠ i := fun e => by rw [e, hAi] at hAm; cases hAm
  -- what the evaluator has found
  obtain ⟨outs, hro, hend, hout⟩ : ∃ outs, rounds E (Ix.ofTmp nx) (Ix.ofTmp more) i m last (compC P rest) T0 A left [] = some outs ∧
      (outs = [] → E (compC P rest) ((T0.set (.tup [.bool false]) (Ix.ofTmp nx)).set (.bool false) (Ix.ofTmp more)) A1 = some r ∧ r.x ≠ .normal) ∧
      (∀ o, o ∈ outs → o.1 = r.x ∧ r.A = A1 ∧ ∃ Ts, o.2 ∈ Ts ∧ r.T = agree dead Ts T0) := by
    split at h
    · rename_i hr
      refine ⟨[], hr, fun _ => ?_, fun o ho => by cases ho⟩
      split at h
      · rename_i r0 h0
        split at h
        · cases h
        · rename_i hx; cases h; exact ⟨h0, fun e => hx e⟩
      · cases h
    · rename_i x T1 outs hr
      split at h
      · rename_i hall
        cases h
        refine ⟨_, hr, fun e => by simp at e, fun o ho => ?_⟩
        cases ho with
        | head => exact ⟨rfl, rfl, _, List.mem_cons_self .., rfl⟩
        | tail _ ho =>
          have := List.all_eq_true.1 hall o ho
          exact ⟨by simpa using this, rfl, _, List.mem_cons_of_mem _ (List.mem_map.2 ⟨o, ho, rfl⟩), rfl⟩
      · cases h
    · cases h
  obtain ⟨hsp0, _, hsp⟩ := rounds_spec hro
  have hnxlt : nx < a.tmps.size := hd nx ((hdn nx).2 (.inl rfl))
  have hmlt : more < a.tmps.size := hd more ((hdn more).2 (.inr (.inl rfl)))
  have hnm : nx ≠ more := by obtain ⟨x, y, _, _, _, _, _, h5, _⟩ := isSeqNext_spec hseq; exact h5
  -- the rounds, from any of them on
  have key : ∀ (n : Nat) (s : Array Nat) (a' : Act) (W' : World), (es.filter fun p => !s.contains p.2.2).length = n → (∀ b, seen.contains b = true → s.contains b = true) →
      (∀ k v b, (k, v, b) ∈ left → s.contains b = true → ∃ r1, E (compC P rest) ((T0.set (.tup [.bool true, k, v]) (Ix.ofTmp nx)).set (.bool true) (Ix.ofTmp more)) (roundA A i m b last) = some r1 ∧ r1.x = .normal) →
      RInv P σ A A1 W a (dstsN (.seq (.region id ops false) rest)) T0 ei.blk fm.blk last last s a' W' →
      ∃ e a2 w2, Post P σ A W (dstsN (.seq (.region id ops false) rest)) a r e a2 w2 ∧ Arrives P (lone (fr.at a' (.code (.seq (.region id ops false) rest) :: .inLoop (.seq (.region id ops false) rest) :: k)) cs W') fr k cs e a2 w2 := by
    intro n
    induction n using Nat.strongRecOn with
    | _ n ih =>
      intro s a' W' hn hseen hnorm inv
      obtain ⟨em, obm, hem, hbm, ces, rfl, hes, hborn⟩ := inv.st.rel.obj m _ (by rw [drop_get hdrop hmi]; exact hAm)
      rw [hfm] at hem; cases hem
      have hx := arg_rel inv.tr hG harg
      rw [hit0] at hx
      simp only [VRel] at hx
      obtain ⟨ei', hei', hx⟩ := hx
      rw [hei] at hei'; cases hei'
      rw [hsh] at hx
      have hnx' : nx < a'.tmps.size := by rw [inv.sz]; exact hnxlt
      have hput : ∀ (x : Value) (y : Value) (X Y : AV), VRel σ X x → VRel σ Y y → TRel σ ((T0.set X (Ix.ofTmp nx)).set Y (Ix.ofTmp more)) ((a'.put (some nx) x).put (some more) y).tmps := by
        intro x y X Y hX hY
        have h1 := inv.tr.put (d := some nx) (fun t ht => by cases ht; exact hnx') hX
        exact h1.put (d := some more) (fun t ht => by cases ht; rw [put_size, inv.sz]; exact hmlt) hY
      have hkeep1 : ∀ (x y : Value) (t : Nat), t ∉ dstsN (.seq (.region id ops false) rest) → ((a'.put (some nx) x).put (some more) y).tmps.getD t undef = a.tmps.getD t undef := by
        intro x y t ht
        rw [put_other _ _ _ (fun e => by cases e; exact ht ((hdn _).2 (.inr (.inl rfl)))), put_other _ _ _ (fun e => by cases e; exact ht ((hdn _).2 (.inl rfl)))]
        exact inv.kp t ht
      rcases next_cases (P := P) inv.it hbm (hes.born hborn) with ⟨W1, hh1, hio1, hall, hrun⟩ | ⟨c, W1, hc, hcs, hh1, hio1, hrun⟩
      · -- none is left
        have ho : outs = [] := by
          cases hq : outs with
          | nil => rfl
          | cons o os =>
            exfalso
            rcases hsp0 o (by rw [hq]; exact List.mem_cons_self ..) with hb | ⟨k1, v1, b1, r1, g1, g2, g3⟩
            · cases hb
            · have := unseen_mem (hleft ▸ g1)
              obtain ⟨c, hc, hcb⟩ := hes.mem' this.1
              obtain ⟨r2, e2, x2⟩ := hnorm k1 v1 b1 g1 (hcb ▸ hall c hc)
              have : some r1 = some r2 := g2.symm.trans e2
              cases this
              exact g3 x2
        obtain ⟨hE, hxn⟩ := hend ho
        have hst1 := inv.st.heap' hh1 hio1
        have hwp : (Code.seq (.region id ops false) rest).wp P (Post P σ A W (dstsN (.seq (.region id ops false) rest)) a r) a' W' := by
          refine wp_seq (next_region hseq hnx' (fun ty => by rw [hx]; exact hrun ty) (v0 := .bool false) rfl ?_)
          refine wp_mono (hS.code rest _ A1 r hE σ _ W1 hst1.rel (hput _ _ _ _ (by simp only [VRel]; exact ⟨_, rfl, VRels.cons (by simp [VRel]) VRels.nil⟩) (by simp [VRel])) hG (by rw [put_defers, put_defers]; exact inv.df) (fun d hdd => by rw [put_size, put_size, inv.sz]; exact hd d ((hdn d).2 (.inr (.inr hdd))))) ?_
          intro e a2 w2 hp
          exact Post.trans hst1 (by rw [put_size, put_size]; exact inv.sz) (hkeep1 _ _) (fun _ h => h) (fun t h => (hdn t).2 (.inr (.inr h))) hp
        obtain ⟨e, a2, w2, hp, harr⟩ := hwp fr (.inLoop (.seq (.region id ops false) rest) :: k) cs
        refine ⟨e, a2, w2, hp, .pass (x := .inLoop _) rfl (fun _ _ => .inl ?_) harr⟩
        rw [hp.1]
        intro hne
        apply hxn
        cases hrx : r.x <;> simp [hrx, exitOf] at hne ⊢
      · -- one more
        obtain ⟨kk, vv, hmem, hk, hv⟩ := hes.mem hc
        have hnsee : seen.contains c.born = false := by
          cases hq : seen.contains c.born with
          | false => rfl
          | true => rw [hseen _ hq] at hcs; cases hcs
        have hmleft : (kk, vv, c.born) ∈ left := hleft ▸ mem_unseen hmem hnsee
        obtain ⟨r1, hE, hcase⟩ := hsp kk vv c.born hmleft
        have hblk : ei.blk < W'.heap.size := (Array.getElem?_eq_some_iff.1 inv.it).1
        have hrs := round_start hW hAi hei hdrop inv.st hh1 hblk hfm hsh
        have hwp : (Code.seq (.region id ops false) rest).wp P (fun e a2 w2 => e = exitOf r1.x ∧ a2.defers = [] ∧ a2.tmps.size = a.tmps.size ∧ (∀ t, t ∉ dstsN (.seq (.region id ops false) rest) → a2.tmps.getD t undef = a.tmps.getD t undef) ∧
            ∃ σ3, Step P σ (roundA A i m c.born last) W1 σ3 r1.A w2 ∧ TRel σ3 r1.T a2.tmps) a' W' := by
          refine wp_seq (next_region hseq hnx' (fun ty => by rw [hx]; exact hrun ty) (v0 := .bool true) rfl ?_)
          refine wp_mono (hS.code rest _ (roundA A i m c.born last) r1 hE σ _ W1 hrs (hput _ _ _ _ (by simp only [VRel]; exact ⟨_, rfl, VRels.cons (by simp [VRel]) (VRels.cons hk (VRels.cons hv VRels.nil))⟩) (by simp [VRel])) hG (by rw [put_defers, put_defers]; exact inv.df) (fun d hdd => by rw [put_size, put_size, inv.sz]; exact hd d ((hdn d).2 (.inr (.inr hdd))))) ?_
          rintro e a2 w2 ⟨g1, g2, g3, g4, g5⟩
          have : (fun e a2 w2 => e = exitOf r1.x ∧ a2.defers = [] ∧ a2.tmps.size = a.tmps.size ∧ (∀ t, t ∉ dstsN (.seq (.region id ops false) rest) → a2.tmps.getD t undef = a.tmps.getD t undef) ∧
            ∃ σ3, Step P σ (roundA A i m c.born last) W1 σ3 r1.A w2 ∧ TRel σ3 r1.T a2.tmps) e a2 w2 := ⟨g1, g2, by rw [g3, put_size, put_size]; exact inv.sz, fun t ht => by rw [g4 t (fun h => ht ((hdn t).2 (.inr (.inr h))))]; exact hkeep1 _ _ t ht, g5⟩
          exact this
        obtain ⟨e, a2, w2, ⟨he, hdf2, hsz2, hkp2, σ3, hst3, hT3⟩, harr⟩ := hwp fr (.inLoop (.seq (.region id ops false) rest) :: k) cs
        have hst2 := round_end hW hAi hei hdrop inv.st hh1 hio1 hrs hst3
        rcases hcase with ⟨hxn, m', b', l', hk3⟩ | ⟨hxn, hin⟩
        · -- on to the next
          rw [hxn] at he
          subst he
          have hilt := hW.fresh i ei hei
          have hit3 : w2.heap[ei.blk]? = some (.mapIter (some fm.blk) last (s.push c.born) last) := by
            rw [hst3.keepH i m' b' l' ei hilt hk3 hei, hh1]
            simp [hblk]
          have hlt : (es.filter fun p => !(s.push c.born).contains p.2.2).length < n := by
            rw [← hn]
            refine filter_lt (x := (kk, vv, c.born)) ?_ hmem (by simp [hcs]; simpa using hcs) (by simp)
            intro y hy
            simp at hy ⊢
            exact hy.1
          obtain ⟨e4, a4, w4, hp4, harr4⟩ := ih _ hlt (s.push c.born) a2 w2 rfl (fun b hb => by have := hseen b hb; simp at this ⊢; exact .inl this) (by
            intro k' v' b' hm' hc'
            simp at hc'
            rcases hc' with hc' | hc'
            · exact hnorm k' v' b' hm' (by simpa using hc')
            · subst hc'
              obtain ⟨rfl, rfl⟩ := bornsOk_uniq hbo hm' hmleft
              exact ⟨r1, hE, hxn⟩) ⟨hst2, hT0 hkp2, hdf2, hsz2, hkp2, hit3⟩
          exact ⟨e4, a4, w4, hp4, .of_steps (Steps.trans harr (.one step_inLoop)) harr4⟩
        · -- the way out
          obtain ⟨hrx, hrA, Ts, hTs, hrT⟩ := hout _ hin
          refine ⟨e, a2, w2, ⟨by rw [he, ← hrx], hdf2, hsz2, hkp2, σ, by rw [hrA]; exact hst2, ?_⟩, .pass (x := .inLoop _) rfl (fun _ _ => .inl ?_) harr⟩
          · rw [hrT]
            refine agree_rel dead Ts T0 hTs (hT0 hkp2) ?_
            intro p v hp hv hpl t ht
            subst ht
            have := hT3 t
            rw [at_some hv] at this
            exact plain_rel hpl this
          · rw [he]
            intro hne
            apply hxn
            cases hrx' : r1.x <;> simp [hrx', exitOf] at hne ⊢
  refine key _ seen.toArray a W rfl (fun b hb => by simpa using hb) ?_ ⟨Step.drop hW hdrop, hT0 (fun _ _ => rfl), hdef, rfl, fun _ _ => rfl, hbi⟩
  intro k' v' b' hm' hc'
  have := (unseen_mem (hleft ▸ hm')).2
  simp at hc'
  simp [hc'] at this
theorem msound (hS : Sound P E) (hF : FRel P F) : MSound P F E := by
  intro id ops rest it nx more it' hseq harg T A r h σ a W hW hT hG hdef hd fr k cs
  have hcomp : compC P (.loop (.seq (.region id ops false) rest)) = .mloop it' (Ix.ofTmp nx) (Ix.ofTmp more) ((dstsN rest).eraseDups.map Ix.ofTmp) (compC P rest) := by rw [compC_loop_seq, hseq]; simp only [harg]
  have hdn := dsts_seqNext (id := id) (rest := rest) hseq
  have plain : (match runSteps F E [⟨some (Ix.ofTmp nx), none, .nextm it'⟩, ⟨some (Ix.ofTmp more), none, .extract 0 (.t (Ix.ofTmp nx))⟩] T A with
        | some (T', A') => (match E (compC P rest) T' A' with
          | some r => (match r.x with
            | .normal => E (.mloop it' (Ix.ofTmp nx) (Ix.ofTmp more) ((dstsN rest).eraseDups.map Ix.ofTmp) (compC P rest)) r.T r.A
            | _ => some r)
          | none => none)
        | none => none) = some r → ∃ e a' w', Post P σ A W (dstsN (.seq (.region id ops false) rest)) a r e a' w' ∧ Arrives P (lone (fr.at a (.code (.seq (.region id ops false) rest) :: .inLoop (.seq (.region id ops false) rest) :: k)) cs W) fr k cs e a' w' := by
    intro h
    split at h
    · rename_i T' A' h1
      split at h
      · rename_i r1 h2
        rw [← stepOf_next hseq harg] at h1
        have hreg := reg_ok (id := id) hS hF hW hT hG hdef (fun d hdd => hd d (by simp only [dstsN, List.mem_append]; exact .inl hdd)) h1
        have hwp : (Code.seq (.region id ops false) rest).wp P (Post P σ A W (dstsN (.seq (.region id ops false) rest)) a r1) a W := by
          refine wp_seq (wp_mono hreg ?_)
          rintro e a1 w1 ⟨rfl, hdef1, hn1, hk1, σ1, hst1, hT1⟩
          refine wp_mono (hS.code rest T' A' r1 h2 σ1 a1 w1 hst1.rel hT1 (hG.mono hst1.le) hdef1 (fun d hdd => by rw [hn1]; exact hd d (by simp only [dstsN, List.mem_append]; exact .inr hdd))) ?_
          intro e2 a2 w2 hp2
          exact Post.trans hst1 hn1 hk1 (fun _ h => by simp only [dstsN, List.mem_append]; exact .inl h) (fun _ h => by simp only [dstsN, List.mem_append]; exact .inr h) hp2
        refine tail_ok hS hG hd hwp ?_ fr k cs
        split at h
        · rename_i hx; exact .inl ⟨hx, by rw [hcomp]; exact h⟩
        · rename_i hx; cases h; exact .inr ⟨hx, rfl⟩
      · cases h
    · cases h
  simp only [evStep] at h
  split at h
  · rename_i i hit
    split at h
    · rename_i m since seen last hAi
      split at h
      · rename_i es clock hAm
        split at h
        · rename_i hcl
          rw [Bool.and_eq_true] at hcl
          have hc1 := Nat.eq_of_beq_eq_true hcl.1
          have hc2 := Nat.eq_of_beq_eq_true hcl.2
          subst hc1 hc2
          split at h
          · -- the rounds
            clear plain
            generalize hleft : unseen seen es = left at h
            simp only [mrounds] at h
            split at h
            · rename_i i' hit0
              split at h
              · rename_i hii
                obtain ⟨hii, hbo⟩ := hii
                subst hii
                split at h
                · rename_i A1 hdrop
                  exact rounds_main hS hseq harg hW hT hG hdef hd hAi hAm hleft hit0 hbo hdrop h fr k cs
                · cases h
              · cases h
            · cases h
          · exact plain h
        · cases h
      · cases h
    · exact plain h
  · cases h
end Go.AE
namespace Go.AE
variable {P : Program} {F : Tr IFn} {E : ICode → TM → AW → Option AR}
/-- what an operation looks at -/
def IOp.args : IOp → List Arg
  | .mov x | .mos x | .mop x | .box _ x | .load x | .loadn _ x | .nilck x | .not x | .neg x | .bnot x | .conv _ x | .s2b _ x | .b2s x | .i2s x | .mkif _ x | .faddr _ x | .field _ _ x | .rangeS x | .rangeM x
  | .nexts x | .nextm x | .entry x | .tassert _ _ _ x | .extract _ x | .len _ x | .cap x | .clearm x | .usd x | .up2 x | .p2u _ _ x => [x]
  | .pick c a b => [c, a, b]
  | .alloc .. | .mkmap | .bad _ => []
  | .build _ ps | .bslice _ _ _ ps => ps.map (·.2.2)
  | .store x v | .storen _ x v => [x, v]
  | .bin _ x y | .eqv _ _ _ x y | .eqagg _ _ x y => [x, y]
  | .mkfn _ f c => f ++ c
  | .mkslice _ _ _ l c => [l, c]
  | .slstr x lo hi => x :: (lo.toList ++ hi.toList)
  | .slsl _ x lo hi mx => x :: (lo.toList ++ hi.toList ++ mx.toList)
  | .slarr _ _ x lo hi => x :: (lo.toList ++ hi.toList)
  | .iaddr _ x i | .iaddra _ _ x i | .idxs x i | .idxa _ _ _ x i => [x, i]
  | .lookup _ _ _ m k | .del _ m k | .mentry _ _ m k => [m, k]
  | .mupd _ m k v => [m, k, v]
  | .estore m s v => [m, s, v]
  | .append _ _ s x | .copy _ s x => [s, x]
  | .maxmin _ xs => xs
  | .call _ xs => xs
  | .callv x xs => x :: xs
  | .invoke _ x xs => x :: xs
  | .ustr _ p n => [p, n]
theorem placeParts_congr {T T' : TM} : ∀ {ps : List (Nat × Nat × Arg)} {z : List AV}, (∀ x, x ∈ ps.map (·.2.2) → x.ev T = x.ev T') → placeParts T z ps = placeParts T' z ps
  | [], z, _ => by simp [placeParts]
  | (off, n, x) :: ps, z, h => by
    have h1 := h x (by simp)
    simp only [placeParts, h1]
    split
    · rfl
    · split
      · split
        · exact placeParts_congr fun y hy => h y (by simp at hy ⊢; exact .inr hy)
        · rfl
      · rfl
theorem bndO_congr {T T' : TM} {y d : Nat} {x : Option Arg} (h : ∀ z, z ∈ x.toList → z.ev T = z.ev T') : bndO T y d x = bndO T' y d x := by
  cases x with
  | none => rfl
  | some z => simp only [bndO, h z (by simp)]
theorem map_congr {T T' : TM} : ∀ {xs : List Arg}, (∀ x, x ∈ xs → x.ev T = x.ev T') → xs.map (Arg.ev T) = xs.map (Arg.ev T')
  | [], _ => rfl
  | x :: xs, h => by rw [List.map_cons, List.map_cons, h x (List.mem_cons_self ..), map_congr fun y hy => h y (List.mem_cons_of_mem _ hy)]
theorem iop_congr {T T' : TM} {A : AW} {i : IOp} (h : ∀ x, x ∈ i.args → x.ev T = x.ev T') : iop T A i = iop T' A i := by
  cases i <;> simp only [IOp.args] at h
  case build z ps => simp only [iop, placeParts_congr h]
  case bslice e z l ps => simp only [iop, placeParts_congr h]
  case mkfn f a b => simp only [iop, map_congr (fun x hx => h x (List.mem_append_left _ hx)), map_congr (fun x hx => h x (List.mem_append_right _ hx))]
  case maxmin m xs => simp only [iop, map_congr h]
  case slstr x lo hi =>
    have h1 := h x (by simp)
    have h2 : ∀ z, z ∈ lo.toList → z.ev T = z.ev T' := fun z hz => h z (by simp at hz ⊢; exact .inr (.inl hz))
    have h3 : ∀ z, z ∈ hi.toList → z.ev T = z.ev T' := fun z hz => h z (by simp at hz ⊢; exact .inr (.inr hz))
    simp only [iop, h1, bndO_congr h2, bndO_congr h3]
  case slarr n e x lo hi =>
    have h1 := h x (by simp)
    have h2 : ∀ z, z ∈ lo.toList → z.ev T = z.ev T' := fun z hz => h z (by simp at hz ⊢; exact .inr (.inl hz))
    have h3 : ∀ z, z ∈ hi.toList → z.ev T = z.ev T' := fun z hz => h z (by simp at hz ⊢; exact .inr (.inr hz))
    simp only [iop, h1, bndO_congr h2, bndO_congr h3]
  case slsl e x lo hi mx =>
    have h1 := h x (by simp)
    have h2 : ∀ z, z ∈ lo.toList → z.ev T = z.ev T' := fun z hz => h z (by simp at hz ⊢; exact .inr (.inl hz))
    have h3 : ∀ z, z ∈ hi.toList → z.ev T = z.ev T' := fun z hz => h z (by simp at hz ⊢; exact .inr (.inr (.inl hz)))
    have h4 : ∀ z, z ∈ mx.toList → z.ev T = z.ev T' := fun z hz => h z (by simp at hz ⊢; exact .inr (.inr (.inr hz)))
    simp only [iop, h1]
    split
    · rw [bndO_congr h2, bndO_congr h3, bndO_congr h4]
    · rename_i p off len cap heq
      cases mx with
      | none => cases cap <;> simp only [bndO_congr h2, bndO_congr h3]
      | some m => simp only [bndO_congr h2, bndO_congr h3, bndO_congr h4]
    · simp only [bndO_congr h2, bndO_congr h3]
    · rfl
  all_goals first
    | rfl
    | (have h1 := h _ (List.mem_cons_self ..); simp only [iop, h1]; done)
    | (have h1 := h _ (List.mem_cons_self ..); have h2 := h _ (List.mem_cons_of_mem _ (List.mem_cons_self ..)); simp only [iop, h1, h2]; done)
    | (have h1 := h _ (List.mem_cons_self ..); have h2 := h _ (List.mem_cons_of_mem _ (List.mem_cons_self ..)); have h3 := h _ (List.mem_cons_of_mem _ (List.mem_cons_of_mem _ (List.mem_cons_self ..))); simp only [iop, h1, h2, h3]; done)
theorem runOp_congr {T T' : TM} {A : AW} {i : IOp} (h : ∀ x, x ∈ i.args → x.ev T = x.ev T') : runOp F E T A i = runOp F E T' A i := by
  cases i
  case call f xs => simp only [runOp, map_congr (T := T) (T' := T') (xs := xs) (fun x hx => h x hx)]
  case callv x xs => simp only [runOp, h x (List.mem_cons_self ..), map_congr (T := T) (T' := T') (xs := xs) (fun y hy => h y (List.mem_cons_of_mem _ hy))]
  case invoke t x xs => simp only [runOp, h x (List.mem_cons_self ..), map_congr (T := T) (T' := T') (xs := xs) (fun y hy => h y (List.mem_cons_of_mem _ hy))]
  all_goals first
    | rfl
    | exact iop_congr (A := A) h
theorem aop_congr {T T' : TM} {n : Ix} {i : IOp} (h : ∀ x, x ∈ i.args → x.ev T = x.ev T') : aop T n i = aop T' n i := by
  cases i <;> first | rfl | skip
  case box e x => simp only [aop, h x (by simp [IOp.args])]
  case bslice e z l ps => simp only [aop, placeParts_congr (T := T) (T' := T') (ps := ps) h]
  case s2b e x => simp only [aop, h x (by simp [IOp.args])]
  case mkslice e z b l c => simp only [aop, h l (by simp [IOp.args]), h c (by simp [IOp.args])]
theorem mapM_args : ∀ {xs : List Operand} {ys : List Arg}, xs.mapM (argOf P) = some ys → ∀ y, y ∈ ys → ∃ x, x ∈ xs ∧ argOf P x = some y
  | [], ys, h, y, hy => by simp at h; subst h; cases hy
  | x :: xs, ys, h, y, hy => by
    simp only [List.mapM_cons, Option.bind_eq_bind, Option.bind_eq_some_iff, Option.pure_def, Option.some.injEq] at h
    obtain ⟨z, hz, zs, hzs, rfl⟩ := h
    cases hy with
    | head => exact ⟨x, List.mem_cons_self .., hz⟩
    | tail _ hy =>
      obtain ⟨u, h1, h2⟩ := mapM_args hzs y hy
      exact ⟨u, List.mem_cons_of_mem _ h1, h2⟩
theorem opt_args {x : Option Operand} {y : Option Arg} (h : optArg P x = some y) : ∀ z, z ∈ y.toList → ∃ u, u ∈ x.toList ∧ argOf P u = some z := by
  intro z hz
  cases x with
  | none => simp only [optArg] at h; cases h; cases hz
  | some u =>
    simp only [optArg, Option.map_eq_some_iff] at h
    obtain ⟨w, hw, rfl⟩ := h
    simp at hz
    subst hz
    exact ⟨u, by simp, hw⟩
theorem parts_args {place : Nat → Option (Nat × Nat)} : ∀ {parts : List (Nat × Operand)} {ps : List (Nat × Nat × Arg)}, parts.mapM (fun (i, x) => do
        let (off, n) ← place i
        let y ← argOf P x
        pure (off, n, y)) = some ps → ∀ y, y ∈ ps.map (·.2.2) → ∃ x, x ∈ parts.map (·.2) ∧ argOf P x = some y
  | [], ps, h, y, hy => by simp at h; subst h; cases hy
  | (i, x) :: parts, ps, h, y, hy => by
    simp only [List.mapM_cons, Option.bind_eq_bind, Option.bind_eq_some_iff, Option.pure_def, Option.some.injEq] at h
    obtain ⟨q, ⟨⟨off, n⟩, hp, z, hz, rfl⟩, ys, hys, rfl⟩ := h
    simp only [List.map_cons, List.mem_cons] at hy
    rcases hy with rfl | hy
    · exact ⟨x, by simp, hz⟩
    · obtain ⟨u, h1, h2⟩ := parts_args (place := place) hys y hy
      exact ⟨u, by simp only [List.map_cons, List.mem_cons]; exact .inr h1, h2⟩
theorem partsOf_args {t : TypeId} {parts : Array (Nat × Operand)} {ps : List (Nat × Nat × Arg)} (h : partsOf P t parts = some ps) : ∀ y, y ∈ ps.map (·.2.2) → ∃ x, x ∈ parts.toList.map (·.2) ∧ argOf P x = some y := by
  unfold partsOf at h
  split at h
  · rename_i fields hu
    simp only [Option.bind_eq_bind, Option.bind_eq_some_iff] at h
    obtain ⟨places, _, h⟩ := h
    exact parts_args (place := (places[·]?)) h
  · rename_i n e hu
    simp only [Option.bind_eq_bind, Option.bind_eq_some_iff] at h
    obtain ⟨k, _, h⟩ := h
    exact parts_args (P := P) (place := fun i => some (i * k, k)) h
  · rename_i e hu
    simp only [Option.bind_eq_bind, Option.bind_eq_some_iff] at h
    obtain ⟨k, _, h⟩ := h
    exact parts_args (P := P) (place := fun i => some (i * k, k)) h
  · cases h
/-- what a compiled operation looks at comes from its operands -/
theorem compO_args {o : Oper} {i : IOp} (hc : compO P o = some i) : ∀ y, y ∈ i.args → ∃ x, x ∈ o.op.operands.toList ∧ argOf P x = some y := by
  have mem1 : ∀ {x : Operand} {y z : Arg}, argOf P x = some z → y ∈ [z] → x ∈ o.op.operands.toList → ∃ x, x ∈ o.op.operands.toList ∧ argOf P x = some y := by
    intro x y z h hy hx
    simp at hy; subst hy; exact ⟨x, hx, h⟩
  cases hop : o.op
  case call c =>
    have hargs : ∀ x, x ∈ c.args.toList → x ∈ (Op.call c).operands.toList := by
      intro x hx; simp only [Op.operands, Call.operands, Array.toList_append, List.mem_append]; exact .inr hx
    simp only [compO, hop, Option.bind_eq_bind, Option.pure_def, Option.bind_eq_some_iff, Option.some.injEq] at hc
    repeat' first
      | (cases hc; done)
      | (obtain ⟨_, _, hc⟩ := hc)
      | split at hc
      | (simp only [Option.bind_eq_some_iff, Option.some.injEq, Bool.false_eq_true, if_false] at hc)
    all_goals try subst hc
    all_goals intro y hy
    all_goals simp only [IOp.args, List.mem_cons, List.mem_append, List.not_mem_nil, or_false, false_or] at hy
    all_goals first
      | (subst hy; refine ⟨_, hargs _ ?_, (by assumption)⟩; simp [*]; done)
      | (rcases hy with rfl | rfl <;> (refine ⟨_, hargs _ ?_, (by assumption)⟩; simp [*]); done)
      | (obtain ⟨u, h1, h2⟩ := mapM_args (by assumption) _ hy; exact ⟨u, hargs u h1, h2⟩)
      | (rcases hy with rfl | hy
         · refine ⟨_, ?_, (by assumption)⟩; simp [Op.operands, Call.operands, *]
         · obtain ⟨u, h1, h2⟩ := mapM_args (by assumption) _ hy; exact ⟨u, hargs u h1, h2⟩)

  case next it b =>
    cases b <;>
    · simp only [compO, hop, Option.bind_eq_bind, Option.pure_def, Option.bind_eq_some_iff, Option.some.injEq] at hc
      obtain ⟨z, hz, rfl⟩ := hc
      intro y hy
      simp only [IOp.args, List.mem_singleton] at hy
      subst hy
      exact ⟨it, by simp [Op.operands], hz⟩
  case makeMap t r =>
    cases r <;> simp only [compO, hop, Option.bind_eq_bind, Option.pure_def, Option.bind_eq_some_iff, Option.some.injEq] at hc
    · subst hc; intro y hy; cases hy
    · cases hc
  all_goals simp only [compO, hop, Option.bind_eq_bind, Option.pure_def, Option.bind_eq_some_iff, Option.some.injEq] at hc
  all_goals
    repeat' first
      | (cases hc; done)
      | (obtain ⟨_, _, hc⟩ := hc)
      | split at hc
      | (simp only [Option.bind_eq_some_iff, Option.some.injEq] at hc)
  all_goals try subst hc
  all_goals intro y hy
  all_goals simp only [IOp.args, List.mem_cons, List.mem_append, List.not_mem_nil, or_false, false_or] at hy
  all_goals first
    | (exact hy.elim)
    | (subst hy; refine ⟨_, ?_, (by assumption)⟩; simp [Op.operands]; done)
    | (rcases hy with rfl | rfl <;> (refine ⟨_, ?_, (by assumption)⟩; simp [Op.operands]); done)
    | (rcases hy with rfl | rfl | rfl <;> (refine ⟨_, ?_, (by assumption)⟩; simp [Op.operands]); done)
    | (obtain ⟨u, h1, h2⟩ := partsOf_args (by assumption) _ hy; refine ⟨u, ?_, h2⟩; simpa [Op.operands] using h1)
    | (rcases hy with hy | hy <;> (obtain ⟨u, h1, h2⟩ := mapM_args (by assumption) _ hy; refine ⟨u, ?_, h2⟩; simp [Op.operands]; first | exact .inl (by simpa using h1) | exact .inr (by simpa using h1)))
    | (rcases hy with rfl | hy | hy
       · refine ⟨_, ?_, (by assumption)⟩; simp [Op.operands]
       · obtain ⟨u, h1, h2⟩ := opt_args (by assumption) _ hy; refine ⟨u, ?_, h2⟩; simp [Op.operands]; simp at h1; simp [h1]
       · obtain ⟨u, h1, h2⟩ := opt_args (by assumption) _ hy; refine ⟨u, ?_, h2⟩; simp [Op.operands]; simp at h1; simp [h1])
    | (rcases hy with rfl | (hy | hy) | hy
       · refine ⟨_, ?_, (by assumption)⟩; simp [Op.operands]
       · obtain ⟨u, h1, h2⟩ := opt_args (by assumption) _ hy; refine ⟨u, ?_, h2⟩; simp [Op.operands]; simp at h1; simp [h1]
       · obtain ⟨u, h1, h2⟩ := opt_args (by assumption) _ hy; refine ⟨u, ?_, h2⟩; simp [Op.operands]; simp at h1; simp [h1]
       · obtain ⟨u, h1, h2⟩ := opt_args (by assumption) _ hy; refine ⟨u, ?_, h2⟩; simp [Op.operands]; simp at h1; simp [h1])

end Go.AE
namespace Go.AE
variable {P : Program} {σ : Sg} {A : AW} {W : World} {T : TM} {a : Act}
/-- one new object, whatever its name -/
def NewR (P : Program) (σ : Sg) (W : World) (r : Result Value) (vOf : Ix → AV) (o : AO) : Prop :=
  ∃ cv ob sh tot drawn, r = .ok cv { W with heap := W.heap.push ob, drawn := drawn } ∧ (∀ τ, σ.le τ → OR P τ ⟨W.heap.size, sh, tot⟩ ob o) ∧ ∀ (τ : Sg) (n : Ix), τ n = some ⟨W.heap.size, sh, tot⟩ → VRel τ (vOf n) cv
theorem box_new {e : TypeId} {x : Value} {y : AV} (hx : VRel σ y x) (hy : y.isU = false) : NewR P σ W ((Instr.box e x).run P W) (fun n => .ptr n 0) (.cells y.cells e false false) := by
  have hc := hx.cells hy
  refine ⟨.pointer (some ⟨W.heap.size, 0, none⟩), .cells x.cells e, 0, 0, W.drawn, ?_, ?_, ?_⟩
  rotate_left 1
  rotate_left 1
  · intro τ n hn; simp [VRel, hn]
  · simp [Instr.box, newVar, newRow]
  · intro τ hτ
    have hl := hc.length
    refine ⟨x.cells, (0, 0), rfl, ?_, ?_, ?_, by simp, by simp⟩
    · simp only [Array.length_toList] at hl; show 0 + _ ≤ _; omega
    · simp only [List.drop_zero]
      rw [List.take_of_length_le (by rw [hl]; exact Nat.le_refl _)]
      exact VRels.mono hτ _ _ hc
    · intro _; simp only [Array.length_toList] at hl; exact ⟨rfl, hl⟩
theorem alloc_new {e : TypeId} {z : AV} (hz : zeroOf P e = some z) : NewR P σ W ((Instr.alloc e true (.tuple #[])).run P W) (fun n => .ptr n 0) (.cells z.cells e false false) := by
  obtain ⟨v, hv, hr⟩ := zeroValue_run (σ := σ) hz W
  obtain ⟨cv, ob, sh, tot, dr, h1, h2, h3⟩ := box_new (P := P) (W := W) (e := e) hr (zeroOf_spec hz).1
  refine ⟨cv, ob, sh, tot, dr, ?_, h2, h3⟩
  simp only [Instr.box] at h1
  simp only [Instr.alloc, Sem.run_bind, hv, Result.andThen_ok]
  exact h1
theorem mkmap_new {t : TypeId} : NewR P σ W ((Instr.makeMap t none).run P W) (fun n => .map n) (.map [] 0) := by
  refine ⟨.map (some W.heap.size), .map #[] 0, 0, 0, W.drawn, rfl, fun τ hτ => ⟨#[], rfl, by simp [ESRel], by simp⟩, fun τ n hn => ?_⟩
  simp only [VRel]; exact ⟨_, hn, rfl⟩
theorem bslice_new (hT : TRel σ T a.tmps) (hG : GRel P σ) {t e : TypeId} {len n : Nat} {parts : Array (Nat × Operand)} {z : AV} {ps : List (Nat × Nat × Arg)} {l : List AV}
    (hu : P.underlying t = some (.slice e)) (hz : zeroOf P e = some z) (hn : sizeT P e = some n) (hzn : z.cells.length = n) (hbig : len * n ≤ 2 ^ 12) (hp : partsOf P t parts = some ps)
    (hl : placeParts T (repl len z.cells) ps = some l) :
    NewR P σ W ((Instr.buildSlice t len (parts.map fun (i, x) => (i, a.eval x))).run P W) (fun n => .slice n 0 len (.k len)) (.cells l e false false) := by
  obtain ⟨v, hv, hr⟩ := zeroValue_run (σ := σ) hz W
  have hc := hr.cells (zeroOf_spec hz).1
  have hcl := hc.length
  simp only [Array.length_toList] at hcl
  unfold partsOf at hp
  rw [hu] at hp
  simp only [hn, Option.bind_eq_bind, Option.bind_some] at hp
  have hp' : List.mapM (fun (x : Nat × Operand) => do
        let (off, n) ← (fun i => some (i * n, n)) x.1
        let y ← argOf P x.2
        pure (off, n, y)) parts.toList = some ps := hp
  have hrel := parts_rel (P := P) hT hG (place := fun i => some (i * n, n)) hp'
  obtain ⟨cells, h1, h2⟩ := fill_ok hrel (cells := (repl len v.cells.toList).toArray) (by simpa using hc.repl len) hl
  refine ⟨.slice (some ⟨W.heap.size, 0, none⟩) len len, .cells cells e, 0, 0, W.drawn, ?_, (fun h2 h1 => ⟨h1, h2⟩) ?_ ?_⟩
  · simp only [Instr.buildSlice, Sem.run_bind, underlying_run hu, Result.andThen_ok, sizeOf_run hn]
    rw [if_neg (by omega)]
    by_cases h0 : len * n = 0
    · have : (repl len v.cells.toList).toArray = #[] := by
        have := repl_length v.cells.toList len
        simp only [Array.length_toList, ← hcl, hzn, h0] at this
        rw [List.length_eq_zero_iff.1 this]
      rw [this] at h1
      rw [if_pos h0, h0]
      simp only [Sem.run_bind, Sem.run_pure, Result.andThen_ok, Array.toList_map]
      have h1' : Instr.fill (fun i => some (i * n, n)) #[] (List.map (fun (x : Nat × Operand) => (x.1, a.eval x.2)) parts.toList) = some cells := h1
      have e0 : ∀ f : Nat → Value, Array.map f (Array.range 0) = #[] := fun f => by simp
      rw [e0, h1']
      simp [newRow]
    · rw [if_neg h0]
      simp only [Sem.run_bind, hv, Result.andThen_ok, Sem.run_pure]
      have h3 := range_repl v.cells len (by intro h; rw [← hcl, hzn] at h; rw [h] at h0; simp at h0)
      rw [show len * n = len * v.cells.size by rw [← hcl, hzn], h3]
      simp only [Array.toList_map]
      have h1' : Instr.fill (fun i => some (i * n, n)) (repl len v.cells.toList).toArray (List.map (fun (x : Nat × Operand) => (x.1, a.eval x.2)) parts.toList) = some cells := h1
      rw [h1']
      simp [newRow]
  · intro τ n hn; simp [VRel, hn]
  · intro τ hτ
    have hl2 := h2.length
    simp only [Array.length_toList] at hl2
    refine ⟨cells, (0, 0), rfl, ?_, ?_, ?_, by simp, by simp⟩
    · show 0 + _ ≤ _; omega
    · simp only [List.drop_zero]
      rw [List.take_of_length_le (by simp; omega)]
      exact VRels.mono hτ _ _ h2
    · intro _; exact ⟨rfl, hl2⟩
theorem s2b_new {e : TypeId} {l : List Nat} {x : Value} (hx : VRel σ (.str l) x) : ∃ s, x = .string s ∧
    NewR P σ W ((Conv.stringToBytes e s).run P W) (fun n => .slice n 0 l.length (.g 1)) (.cells (ofBytes l) e true false) := by
  simp only [VRel] at hx
  obtain ⟨s, rfl, rfl⟩ := hx
  refine ⟨s, rfl, ?_⟩
  simp only [Conv.stringToBytes, Sem.run_bind, run_choose, Question.forced, Bool.false_eq_true, if_false, Result.andThen_ok, Question.cut, newRow, run_newObj, Sem.run_pure]
  generalize hcap : s.size + W.tape W.drawn (Question.appendCap s.size 0 e) % (2 ^ 63 - s.size) = cap
  have hge : s.size ≤ cap := by omega
  have hs : s.size = s.data.size := rfl
  generalize hc : (Array.map (fun b => Value.int IntKind.u8 (b.toNat : Int)) s.data ++ Array.replicate (cap - s.size) (Value.int IntKind.u8 0)) = c
  have hcs : c.size = cap := by rw [← hc]; simp; omega
  simp only [markStringish, Sem.run_bind, run_shape, Result.andThen_ok]
  have hshape : World.shape? { heap := W.heap.push (.cells c e), tape := W.tape, drawn := W.drawn + 1, os := W.os, output := W.output } W.heap.size = some (e, c.size) := by
    simp [World.shape?]
  rw [hshape]
  simp only [run_freeze, Result.andThen_ok]
  rw [World.freeze_past _ _ c e (by simp)]
  have hset : (W.heap.push (Obj.cells c e)).setIfInBounds W.heap.size (.cells c e (c.size, c.size + 1)) = W.heap.push (.cells c e (c.size, c.size + 1)) := by
    apply Array.ext
    · simp
    · intro i h1 h2
      simp only [Array.getElem_push]
      by_cases hi : W.heap.size = i
      · subst hi; simp
      · rw [Array.getElem_setIfInBounds_ne (by simpa using h1) hi]
        simp only [Array.size_push] at h2
        simp [Array.getElem_push, show i < W.heap.size by omega]
  simp only [hset]
  have hlen : (List.map UInt8.toNat s.data.toList).length = s.size := by rw [List.length_map, Array.length_toList]; rfl
  rw [hlen]
  refine ⟨.slice (some ⟨W.heap.size, 0, none⟩) s.size cap, .cells c e (c.size, c.size + 1), 0, cap, W.drawn + 1, rfl, (fun h2 h1 => ⟨h1, h2⟩) ?_ ?_⟩
  · intro τ n hn
    simp only [VRel]
    exact ⟨_, cap, hn, rfl, hge, by simp, by omega⟩
  · intro τ hτ
    refine ⟨c, _, rfl, ?_, ?_, by simp, ?_, ?_⟩
    · have : (ofBytes (s.data.toList.map UInt8.toNat)).length = s.size := by
        have := (ofBytes_rel (σ := σ) s.data.toList).length
        rw [List.length_map, Array.length_toList] at this
        exact this
      show 0 + _ ≤ _; omega
    · have hl := (ofBytes_rel (σ := τ) s.data.toList).length
      rw [hl]
      simp only [List.length_map, List.drop_zero]
      have : c.toList.take s.data.toList.length = s.data.toList.map fun b => Value.int .u8 b.toNat := by
        rw [← hc]
        simp only [Array.toList_append, Array.toList_map]
        rw [List.take_append_of_le_length (by simp)]
        rw [List.take_of_length_le (by rw [List.length_map]; exact Nat.le_refl _)]
      rw [this]
      exact ofBytes_rel _
    · intro _; show 0 + cap ≤ _; omega
    · intro _ o ho; simp only; omega
theorem mkslice_new {t el : TypeId} {i : TypeInfo} {z : AV} {n c : Nat} {k k' : IntKind} {xl xc : Value} (hu : P.underlying t = some (.slice el)) (hi : P.info? el = some i) (hz : zeroOf P el = some z) (hn : sizeT P el = some z.cells.length)
    (h0 : z.cells.length ≠ 0) (hl : VRel σ (.int k (.ofNat n)) xl) (hc : VRel σ (.int k' (.ofNat c)) xc) (hnc : n ≤ c) (hcb : c ≤ 2 ^ 30) (hib : i.bytes ≤ 2 ^ 17) :
    NewR P σ W ((Instr.makeSlice t xl xc).run P W) (fun m => .slice m 0 n (.k c)) (.cells (AE.repl c z.cells) el false false) := by
  simp only [VRel] at hl hc; subst hl hc
  obtain ⟨v, hv, hr⟩ := zeroValue_run (σ := σ) hz W
  have hcl := hr.cells (zeroOf_spec hz).1
  have hlen := hcl.length
  simp only [Array.length_toList] at hlen
  have hmul : i.bytes * c ≤ 2 ^ 17 * 2 ^ 30 := Nat.mul_le_mul hib hcb
  have w1 : IntKind.i64.wrap (Int.ofNat n) = n := wrap_small n (by omega)
  have w2 : IntKind.i64.wrap (Int.ofNat c) = c := wrap_small c (by omega)
  refine ⟨.slice (some ⟨W.heap.size, 0, none⟩) n c, .cells (AE.repl c v.cells.toList).toArray el, 0, 0, W.drawn, ?_, (fun h2 h1 => ⟨h1, h2⟩) (fun τ n hn => by simp [VRel, hn]) ?_⟩
  · simp only [Instr.makeSlice, Sem.run_bind, underlying_run hu, Result.andThen_ok]
    simp only [asInt, asIntOf, Sem.run_bind, Sem.run_pure, Result.andThen_ok, typeInfo, run_program, hi]
    rw [w1, w2]
    have hcond : ¬ (((decide ((c : Int) < 0) || decide ((i.bytes : Int) * (c : Int) > 2 ^ 48)) || decide ((n : Int) < 0) || decide ((n : Int) > (c : Int))) = true) := by
      simp only [Bool.or_eq_true, decide_eq_true_eq]
      have : (i.bytes : Int) * (c : Int) = ((i.bytes * c : Nat) : Int) := by simp
      rw [this]
      omega
    rw [if_neg hcond]
    simp only [Sem.run_bind, run_askRoom, Result.andThen_ok, sizeOf_run hn, Int.toNat_natCast]
    split
    · rename_i hz0
      have hc0 : c = 0 := by rcases Nat.mul_eq_zero.1 hz0 with h | h; exact h; exact absurd h h0
      subst hc0
      have e0 : ∀ f : Nat → Value, Array.map f (Array.range 0) = #[] := fun f => by simp
      simp only [Nat.zero_mul, e0, AE.repl, newRow, Sem.run_bind, Sem.run_pure, Result.andThen_ok, run_newObj]
    · have h3 := range_repl v.cells c (by rw [← hlen]; exact h0)
      simp only [Sem.run_bind, hv, Result.andThen_ok, Sem.run_pure, newRow, run_newObj]
      rw [hlen, h3]
  · intro τ hτ
    have hrel := (VRels.mono hτ _ _ hcl).repl c
    have hl2 := hrel.length
    refine ⟨_, (0, 0), rfl, ?_, ?_, ?_, by simp, by simp⟩
    · show 0 + _ ≤ _
      rw [hl2, Nat.zero_add, List.size_toArray]; exact Nat.le_refl _
    · simp only [List.drop_zero]
      rw [List.take_of_length_le (by rw [hl2]; exact Nat.le_refl _)]
      exact hrel
    · intro _; exact ⟨rfl, by rw [hl2, List.size_toArray]⟩
end Go.AE
namespace Go.AE
variable {P : Program} {F : Tr IFn} {E : ICode → TM → AW → Option AR} {σ : Sg} {A : AW} {W : World} {T : TM} {a : Act} {o : Oper} {i : IOp}
/-- an operation that makes one object, whatever its name -/
def NewN (P : Program) (σ : Sg) (W : World) (r : Result Next) (n : Ix) (v : AV) (o : AO) : Prop :=
  ∃ cv ob sh tot drawn, r = .ok (.value cv) { W with heap := W.heap.push ob, drawn := drawn } ∧ (∀ τ, σ.le τ → OR P τ ⟨W.heap.size, sh, tot⟩ ob o) ∧ ∀ (τ : Sg), τ n = some ⟨W.heap.size, sh, tot⟩ → VRel τ v cv
theorem NewR.next {ρ : Operand → Value} {s : Sem Value} {vOf : Ix → AV} {ob : AO} {n : Ix} (he : (execOp ρ o).run P W = ((do Pure.pure (Next.value (← s))) : Sem Next).run P W) (h : NewR P σ W (s.run P W) vOf ob) : NewN P σ W ((execOp ρ o).run P W) n (vOf n) ob := by
  obtain ⟨cv, ob', sh, tot, dr, h1, h2, h3⟩ := h
  refine ⟨cv, ob', sh, tot, dr, ?_, h2, fun τ hτ => h3 τ n hτ⟩
  rw [he]; simp [h1]
theorem aop_ok (hT : TRel σ T a.tmps) (hG : GRel P σ) (hc : compO P o = some i) {n : Ix} {v : AV} {ob : AO} (h : aop T n i = some (v, ob)) : NewN P σ W ((execOp a.eval o).run P W) n v ob := by
  cases hop : o.op
  case box e x =>
    simp only [compO, hop, Option.bind_eq_bind, Option.pure_def, Option.bind_eq_some_iff, Option.some.injEq] at hc
    obtain ⟨z, hz, rfl⟩ := hc
    simp only [aop] at h
    split at h
    · cases h
    rename_i hu
    cases h
    exact NewR.next (vOf := fun n => .ptr n 0) (by simp only [execOp, hop]) (box_new (arg_rel hT hG hz) (Bool.eq_false_iff.2 hu))
  case alloc e =>
    simp only [compO, hop, Option.bind_eq_bind, Option.pure_def, Option.bind_eq_some_iff, Option.some.injEq] at hc
    obtain ⟨z, hz, rfl⟩ := hc
    simp only [aop] at h
    cases h
    exact NewR.next (vOf := fun n => .ptr n 0) (by simp only [execOp, hop]) (alloc_new hz)
  case buildSlice t len ps =>
    simp only [compO, hop, Option.bind_eq_bind, Option.pure_def, Option.bind_eq_some_iff, Option.some.injEq] at hc
    split at hc
    · rename_i e hu
      simp only [Option.bind_eq_some_iff] at hc
      obtain ⟨z, hz, k, hn, hc⟩ := hc
      split at hc
      · cases hc
      · rename_i hb
        simp only [Option.bind_eq_some_iff, Option.some.injEq] at hc
        obtain ⟨p, hp, rfl⟩ := hc
        simp only [aop] at h
        split at h
        · rename_i l hl
          cases h
          have h1 : z.cells.length = k := Classical.byContradiction fun q => hb (Or.inr q)
          have h2 : len * k ≤ 2 ^ 12 := Classical.byContradiction fun q => hb (Or.inl (by omega))
          exact NewR.next (vOf := fun n => .slice n 0 len (.k len)) (by simp only [execOp, hop]) (bslice_new hT hG hu hz hn h1 h2 hp hl)
        · cases h
    · cases hc
  case makeMap t r =>
    cases r with
    | none =>
      simp only [compO, hop, Option.bind_eq_bind, Option.pure_def, Option.bind_eq_some_iff, Option.some.injEq] at hc
      subst hc
      simp only [aop] at h
      cases h
      exact NewR.next (vOf := fun n => .map n) (s := Instr.makeMap t none) (by simp only [execOp, hop, Option.map_none]) mkmap_new
    | some r => simp only [compO, hop] at hc; cases hc
  case makeSlice t l c =>
    simp only [compO, hop, Option.bind_eq_bind, Option.pure_def, Option.bind_eq_some_iff, Option.some.injEq] at hc
    split at hc
    · rename_i e hu
      simp only [Option.bind_eq_some_iff] at hc
      obtain ⟨ti, hi, z, hz, hc⟩ := hc
      split at hc
      · cases hc
      · rename_i hn
        simp only [Option.bind_eq_some_iff, Option.some.injEq] at hc
        obtain ⟨l', hl, c', hc', rfl⟩ := hc
        have h1 := arg_rel hT hG hl
        have h2 := arg_rel hT hG hc'
        simp only [aop] at h
        split at h
        · rename_i k n1 k' m e1 e2
          split at h
          · rename_i hb
            simp only [Bool.and_eq_true] at hb
            cases h
            exact NewR.next (vOf := fun n => .slice n 0 n1 (.k m)) (by simp only [execOp, hop]) (mkslice_new hu hi hz (Classical.byContradiction fun q => hn (Or.inr q)) (fun h' => hn (Or.inl h')) (e1 ▸ h1) (e2 ▸ h2) (Nat.le_of_ble_eq_true hb.1.1) (Nat.le_of_ble_eq_true hb.1.2) (Nat.le_of_ble_eq_true hb.2))
          · cases h
        · cases h
    · cases hc
  case convert s d x =>
    simp only [compO, hop, Option.bind_eq_bind, Option.pure_def, Option.bind_eq_some_iff, Option.some.injEq] at hc
    split at hc
    case h_3 e hs hd =>
      split at hc
      · rename_i he
        have he := isU8_eq he
        obtain ⟨y, hy, rfl⟩ := (by simpa only [Option.bind_eq_some_iff, Option.some.injEq] using hc : ∃ y, argOf P x = some y ∧ IOp.s2b e y = i)
        have hx := arg_rel hT hG hy
        simp only [aop] at h
        split at h
        · rename_i l hl
          cases h
          obtain ⟨u, hu, hr⟩ := s2b_new (P := P) (W := W) (e := e) (hl ▸ hx)
          refine NewR.next (vOf := fun n => .slice n 0 l.length (.g 1)) (s := Conv.stringToBytes e u) ?_ hr
          simp only [execOp, hop, Sem.run_bind]
          have : (convert s d (a.eval x)).run P W = (Conv.stringToBytes e u).run P W := by
            rw [hu]
            simp [convert, underlying_run hs, underlying_run hd, underlying_run he]
          rw [this]
        · cases h
      · cases hc
    all_goals
      exfalso
      repeat' first
        | (cases hc; done)
        | (obtain ⟨_, _, hc⟩ := hc)
        | split at hc
        | (simp only [Option.bind_eq_some_iff, Option.some.injEq] at hc)
      all_goals simp [aop] at h
  case next it b =>
    cases b <;>
    · simp only [compO, hop, Option.bind_eq_bind, Option.pure_def, Option.bind_eq_some_iff, Option.some.injEq] at hc
      obtain ⟨z, hz, rfl⟩ := hc
      simp [aop] at h
  all_goals
    exfalso
    simp only [compO, hop, Option.bind_eq_bind, Option.pure_def, Option.bind_eq_some_iff, Option.some.injEq] at hc
    repeat' first
      | (cases hc; done)
      | (obtain ⟨_, _, hc⟩ := hc)
      | split at hc
      | (simp only [Option.bind_eq_some_iff, Option.some.injEq, Bool.false_eq_true, if_false] at hc)
    all_goals simp [aop] at h
end Go.AE
namespace Go.AE
variable {P : Program} {F : Tr IFn} {E : ICode → TM → AW → Option AR} {σ σ0 : Sg} {A0 B C : AW} {W W0 W' : World}
theorem WRel.sub (h : WRel P σ B W) (hC : ∀ x o, C.get x = some o → B.get x = some o) (hn : C.nx = B.nx) : WRel P σ C W where
  obj := fun a o ha => h.obj a o (hC a o ha)
  inj := fun a b e f ha hb he hf hab => by
    obtain ⟨o, ho⟩ := Option.isSome_iff_exists.1 ha
    obtain ⟨u, hu⟩ := Option.isSome_iff_exists.1 hb
    exact h.inj a b e f (by rw [hC _ _ ho]; rfl) (by rw [hC _ _ hu]; rfl) he hf hab
  fresh := fun a e he => by rw [hn]; exact h.fresh a e he
theorem put_get (B : AW) (o : AO) (n : Ix) : ({ B with cur := B.cur.set o n } : AW).get n = some o := by simp [AW.get, Tr.get_set_same]
theorem put_get_ne (B : AW) (o : AO) (n : Ix) {x : Ix} (h : x ≠ n) : ({ B with cur := B.cur.set o n } : AW).get x = B.get x := by simp [AW.get, Tr.get_set_other _ _ _ _ h]
/-- an object that was nobody's bears its name from now on -/
theorem Step.adopt (h : Step P σ0 A0 W0 σ B W) {n : Ix} {e : Ent} {ob : Obj} {o : AO} (hn : A0.nx.toNat ≤ n.toNat) (he : σ n = some e) (hb : W.heap[e.blk]? = some ob) (ho : OR P σ e ob o) (hge : W0.heap.size ≤ e.blk)
    (hdis : ∀ x f, (B.get x).isSome = true → σ x = some f → f.blk ≠ e.blk) : Step P σ0 A0 W0 σ { B with cur := B.cur.set o n } W where
  le := h.le
  rel := {
    obj := fun a o' ha => by
      by_cases hx : a = n
      · subst hx; rw [put_get] at ha; cases ha; exact ⟨e, ob, he, hb, ho⟩
      · rw [put_get_ne _ _ _ hx] at ha; exact h.rel.obj a o' ha
    inj := fun a b f g ha hb' hf hg hab => by
      by_cases hx : a = n
      · subst hx
        rw [he] at hf; cases hf
        rw [put_get_ne _ _ _ (fun q => hab q.symm)] at hb'
        exact Ne.symm (hdis b g hb' hg)
      · rw [put_get_ne _ _ _ hx] at ha
        by_cases hy : b = n
        · subst hy
          rw [he] at hg; cases hg
          exact hdis a f ha hf
        · rw [put_get_ne _ _ _ hy] at hb'
          exact h.rel.inj a b f g ha hb' hf hg hab
    fresh := h.rel.fresh }
  size := h.size
  pres := h.pres
  img := fun a f ha hf hlt => by
    by_cases hx : a = n
    · subst hx; rw [he] at hf; cases hf; omega
    · rw [put_get_ne _ _ _ hx] at ha; exact h.img a f ha hf hlt
  olds := h.olds
  nx := h.nx
  dom := h.dom
  cdom := fun a ha => by
    by_cases hx : a = n
    · subst hx; exact .inr hn
    · simp only [Tr.get_set_other _ _ _ _ hx] at ha; exact h.cdom a ha
  keepA := fun a m b l hlt ha => by
    rw [put_get_ne _ _ _ (fun q => by rw [q] at hlt; omega)] at ha; exact h.keepA a m b l hlt ha
  keepH := fun a m b l f hlt ha hf => by
    rw [put_get_ne _ _ _ (fun q => by rw [q] at hlt; omega)] at ha; exact h.keepH a m b l f hlt ha hf
  ro := fun a l et f ha hf => by
    obtain ⟨h1, h2⟩ := h.ro a l et f ha hf
    have hne : a ≠ n := fun q => by
      subst q
      have := h.le _ _ hf
      rw [he] at this; cases this
      exact hdis a e (by rw [h1]; rfl) he rfl
    exact ⟨by rw [put_get_ne _ _ _ hne]; exact h1, h2⟩
  io := h.io
/-- a block that bears a reserved name but is nobody's object yet -/
theorem Step.push (h : Step P σ0 A0 W0 σ B W) {n : Ix} {sh tot drawn : Nat} {ob : Obj} (hn : A0.nx.toNat ≤ n.toNat) (hlt : n.toNat < B.nx.toNat) (hσ : σ n = none) :
    Step P σ0 A0 W0 (σ.set n ⟨W.heap.size, sh, tot⟩) B { W with heap := W.heap.push ob, drawn := drawn } := by
  have hne : ∀ {x : Ix}, (B.get x).isSome = true → x ≠ n := by
    intro x hx e
    subst e
    obtain ⟨o, ho⟩ := Option.isSome_iff_exists.1 hx
    obtain ⟨f, _, hf, _⟩ := h.rel.obj _ o ho
    rw [hσ] at hf; cases hf
  have hpush : ∀ {b : Nat} (u : Obj), b < W.heap.size → (W.heap.push u)[b]? = W.heap[b]? := by
    intro b u hb
    rw [Array.getElem?_push, if_neg (by omega)]
  exact {
    le := h.le.trans (Sg.le_set hσ)
    rel := {
      obj := fun a o' ha => by
        have hx := hne (x := a) (by rw [ha]; rfl)
        obtain ⟨f, ob', h1, h2, h3⟩ := h.rel.obj a o' ha
        refine ⟨f, ob', by rw [Sg.set_other _ _ hx]; exact h1, ?_, h3.mono (Sg.le_set hσ)⟩
        show (W.heap.push ob)[f.blk]? = _
        rw [hpush _ (Array.getElem?_eq_some_iff.1 h2).1]; exact h2
      inj := fun a b f g ha hb hf hg hab => by
        rw [Sg.set_other _ _ (hne ha)] at hf
        rw [Sg.set_other _ _ (hne hb)] at hg
        exact h.rel.inj a b f g ha hb hf hg hab
      fresh := fun a f hf => by
        by_cases hx : a = n
        · subst hx; exact hlt
        · rw [Sg.set_other _ _ hx] at hf; exact h.rel.fresh a f hf }
    size := by have := h.size; simp; omega
    pres := fun b hb hnl => by
      have := h.size
      show (W.heap.push ob)[b]? = _
      rw [hpush _ (by omega)]; exact h.pres b hb hnl
    img := fun a f ha hf hb => by
      rw [Sg.set_other _ _ (hne ha)] at hf; exact h.img a f ha hf hb
    olds := h.olds
    nx := h.nx
    dom := fun a f hf => by
      by_cases hx : a = n
      · subst hx; exact .inr hn
      · rw [Sg.set_other _ _ hx] at hf; exact h.dom a f hf
    cdom := h.cdom
    keepA := h.keepA
    keepH := fun a m b l f hlt' ha hf => by
      obtain ⟨f', ob', h1, h2, _⟩ := h.rel.obj a _ ha
      have := h.le _ _ hf
      rw [h1] at this; cases this
      show (W.heap.push ob)[f.blk]? = _
      rw [hpush _ (Array.getElem?_eq_some_iff.1 h2).1]; exact h.keepH a m b l f hlt' ha hf
    ro := fun a l et f ha hf => by
      obtain ⟨h1, h2⟩ := h.ro a l et f ha hf
      obtain ⟨f', ob', g1, g2, _⟩ := h.rel.obj a _ h1
      have := h.le _ _ hf
      rw [g1] at this; cases this
      refine ⟨h1, ?_⟩
      show (W.heap.push ob)[f.blk]? = _
      rw [hpush _ (Array.getElem?_eq_some_iff.1 g2).1]; exact h2
    io := h.io }
/-- a step of a part leaves the rest as it was -/
theorem Step.frame (h : Step P σ0 A0 W0 σ B W) (hC : ∀ x o, C.get x = some o → B.get x = some o) (hn : C.nx = B.nx) {σ' : Sg} (s : Step P σ C W σ' C W') : Step P σ0 A0 W0 σ' B W' := by
  have hsig : ∀ {x : Ix} {e : Ent}, (B.get x).isSome = true → σ' x = some e → σ x = some e := by
    intro x e hx he
    obtain ⟨o, ho⟩ := Option.isSome_iff_exists.1 hx
    obtain ⟨f, _, hf, _⟩ := h.rel.obj x o ho
    have := s.le _ _ hf
    rw [this] at he; cases he; exact hf
  have hlive : ∀ {x : Ix}, (C.get x).isSome = true → (B.get x).isSome = true := by
    intro x hx
    obtain ⟨o, ho⟩ := Option.isSome_iff_exists.1 hx
    rw [hC _ _ ho]; rfl
  have hkeep : ∀ {x : Ix} {o : AO} {e : Ent}, B.get x = some o → C.get x = none → σ x = some e → W'.heap[e.blk]? = W.heap[e.blk]? := by
    intro x o e hx hcx he
    have hlt := h.rel.lt (by rw [hx]; rfl) he
    refine s.pres e.blk hlt (fun a f ha hf => ?_)
    refine h.rel.inj a x f e (hlive ha) (by rw [hx]; rfl) hf he (fun q => ?_)
    subst q; rw [hcx] at ha; cases ha
  exact {
    le := h.le.trans s.le
    rel := {
      obj := fun a o ha => by
        obtain ⟨e, ob, he, hb, ho⟩ := h.rel.obj a o ha
        cases hcx : C.get a with
        | some o' =>
          have : o' = o := by have := hC a o' hcx; rw [ha] at this; exact (Option.some.inj this).symm
          subst this
          exact s.rel.obj a o' hcx
        | none => exact ⟨e, ob, s.le _ _ he, by rw [hkeep ha hcx he]; exact hb, ho.mono s.le⟩
      inj := fun a b e f ha hb he hf hab => h.rel.inj a b e f ha hb (hsig ha he) (hsig hb hf) hab
      fresh := fun a e he => by rw [← hn]; exact s.rel.fresh a e he }
    size := Nat.le_trans h.size s.size
    pres := fun b hb hnl => by
      rw [s.pres b (Nat.lt_of_lt_of_le hb h.size) (fun a e ha he q => ?_)]
      · exact h.pres b hb hnl
      · subst q
        obtain ⟨a0, e0, h1, h2, h3⟩ := h.img a e (hlive ha) he hb
        exact hnl a0 e0 h1 h2 h3
    img := fun a e ha he hb => h.img a e ha (hsig ha he) hb
    olds := h.olds
    nx := h.nx
    dom := fun a e he => by
      rcases s.dom a e he with h1 | h1
      · exact h.dom a e h1
      · exact .inr (Nat.le_trans h.nx (by rw [← hn]; exact h1))
    cdom := h.cdom
    keepA := h.keepA
    keepH := fun a m b l e hlt ha he => by
      have he' := h.le _ _ he
      have h1 := h.keepH a m b l e hlt ha he
      cases hcx : C.get a with
      | some o' =>
        have : o' = .mitR m b l := by have := hC a o' hcx; rw [ha] at this; exact (Option.some.inj this).symm
        subst this
        rw [s.keepH a m b l e (by rw [hn]; exact Nat.lt_of_lt_of_le hlt h.nx) hcx he', h1]
      | none => rw [hkeep ha hcx he', h1]
    ro := fun a l et e ha he => by
      obtain ⟨h1, h2⟩ := h.ro a l et e ha he
      refine ⟨h1, ?_⟩
      cases hcx : C.get a with
      | some o' =>
        have : o' = .cells l et false true := by have := hC a o' hcx; rw [h1] at this; exact (Option.some.inj this).symm
        subst this
        rw [(s.ro a l et e hcx (h.le _ _ he)).2, h2]
      | none => rw [hkeep h1 hcx (h.le _ _ he), h2]
    io := ⟨s.io.1.trans h.io.1, s.io.2.trans h.io.2⟩ }
end Go.AE
namespace Go.AE
variable {P : Program} {F : Tr IFn} {E : ICode → TM → AW → Option AR}
theorem iop_plain {i : IOp} {T : TM} {A B : AW} (hc : i.cls = .P) : iop T B i = (iop T A i).map fun p => (p.1, B) := by
  cases i <;> simp only [IOp.cls] at hc <;> first | (cases hc; done) | skip
  all_goals simp only [iop]
  all_goals repeat' first
    | rfl
    | split
theorem iop_load {i : IOp} {T : TM} {A A' : AW} {v : AV} (hc : i.cls = .L) (h : iop T A i = some (v, A')) : A' = A := by
  cases i <;> simp only [IOp.cls] at hc <;> first | (cases hc; done) | skip
  all_goals simp only [iop] at h
  all_goals repeat' first
    | (cases h; rfl)
    | (cases h; done)
    | split at h
end Go.AE
namespace Go.AE
variable {P : Program} {F : Tr IFn} {E : ICode → TM → AW → Option AR}
/-- one step of the canonical order -/
def stepD (F : Tr IFn) (E : ICode → TM → AW → Option AR) (base : Ix) (s : DStep) (T : TM) (A : AW) : Option (TM × AW) := match s.nm with
  | some k => runNamed T A s.s (addIx k base)
  | none => runStep F E T A s.s
/-- the canonical order's state at each place -/
def trD (F : Tr IFn) (E : ICode → TM → AW → Option AR) (base : Ix) (l : List DStep) (T : TM) (A : AW) : Nat → Option (TM × AW)
  | 0 => some (T, A)
  | p + 1 => match trD F E base l T A p with
    | some (T1, A1) => match l[p]? with
      | some s => match stepD F E base s T1 A1 with
        | some (T2, A2) => if sameAgain T2 A2 s.again then some (T2, A2) else none
        | none => none
      | none => none
    | none => none
theorem trD_cons {base : Ix} {s : DStep} {l : List DStep} {T T1 : TM} {A A1 : AW} (h : stepD F E base s T A = some (T1, A1)) (ha : sameAgain T1 A1 s.again = true) : ∀ p, trD F E base (s :: l) T A (p + 1) = trD F E base l T1 A1 p
  | 0 => by simp [trD, h, ha]
  | p + 1 => by
    rw [trD, trD_cons h ha p]
    rw [trD]
    simp only [List.getElem?_cons_succ]
theorem runDraw_tr {base : Ix} : ∀ {l : List DStep} {T Tf : TM} {A Af : AW}, runDraw F E base l T A = some (Tf, Af) → trD F E base l T A l.length = some (Tf, Af)
  | [], T, Tf, A, Af, h => by simp only [runDraw] at h; simpa [trD] using h
  | s :: l, T, Tf, A, Af, h => by
    simp only [runDraw] at h
    split at h
    · rename_i T1 A1 h1
      split at h
      · rename_i ha
        rw [List.length_cons, trD_cons (s := s) (T1 := T1) (A1 := A1) (by unfold stepD; exact h1) ha]
        exact runDraw_tr h
      · cases h
    · cases h
theorem trD_le {base : Ix} {l : List DStep} {T : TM} {A : AW} : ∀ {n p : Nat} {r : TM × AW}, trD F E base l T A n = some r → p ≤ n → ∃ q, trD F E base l T A p = some q
  | 0, p, r, h, hp => ⟨r, by have : p = 0 := by omega
                             subst this; exact h⟩
  | n + 1, p, r, h, hp => by
    by_cases hpn : p = n + 1
    · subst hpn; exact ⟨r, h⟩
    · rw [trD] at h
      split at h
      · rename_i T1 A1 h1
        exact trD_le h1 (by omega)
      · cases h
/-- the canonical order, step by step -/
theorem trD_step {base : Ix} {l : List DStep} {T : TM} {A : AW} {n p : Nat} {r : TM × AW} (h : trD F E base l T A n = some r) (hp : p < n) :
    ∃ s T1 A1 T2 A2, l[p]? = some s ∧ trD F E base l T A p = some (T1, A1) ∧ trD F E base l T A (p + 1) = some (T2, A2) ∧ stepD F E base s T1 A1 = some (T2, A2) ∧ sameAgain T2 A2 s.again = true := by
  obtain ⟨⟨T2, A2⟩, h2⟩ := trD_le h (show p + 1 ≤ n by omega)
  have h2' := h2
  rw [trD] at h2
  split at h2
  · rename_i T1 A1 h1
    split at h2
    · rename_i s hs
      split at h2
      · rename_i T3 A3 h3
        split at h2
        · rename_i ha
          cases h2
          exact ⟨s, T1, A1, T2, A2, hs, h1, h2', h3, ha⟩
        · cases h2
      · cases h2
    · cases h2
  · cases h2
/-- the steps of a canonical order -/
theorem drawSteps_get {ops : Array Oper} : ∀ {rest done : List Nat} {k p i : Nat}, rest[p]? = some i →
    ∃ s, (drawSteps P ops done k rest)[p]? = some s ∧ s.s = (match ops[i]? with | some o => stepOf P ops o | none => { d := none, g := none, op := .bad "" }) ∧
      s.nm = (if clsAt P ops i == .A then some (k + ((rest.take p).filter fun j => clsAt P ops j == .A).length) else none) ∧
      s.again = (if clsAt P ops i == .E then
        ((done ++ rest.take p).filter fun j => clsAt P ops j == .L && !reach ops ops.size j i).filterMap fun j =>
          match ops[j]? with
          | some o => o.dst.map fun d => (Ix.ofTmp d, (stepOf P ops o).g, (stepOf P ops o).op)
          | none => none
        else [])
  | j :: rest, done, k, 0, i, h => by
    simp at h; subst h
    refine ⟨_, rfl, rfl, ?_, ?_⟩
    · simp
    · simp only [List.take_zero, List.append_nil]; rfl
  | j :: rest, done, k, p + 1, i, h => by
    simp only [List.getElem?_cons_succ] at h
    obtain ⟨s, h1, h2, h3, h4⟩ := drawSteps_get (done := done ++ [j]) (k := if clsAt P ops j == .A then k + 1 else k) h
    refine ⟨s, ?_, h2, ?_, ?_⟩
    · simp only [drawSteps, List.getElem?_cons_succ]; exact h1
    · rw [h3]
      split
      · congr 1
        simp only [List.take_succ_cons, List.filter_cons]
        split <;> simp [*] <;> omega
      · rfl
    · rw [h4]
      simp [List.append_assoc]
end Go.AE
