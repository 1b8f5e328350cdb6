import Derived.Test.YtgnebdiembekpaaGreatDoorA14
/- Part of the proof: the abstract evaluator, its soundness, its runs: AeRun2, AeRun3 -/
set_option linter.unusedSectionVars false
set_option linter.unusedSimpArgs false
set_option linter.unusedVariables false
set_option linter.unnecessarySimpa false
namespace Go.AE
variable {P : Program} {F : Tr IFn} {E : ICode → TM → AW → Option AR}
theorem callFn_ok (hS : Sound P E) (hF : FRel P F) {f : Nat} {args : List AV} {A A' : AW} {v : AV} (h : callFn F E f args A = some (v, A')) {σ : Sg} {W : World} {vals : Array Value} (hW : WRel P σ A W) (hG : GRel P σ)
    (hr : VRels σ args vals.toList) : NRes P σ A W ((callFunc f vals).run P W) v A' := by
  simp only [callFn] at h
  split at h
  · rename_i np res body hf
    split at h
    · rename_i hlen
      split at h
      · rename_i r hE
        obtain ⟨fn, c, hfn, hname, hb, hcomp, hres, hnp, hd⟩ := hF.go f np res body hf
        refine .inr ⟨f, vals, runF_enter hfn hname hb vals W, calls_of_wp hfn hb ?_⟩
        have hvl : vals.size = np := by have := hr.length; simp only [Array.length_toList] at this; omega
        have hsize : (vals ++ Array.replicate (fn.ntmps - vals.size) undef).size = fn.ntmps := by simp; omega
        rw [← hcomp] at hE
        have hT : TRel σ (enterT 0 args .leaf) (vals ++ Array.replicate (fn.ntmps - vals.size) undef) := by
          apply enterT_rel args vals.toList 0 .leaf _ hr
          · intro t ht; omega
          · intro t _; rfl
          · intro k u hu
            have hk : k < vals.size := by
              have := (List.getElem?_eq_some_iff.1 hu).1
              simpa using this
            rw [Nat.zero_add, Array.getElem?_append_left hk, ← Array.getElem?_toList]
            exact hu
        have hwp := hS.code c _ A r hE σ { tmps := vals ++ Array.replicate (fn.ntmps - vals.size) undef, defers := [] } W hW hT hG rfl (fun d hdd => by rw [hsize]; exact hd d hdd)
        refine wp_mono hwp ?_
        rintro e a' w' ⟨rfl, hdef, _, _, σ', hstep, hT'⟩
        have key : ∀ vs, loadResults r.A r.T res = some vs → some (resultOf vs, r.A) = some (v, A') → a'.defers = [] ∧ ∃ cv, (results fn a'.tmps).run P w' = .ok cv w' ∧ After P σ A W v A' (.returned cv) w' := by
          intro vs hvs heq
          cases heq
          obtain ⟨cv, h1, h2⟩ := results_ok hstep.rel hT' hres hvs
          exact ⟨hdef, cv, h1, cv, σ', rfl, h2, hstep⟩
        split at h
        · rename_i hx
          split at h
          · rename_i vs hvs
            have hx' := hx
            rw [hx']
            exact key vs hvs h
          · cases h
        · rename_i hx
          split at h
          · rename_i vs hvs
            rw [hx]
            exact key vs hvs h
          · cases h
        · cases h
      · cases h
    · cases h
  · rename_i e hf
    exact hF.ext f e hf args vals σ A W v A' h hW hG hr
  · cases h
theorem callV_ok (hS : Sound P E) (hF : FRel P F) {x : AV} {args : List AV} {A A' : AW} {v : AV} (h : callV F E x args A = some (v, A')) {σ : Sg} {W : World} {xv : Value} {vals : Array Value} (hW : WRel P σ A W) (hG : GRel P σ)
    (hx : VRel σ x xv) (hr : VRels σ args vals.toList) : NRes P σ A W ((do let d ← Deferred.ofValue xv vals; invoke d.target d.args : Sem Next).run P W) v A' := by
  simp only [callV] at h
  split at h
  · rename_i f first captured
    simp only [VRel] at hx
    obtain ⟨cs, ds, rfl, h1, h2⟩ := hx
    have : (do let d ← Deferred.ofValue (.func (.func f) cs ds) vals; invoke d.target d.args : Sem Next).run P W = (callFunc f (cs ++ vals ++ ds)).run P W := by
      simp [Deferred.ofValue, invoke]
    rw [this]
    exact callFn_ok hS hF h hW hG (by
      rw [Array.toList_append, Array.toList_append]
      exact (h1.append hr).append h2)
  · cases h
theorem tblFind_mem : ∀ {l : List (Nat × Nat)} {t f : Nat}, tblFind l t = some f → (t, f) ∈ l
  | [], t, f, h => by simp [tblFind] at h
  | (t', f') :: l, t, f, h => by
    simp only [tblFind] at h
    split at h
    · rename_i hb
      cases h
      have := Nat.eq_of_beq_eq_true hb
      subst this
      exact List.mem_cons_self ..
    · exact List.mem_cons_of_mem _ (tblFind_mem h)
theorem method_ok {name : String} {t f : Nat} (h : (t, f) ∈ methodTbl P name) (v : Value) (fuel : Nat) (W : World) : (method (fuel + 1) t v name).run P W = .ok (f, v) W := by
  simp only [methodTbl, List.mem_filterMap, List.mem_range] at h
  obtain ⟨t', _, h⟩ := h
  split at h
  · rename_i i hi
    split at h
    · rename_i m hm
      split at h
      · rename_i hpath
        have hp : m.path.toList = [] := by simpa [Array.isEmpty_iff] using hpath
        split at h
        · rename_i f' hf
          split at h
          · cases h
          · cases h
          · rename_i d hn1 hn2 hu
            cases h
            simp only [method, Sem.run_bind]
            have : (typeInfo t).run P W = .ok i W := by simp [typeInfo, hi]
            simp only [this, Result.andThen_ok, hm, hp, follow, Sem.run_pure, hf, receiverAt, Sem.run_bind, underlying_run hu]
            cases d <;> first | exact absurd rfl (hn1 _) | rfl
          · cases h
        · rename_i f' hf
          split at h
          · rename_i e hu
            cases h
            simp only [method, Sem.run_bind]
            have : (typeInfo t).run P W = .ok i W := by simp [typeInfo, hi]
            simp only [this, Result.andThen_ok, hm, hp, follow, Sem.run_pure, hf, receiverAt, Sem.run_bind, underlying_run hu]
            rfl
          · cases h
        · cases h
      · cases h
    · cases h
  · cases h
def IOp.isCall : IOp → Bool
  | .call .. | .callv .. | .invoke .. => true
  | _ => false
theorem compO_plain {o : Oper} {i : IOp} (hn : ∀ c, o.op ≠ .call c) (hc : compO P o = some i) : i.isCall = false := by
  cases hop : o.op
  case call c => exact absurd hop (hn c)
  case next it b =>
    cases b <;>
    · simp only [compO, hop, Option.bind_eq_bind, Option.pure_def, Option.bind_eq_some_iff, Option.some.injEq] at hc
      obtain ⟨_, _, rfl⟩ := hc; rfl
  case makeMap t r =>
    cases r <;> simp only [compO, hop, Option.bind_eq_bind, Option.pure_def, Option.bind_eq_some_iff, Option.some.injEq] at hc
    · subst hc; rfl
    · cases hc
  all_goals simp only [compO, hop, Option.bind_eq_bind, Option.pure_def, Option.bind_eq_some_iff, Option.some.injEq] at hc
  all_goals
    repeat' first
      | (subst hc; rfl)
      | (cases hc; done)
      | (obtain ⟨_, _, hc⟩ := hc)
      | split at hc
      | (simp only [Option.bind_eq_some_iff, Option.some.injEq] at hc)
theorem runOp_ok (hS : Sound P E) (hF : FRel P F) {σ : Sg} {A A' : AW} {W : World} {T : TM} {a : Act} {o : Oper} {i : IOp} {v : AV} (hW : WRel P σ A W) (hT : TRel σ T a.tmps) (hG : GRel P σ) (hc : compO P o = some i)
    (h : runOp F E T A i = some (v, A')) : NRes P σ A W ((execOp a.eval o).run P W) v A' := by
  have plain : i.isCall = false → NRes P σ A W ((execOp a.eval o).run P W) v A' := by
    intro hi
    refine .inl (op_ok hW hT hG hc ?_)
    cases i <;> first | exact h | (simp [IOp.isCall] at hi)
  by_cases hcall : ∀ c, o.op ≠ .call c
  · exact plain (compO_plain hcall hc)
  · obtain ⟨c, hop⟩ : ∃ c, o.op = .call c := Classical.byContradiction fun hn => hcall fun c hc => hn ⟨c, hc⟩
    have hc0 := hc
    simp only [compO, hop, Option.bind_eq_bind, Option.pure_def, Option.bind_eq_some_iff, Option.some.injEq] at hc
    split at hc
    · -- a built-in function
      refine plain ?_
      repeat' first
        | (subst hc; rfl)
        | (cases hc; done)
        | (obtain ⟨_, _, hc⟩ := hc)
        | split at hc
        | (simp only [Option.bind_eq_some_iff, Option.some.injEq, Bool.false_eq_true, if_false] at hc)
    · rename_i f hcal
      simp only [Option.bind_eq_some_iff, Option.some.injEq] at hc
      obtain ⟨ys, hys, rfl⟩ := hc
      simp only [runOp] at h
      have hr := args_rel hT hG hys
      have he : (execOp a.eval o).run P W = (callFunc f (c.args.map a.eval)).run P W := by
        simp [execOp, hop, resolve, hcal, Act.eval, Deferred.ofValue, invoke]
      rw [he]
      exact callFn_ok hS hF h hW hG (by rw [Array.toList_map]; exact hr)
    · rename_i x hnf hcal
      simp only [Option.bind_eq_some_iff, Option.some.injEq] at hc
      obtain ⟨x', hx', ys, hys, rfl⟩ := hc
      simp only [runOp] at h
      have hx := arg_rel hT hG hx'
      have hr := args_rel hT hG hys
      have he : (execOp a.eval o).run P W = (do let d ← Deferred.ofValue (a.eval x) (c.args.map a.eval); invoke d.target d.args : Sem Next).run P W := by
        simp [execOp, hop, resolve, hcal]
      rw [he]
      exact callV_ok hS hF h hW hG hx (by rw [Array.toList_map]; exact hr)
    · rename_i x name hcal
      simp only [Option.bind_eq_some_iff, Option.some.injEq] at hc
      obtain ⟨x', hx', ys, hys, rfl⟩ := hc
      simp only [runOp] at h
      have hx := arg_rel hT hG hx'
      have hr := args_rel hT hG hys
      split at h
      · rename_i t w hiv
        split at h
        · rename_i f hf
          rw [hiv] at hx
          simp only [VRel] at hx
          obtain ⟨u, hu, hw⟩ := hx
          have hm := method_ok (P := P) (name := name) (tblFind_mem hf) u
          have he : (execOp a.eval o).run P W = (callFunc f (#[u] ++ c.args.map a.eval)).run P W := by
            simp only [execOp, hop, resolve, hcal, Sem.run_bind, Sem.run_pure, Result.andThen_ok, invoke, hu]
            have h0 : (#[Value.iface t u] ++ c.args.map a.eval)[0]? = some (.iface t u) := by
              rw [← Array.getElem?_toList, Array.toList_append]; rfl
            have h1 : (#[Value.iface t u] ++ c.args.map a.eval).extract 1 (#[Value.iface t u] ++ c.args.map a.eval).size = c.args.map a.eval := by
              apply Array.ext'
              rw [Array.toList_extract, Array.toList_append, Array.size_append]
              rw [List.extract_eq_take_drop]
              show List.take _ (Array.map a.eval c.args).toList = _
              apply List.take_of_length_le
              show (Array.map a.eval c.args).toList.length ≤ 1 + (Array.map a.eval c.args).size - 1
              rw [Array.length_toList]
              omega
            simp only [h0, h1, callMethod, program, Sem.run_bind, Sem.run, Sem.run_pure, Result.andThen_ok]
            have hfuel : P.types.size + Made.depth = (P.types.size + 99) + 1 := rfl
            rw [hfuel, hm]
            rfl
          rw [he]
          exact callFn_ok hS hF h hW hG (by
            rw [Array.toList_append, Array.toList_map]
            exact VRels.cons hw hr)
        · cases h
      · cases h
end Go.AE
namespace Go.AE
variable {P : Program} {F : Tr IFn} {E : ICode → TM → AW → Option AR}
/-- what is left behind an operation -/
def OPost (P : Program) (σ : Sg) (A : AW) (W : World) (o : Oper) (a : Act) (v : AV) (A' : AW) (a' : Act) (W' : World) : Prop :=
  ∃ σ' cv, a' = a.put o.dst cv ∧ VRel σ' v cv ∧ Step P σ A W σ' A' W'
theorem upon_ok {Q : Exit → Act → World → Prop} {K : Act → World → Prop} {σ : Sg} {A A' : AW} {W : World} {a : Act} {o : Oper} {v : AV} (h : NRes P σ A W ((execOp a.eval o).run P W) v A')
    (hk : ∀ a' W', OPost P σ A W o a v A' a' W' → K a' W') : o.wp P a W K Q := by
  unfold Oper.wp
  rcases h with ⟨σ', cv, W', h1, h2, h3⟩ | ⟨f, args, h1, h2⟩
  · rcases h1 with h1 | ⟨h1, rfl⟩
    · rw [h1, Oper.upon_value]; exact hk _ _ ⟨σ', cv, rfl, h2, h3⟩
    · rw [h1, Oper.upon_skip]; exact hk _ _ ⟨σ', undef, rfl, h2, h3⟩
  · rw [h1, Oper.upon_enter]
    refine Calls.mono h2 ?_
    rintro e w' ⟨cv, σ', rfl, h3, h4⟩
    exact hk _ _ ⟨σ', cv, rfl, h3, h4⟩
theorem stepOf_spec {ops : Array Oper} {o : Oper} {s : IStep} (hs : s = stepOf P ops o) (hb : ∀ w, s.op ≠ .bad w) : ∃ g, guardOf ops o = some g ∧ s.g = g ∧ s.d = o.dst.map Ix.ofTmp ∧ compO P o = some s.op := by
  unfold stepOf at hs
  cases hg : guardOf ops o with
  | none => simp only [hg] at hs; subst hs; exact absurd rfl (hb _)
  | some g =>
    simp only [hg] at hs
    cases hc : compO P o with
    | none => simp only [hc, Option.getD_none] at hs; subst hs; exact absurd rfl (hb _)
    | some i => simp only [hc, Option.getD_some] at hs; subst hs; exact ⟨g, rfl, rfl, rfl, rfl⟩
theorem runOp_bad {T : TM} {A : AW} {w : String} : runOp F E T A (.bad w) = none := rfl
theorem stepOf_bad {ops : Array Oper} {o : Oper} {w : String} (h : (stepOf P ops o).op = .bad w) : ((stepOf P ops o).g = none) ∨ ∃ g, guardOf ops o = some g ∧ (stepOf P ops o).g = g ∧ (stepOf P ops o).d = o.dst.map Ix.ofTmp := by
  unfold stepOf
  cases hg : guardOf ops o with
  | none => exact .inl rfl
  | some g => exact .inr ⟨g, rfl, rfl, rfl⟩
/-- one operation of a region -/
theorem step_ok (hS : Sound P E) (hF : FRel P F) {Q : Exit → Act → World → Prop} {K : Act → World → Prop} {σ : Sg} {A A' : AW} {W : World} {T T' : TM} {a : Act} {ops : Array Oper} {i : Nat} {o : Oper}
    (ho : ops[i]? = some o) (hW : WRel P σ A W) (hT : TRel σ T a.tmps) (hG : GRel P σ) (hd : ∀ t, o.dst = some t → t < a.tmps.size)
    (h : runStep F E T A (stepOf P ops o) = some (T', A'))
    (hk : ∀ σ' a' W', Step P σ A W σ' A' W' → TRel σ' T' a'.tmps → a'.defers = a.defers → a'.tmps.size = a.tmps.size → (∀ t, o.dst ≠ some t → a'.tmps.getD t undef = a.tmps.getD t undef) → K a' W') : wpOp P ops Q i K a W := by
  unfold wpOp
  simp only [ho]
  simp only [runStep] at h
  split at h
  · rename_i hw
    split at h
    · rename_i v A1 hop
      cases h
      have hnb : ∀ w, (stepOf P ops o).op ≠ .bad w := by
        intro w hb; rw [hb, runOp_bad] at hop; cases hop
      obtain ⟨g, hg, hgs, hds, hcomp⟩ := stepOf_spec rfl hnb
      rw [hgs] at hw
      have := wanted_ok hT hg hw
      rw [this]
      simp only [if_true]
      refine .inl (upon_ok (runOp_ok hS hF hW hT hG hcomp hop) ?_)
      rintro a' W' ⟨σ', cv, rfl, hv, hst⟩
      refine hk σ' _ W' hst ?_ (put_defers ..) (put_size ..) (fun t ht => put_other _ _ _ ht)
      rw [hds]
      exact (hT.mono hst.le).put hd hv
    · cases h
  · rename_i hw
    cases h
    have hg' : ∃ g, guardOf ops o = some g ∧ (stepOf P ops o).g = g ∧ (stepOf P ops o).d = o.dst.map Ix.ofTmp := by
      unfold stepOf at hw ⊢
      cases hg : guardOf ops o with
      | none => simp only [hg, wantedS] at hw; cases hw
      | some g => exact ⟨g, rfl, rfl, rfl⟩
    obtain ⟨g, hg, hgs, hds⟩ := hg'
    rw [hgs] at hw
    have := wanted_ok hT hg hw
    rw [this]
    simp only [Bool.false_eq_true, if_false]
    refine hk σ _ W (.refl hW) ?_ (put_defers ..) (put_size ..) (fun t ht => put_other _ _ _ ht)
    rw [hds]
    exact hT.put hd (vrel_skip σ)
  · cases h
theorem steps_ok (hS : Sound P E) (hF : FRel P F) {Q : Exit → Act → World → Prop} {ops : Array Oper} {σ0 : Sg} {A0 : AW} {W0 : World} {a0 : Act} : ∀ (l : List Nat) {σ : Sg} {A A' : AW} {W : World} {T T' : TM} {a : Act},
    (∀ i, i ∈ l → i < ops.size) → Step P σ0 A0 W0 σ A W → TRel σ T a.tmps → GRel P σ → a.defers = [] → a.tmps.size = a0.tmps.size → (∀ t, t ∉ ops.toList.filterMap (·.dst) → a.tmps.getD t undef = a0.tmps.getD t undef) → (∀ o, o ∈ ops.toList → ∀ t, o.dst = some t → t < a0.tmps.size) →
    runSteps F E (l.filterMap fun i => (ops[i]?).map (stepOf P ops)) T A = some (T', A') →
    (∀ σ' a' W', Step P σ0 A0 W0 σ' A' W' → TRel σ' T' a'.tmps → a'.defers = [] → a'.tmps.size = a0.tmps.size → (∀ t, t ∉ ops.toList.filterMap (·.dst) → a'.tmps.getD t undef = a0.tmps.getD t undef) → Q .normal a' W') → wpOps P ops Q l a W
  | [], σ, A, A', W, T, T', a, _, hst, hT, hG, hdef, hn, hk, _, h, hq => by
    simp only [List.filterMap_nil, runSteps] at h
    cases h
    exact hq σ a W hst hT hdef hn hk
  | i :: l, σ, A, A', W, T, T', a, hl, hst, hT, hG, hdef, hn, hkeep, hd, h, hq => by
    have hi := hl i (List.mem_cons_self ..)
    have ho : ops[i]? = some ops[i] := Array.getElem?_eq_getElem hi
    rw [wpOps_cons]
    simp only [List.filterMap_cons, ho, Option.map_some, runSteps] at h
    split at h
    · rename_i T1 A1 h1
      refine step_ok hS hF ho hst.rel hT hG (fun t ht => by rw [hn]; exact hd ops[i] (by simp) t ht) h1 ?_
      intro σ' a' W' hst' hT' hdef' hn' hk'
      exact steps_ok hS hF l (fun j hj => hl j (List.mem_cons_of_mem _ hj)) (hst.trans hst') hT' (hG.mono hst'.le) (hdef'.trans hdef) (hn'.trans hn) (fun t ht => by
        rw [hk' t (fun e => ht (List.mem_filterMap.2 ⟨ops[i], by simp, e⟩))]; exact hkeep t ht) hd h hq
    · cases h
theorem range_steps (ops : Array Oper) : (List.range ops.size).filterMap (fun i => (ops[i]?).map (stepOf P ops)) = ops.toList.map (stepOf P ops) := by
  have : ∀ (l : List Oper) (f : Oper → IStep), (List.range l.length).filterMap (fun i => (l[i]?).map f) = l.map f := by
    intro l f
    induction l with
    | nil => rfl
    | cons x l ih =>
      rw [List.length_cons, List.range_succ_eq_map, List.filterMap_cons, List.filterMap_map]
      simp only [List.getElem?_cons_zero, Option.map_some, List.map_cons]
      congr 1
  have := this ops.toList (stepOf P ops)
  rw [Array.length_toList] at this
  rw [← this]
  congr 1
  funext i
  rw [Array.getElem?_toList]
theorem reg_ok (hS : Sound P E) (hF : FRel P F) {σ : Sg} {A A' : AW} {W : World} {T T' : TM} {a : Act} {ops : Array Oper} {id : Nat} (hW : WRel P σ A W) (hT : TRel σ T a.tmps) (hG : GRel P σ) (hdef : a.defers = [])
    (hd : ∀ d, d ∈ dstsN (.region id ops false) → d < a.tmps.size) (h : runSteps F E (ops.toList.map (stepOf P ops)) T A = some (T', A')) :
    (Code.region id ops false).wp P (Post P σ A W (dstsN (.region id ops false)) a ⟨.normal, T', A'⟩) a W := by
  refine wp_region (steps_ok hS hF (List.range ops.size) (fun i hi => by simpa using hi) (.refl hW) hT hG hdef rfl (fun _ _ => rfl) ?_ (by rw [range_steps]; exact h) ?_)
  · intro o ho t ht
    exact hd t (by simp only [dstsN, List.mem_filterMap]; exact ⟨o, ho, ht⟩)
  · intro σ' a' W' h1 h2 h3 h4 h5
    exact ⟨rfl, h3, h4, h5, σ', h1, h2⟩
end Go.AE
