import Derived.Test.YtgnebdiembekpaaGreatDoorA17
import Derived.Lib.Bytealg
import Derived.Lib.MakeNoZero
import Derived.Test.YtgnebdiembekpaaGreatDoorA3
/- Part of the proof: the abstract evaluator, its soundness, its runs: AeExt1, AeExt0, AeTab -/
set_option linter.unusedSectionVars false
set_option linter.unusedSimpArgs false
set_option linter.unusedVariables false
set_option linter.unnecessarySimpa false
namespace Go.AE
variable {P : Program} {σ : Sg} {A A' : AW} {W : World} {args : List AV} {vals : Array Value} {v : AV} {f : Nat}
/-- a function without a body, and the model's entry for it -/
structure ExtIs (P : Program) (f : Nat) (row : Array Value → Sem Value) : Prop where
  spec : ∃ fn, P.funcs[f]? = some fn ∧ (fn.name == "runtime.NumGoroutine") = false ∧ fn.body.isNone = true ∧ Extern.findNext fn = none ∧ Extern.find fn = some row
theorem ExtIs.run {row : Array Value → Sem Value} (h : ExtIs P f row) (args : Array Value) (W : World) : (callFunc f args).run P W = ((row args).run P W).andThen fun v w' => .ok (.value v) w' := by
  obtain ⟨fn, h1, h2, h3, h4, h5⟩ := h.spec
  exact run_callFunc_extern h1 h2 h3 h4 h5 args W
/-- what an entry of the functions' table that has no body is to keep -/
def ExtOk (P : Program) (f : Nat) (e : Ext) : Prop :=
  ∀ args vals σ A W v A', extRun e args A = some (v, A') → WRel P σ A W → GRel P σ → VRels σ args vals.toList → NRes P σ A W ((callFunc f vals).run P W) v A'
theorem vrels1 {x : AV} (h : VRels σ [x] vals.toList) : ∃ c, vals = #[c] ∧ VRel σ x c := by
  obtain ⟨l⟩ := vals
  simp only [VRels] at h
  obtain ⟨c, rest, h1, h2, rfl⟩ := h
  exact ⟨c, by rw [h1], h2⟩
theorem vrels2 {x y : AV} (h : VRels σ [x, y] vals.toList) : ∃ c d, vals = #[c, d] ∧ VRel σ x c ∧ VRel σ y d := by
  obtain ⟨l⟩ := vals
  simp only [VRels] at h
  obtain ⟨c, rest, h1, h2, d, rest', rfl, h3, rfl⟩ := h
  exact ⟨c, d, by rw [h1], h2, h3⟩
theorem nres_value {cv : Value} (hW : WRel P σ A W) {r : Result Next} (hr : r = .ok (.value cv) W) (hv : VRel σ v cv) : NRes P σ A W r v A :=
  .inl ⟨σ, cv, W, .inl hr, hv, .refl hW⟩
theorem ext_noesc (h : ExtIs P f Extern.AbiNoEscape.same) : ExtOk P f .noesc := by
  intro args vals σ A W v A' hr hW hG hv
  match args, hr with
  | [x], hr =>
    simp only [extRun, Option.some.injEq, Prod.mk.injEq] at hr
    obtain ⟨rfl, rfl⟩ := hr
    obtain ⟨c, rfl, hc⟩ := vrels1 hv
    refine nres_value hW (cv := c) ?_ hc
    rw [h.run]; rfl
  | [], hr => simp [extRun] at hr
  | _ :: _ :: _, hr => simp [extRun] at hr
theorem idxByte_eq (c : Nat) (hc : c ≤ 255) : ∀ (l : List UInt8) (i : Nat), idxByte c (l.map UInt8.toNat) i = if Lib.indexByte l c.toUInt8 = -1 then -1 else Lib.indexByte l c.toUInt8 + i
  | [], i => by simp [idxByte, Lib.indexByte]
  | b :: l, i => by
    have hge := Lib.indexByte_ge l c.toUInt8
    have hcc : c.toUInt8.toNat = c := by simp; omega
    simp only [List.map_cons, idxByte, Lib.indexByte]
    by_cases hb : b = c.toUInt8
    · have : Nat.beq b.toNat c = true := by rw [hb, hcc]; exact Nat.beq_refl c
      rw [this]
      simp [hb]
    · have : Nat.beq b.toNat c = false := by
        rw [Bool.eq_false_iff]
        intro h
        have := Nat.eq_of_beq_eq_true h
        exact hb (UInt8.toNat_inj.1 (by rw [hcc]; exact this))
      rw [this, idxByte_eq c hc l (i + 1)]
      have hbf : (b == c.toUInt8) = false := by simpa using hb
      simp only [hbf, Bool.false_eq_true, if_false]
      by_cases hm : Lib.indexByte l c.toUInt8 = -1
      · simp [hm]
      · have hbm : (Lib.indexByte l c.toUInt8 == -1) = false := by simpa using hm
        simp only [hm, if_false, hbm, Bool.false_eq_true]
        rw [if_neg (by omega)]
        omega
theorem cntByte_eq (c : Nat) (hc : c ≤ 255) : ∀ (l : List UInt8), cntByte c (l.map UInt8.toNat) = Lib.countByte l c.toUInt8
  | [] => by simp [cntByte, Lib.countByte]
  | b :: l => by
    have hcc : c.toUInt8.toNat = c := by simp; omega
    have ih := cntByte_eq c hc l
    simp only [List.map_cons, cntByte, Lib.countByte, List.count_cons] at ih ⊢
    by_cases hb : b = c.toUInt8
    · have : Nat.beq b.toNat c = true := by rw [hb, hcc]; exact Nat.beq_refl c
      rw [this, ih]
      simp [hb]
    · have : Nat.beq b.toNat c = false := by
        rw [Bool.eq_false_iff]
        intro h
        have := Nat.eq_of_beq_eq_true h
        exact hb (UInt8.toNat_inj.1 (by rw [hcc]; exact this))
      rw [this, ih]
      simp [hb]
theorem ext_idxb (h : ExtIs P f Extern.BytealgIndexByte.indexByte) : ExtOk P f .idxb := by
  intro args vals σ A W v A' hr hW hG hv
  unfold extRun at hr
  split at hr <;> rename_i hex
  all_goals try (cases hex; done)
  · rename_i s c
    split at hr
    · rename_i hc
      simp only [Option.some.injEq, Prod.mk.injEq] at hr
      obtain ⟨rfl, rfl⟩ := hr
      obtain ⟨x, y, rfl, h1, h2⟩ := vrels2 hv
      simp only [VRel] at h1 h2
      obtain ⟨b, rfl, rfl⟩ := h1
      subst h2
      refine nres_value hW (cv := .int .i64 (Lib.indexByte b.data.toList c.toUInt8)) ?_ ?_
      · rw [h.run, Lib.run_indexByteString]; rfl
      · simp only [VRel]
        rw [idxByte_eq c (Nat.le_of_ble_eq_true hc)]
        split
        · rename_i hm; rw [hm]
        · simp
    · cases hr
  · cases hr
theorem ext_cnt (h : ExtIs P f Extern.BytealgCount.count) : ExtOk P f .cnt := by
  intro args vals σ A W v A' hr hW hG hv
  unfold extRun at hr
  split at hr <;> rename_i hex
  all_goals try (cases hex; done)
  · rename_i s c
    split at hr
    · rename_i hc
      simp only [Option.some.injEq, Prod.mk.injEq] at hr
      obtain ⟨rfl, rfl⟩ := hr
      obtain ⟨x, y, rfl, h1, h2⟩ := vrels2 hv
      simp only [VRel] at h1 h2
      obtain ⟨b, rfl, rfl⟩ := h1
      subst h2
      refine nres_value hW (cv := .int .i64 (Lib.countByte b.data.toList c.toUInt8)) ?_ ?_
      · rw [h.run, Lib.run_countString]; rfl
      · simp only [VRel]
        rw [cntByte_eq c (Nat.le_of_ble_eq_true hc)]; rfl
    · cases hr
  · cases hr
theorem cmp_rel : ∀ (s t : List UInt8), (if bytesLt (s.map UInt8.toNat) (t.map UInt8.toNat) then (-1 : Int) else if bytesEq (s.map UInt8.toNat) (t.map UInt8.toNat) then 0 else 1) = Lib.compareBytes s t
  | [], [] => by simp [bytesLt, bytesEq, Lib.compareBytes]
  | [], _ :: _ => by simp [bytesLt, Lib.compareBytes]
  | _ :: _, [] => by simp [bytesLt, bytesEq, Lib.compareBytes]
  | a :: s, b :: t => by
    have ih := cmp_rel s t
    simp only [List.map_cons, bytesLt, bytesEq, Lib.compareBytes]
    rcases Nat.lt_trichotomy a.toNat b.toNat with hlt | heq | hgt
    · have h1 : Nat.blt a.toNat b.toNat = true := Nat.blt_eq.symm ▸ hlt
      have h2 : a < b := hlt
      simp [h1, h2]
    · have hab : a = b := UInt8.toNat_inj.1 heq
      subst hab
      have h1 : Nat.blt a.toNat a.toNat = false := by rw [Bool.eq_false_iff]; intro h; have := (Nat.blt_eq ▸ h : _ < _); omega
      have h2 : ¬ a < a := UInt8.lt_irrefl a
      rw [h1, Nat.beq_refl]
      simp only [Bool.false_eq_true, if_false, if_true, h2]
      exact ih
    · have h1 : Nat.blt a.toNat b.toNat = false := by rw [Bool.eq_false_iff]; intro h; have := (Nat.blt_eq ▸ h : _ < _); omega
      have h2 : Nat.beq a.toNat b.toNat = false := by rw [Bool.eq_false_iff]; intro h; have := Nat.eq_of_beq_eq_true h; omega
      have h3 : ¬ a < b := by intro h; have : a.toNat < b.toNat := h; omega
      have h4 : b < a := hgt
      simp [h1, h2, h3, h4]
theorem ext_cmps (h : ExtIs P f Extern.BytealgCompare.compare) : ExtOk P f .cmps := by
  intro args vals σ A W v A' hr hW hG hv
  unfold extRun at hr
  split at hr <;> rename_i hex
  all_goals try (cases hex; done)
  · rename_i s t
    simp only [Option.some.injEq, Prod.mk.injEq] at hr
    obtain ⟨rfl, rfl⟩ := hr
    obtain ⟨x, y, rfl, h1, h2⟩ := vrels2 hv
    simp only [VRel] at h1 h2
    obtain ⟨b, rfl, rfl⟩ := h1
    obtain ⟨d, rfl, rfl⟩ := h2
    refine nres_value hW (cv := .int .i64 (Lib.compareBytes b.data.toList d.data.toList)) ?_ ?_
    · rw [h.run, Lib.run_compareString]; rfl
    · simp only [VRel]
      rw [cmp_rel]
  · cases hr
theorem ext_clone (h : ExtIs P f Extern.MapsClone.clone) : ExtOk P f .clone := by
  intro args vals σ A W v A' hr hW hG hv
  unfold extRun at hr
  split at hr <;> rename_i hex
  all_goals try (cases hex; done)
  · rename_i t a
    split at hr
    · rename_i es clock ho
      simp only [Option.some.injEq, Prod.mk.injEq] at hr
      obtain ⟨rfl, rfl⟩ := hr
      obtain ⟨x, rfl, h1⟩ := vrels1 hv
      simp only [VRel] at h1
      obtain ⟨y, rfl, e, he, rfl⟩ := h1
      obtain ⟨e', ob, he', hb, hO⟩ := hW.obj a _ ho
      rw [he] at he'; cases he'
      obtain ⟨ces, rfl, h2, h3⟩ := hO
      have hrun : (Extern.MapsClone.clone #[.iface t (.map (some e.blk))]).run P W = .ok (.iface t (.map (some W.heap.size))) { W with heap := W.heap.push (.map ces clock) } := by
        have e1 : Extern.MapsClone.clone #[.iface t (.map (some e.blk))] = (getObj e.blk >>= fun o => match o with
          | .map entries clock => newObj (.map entries clock) >>= fun r => Pure.pure (Value.iface t (.map (some r)))
          | _ => stuck "maps.clone: a map expected") := rfl
        rw [e1]
        simp only [Sem.run_bind, getObj_map hb, Result.andThen_ok, run_newObj, Sem.run_pure]
      refine .inl ⟨_, .iface t (.map (some W.heap.size)), { W with heap := W.heap.push (.map ces clock) }, .inl ?_, ?_, Step.new hW (.map es clock) (.map ces clock) 0 0 W.drawn fun τ hτ => ⟨ces, rfl, h2.mono hτ, h3⟩⟩
      · rw [h.run, hrun]; rfl
      · simp only [VRel]
        exact ⟨_, rfl, _, Sg.set_same _ _ _, rfl⟩
    · cases hr
  · cases hr
theorem ext_mknz {ps : Array TypeId} {t et : TypeId} (ht : P.underlying t = some (.slice et)) (h : ExtIs P f (Extern.BytealgMakeNoZero.makeNoZero ps #[t])) : ExtOk P f (.mknz et) := by
  intro args vals σ A W v A' hr hW hG hv
  unfold extRun at hr
  split at hr <;> rename_i hex
  all_goals try (cases hex; done)
  · rename_i et' n
    cases hex
    split at hr
    · rename_i hn
      simp only [Option.some.injEq, Prod.mk.injEq] at hr
      obtain ⟨rfl, rfl⟩ := hr
      obtain ⟨x, rfl, h1⟩ := vrels1 hv
      simp only [VRel] at h1
      subst h1
      have hn' := Nat.le_of_ble_eq_true hn
      obtain ⟨cs, g1, g2, _⟩ := Lib.run_makeNoZero (P := P) W ps t et ht n (by omega)
      refine .inl ⟨σ.set A.nx ⟨W.heap.size, 0, cs.size⟩, .slice (some ⟨W.heap.size, 0, none⟩) n cs.size, W.drew.drew.alloc (.cells cs et), .inl ?_, ?_, ?_⟩
      · rw [h.run]
        have : (Extern.BytealgMakeNoZero.makeNoZero ps #[t] #[.int .i64 (.ofNat n)]).run P W = _ := g1
        rw [this]; rfl
      · simp only [VRel]
        exact ⟨_, cs.size, Sg.set_same _ _ _, rfl, g2, by simp, by omega⟩
      · refine Step.new hW (.cells [] et true false) (.cells cs et) 0 cs.size (W.drawn + 1 + 1) fun τ hτ => ⟨cs, (0, 0), rfl, by simp, by simp [VRels], by simp, by simp, by simp⟩
    · cases hr
  · cases hr
end Go.AE
namespace Go.AE
variable {P : Program} {σ : Sg} {A A' : AW} {W W' : World}
/-- an object somewhere behind all that was -/
theorem Step.newAt (h : WRel P σ A W) (o : AO) (ob : Obj) (gb sh tot : Nat) (hge : W.heap.size ≤ gb) (hb : W'.heap[gb]? = some ob) (hkeep : ∀ j, j < W.heap.size → W'.heap[j]? = W.heap[j]?)
    (hio : W'.os = W.os ∧ W'.output = W.output) (ho : ∀ τ, σ.le τ → OR P τ ⟨gb, sh, tot⟩ ob o) : Step P σ A W (σ.set A.nx ⟨gb, sh, tot⟩) (A.new o) W' where
  le := Sg.le_set h.none_nx
  rel := {
    obj := fun a o' ha => by
      by_cases hax : a = A.nx
      · subst hax
        rw [AW.get_new_same] at ha; cases ha
        exact ⟨_, ob, Sg.set_same _ _ _, hb, ho _ (Sg.le_set h.none_nx)⟩
      · rw [AW.get_new_other _ _ hax] at ha
        obtain ⟨e, ob', h1, h2, h3⟩ := h.obj a o' ha
        refine ⟨e, ob', by rw [Sg.set_other _ _ hax]; exact h1, ?_, h3.mono (Sg.le_set h.none_nx)⟩
        rw [hkeep _ (Array.getElem?_eq_some_iff.1 h2).1]; exact h2
    inj := fun a b e f ha hb' he hf hab => by
      by_cases hax : a = A.nx
      · subst hax
        rw [Sg.set_same] at he; cases he
        have hbx : b ≠ A.nx := fun e => hab e.symm
        rw [Sg.set_other _ _ hbx] at hf
        rw [AW.get_new_other _ _ hbx] at hb'
        have := h.lt hb' hf
        simp; omega
      · rw [Sg.set_other _ _ hax] at he
        rw [AW.get_new_other _ _ hax] at ha
        by_cases hbx : b = A.nx
        · subst hbx
          rw [Sg.set_same] at hf; cases hf
          have := h.lt ha he
          simp; omega
        · rw [Sg.set_other _ _ hbx] at hf
          rw [AW.get_new_other _ _ hbx] at hb'
          exact h.inj a b e f ha hb' he hf hab
    fresh := fun a e he => by
      simp only [AW.new, Ix.toNat_succ]
      by_cases hax : a = A.nx
      · subst hax; omega
      · rw [Sg.set_other _ _ hax] at he
        have := h.fresh a e he; omega }
  size := by have := (Array.getElem?_eq_some_iff.1 hb).1; omega
  pres := fun b hb' _ => hkeep b hb'
  img := fun a e ha he hlt => by
    by_cases hax : a = A.nx
    · subst hax
      rw [Sg.set_same] at he; cases he
      simp at hlt; omega
    · rw [Sg.set_other _ _ hax] at he
      rw [AW.get_new_other _ _ hax] at ha
      exact ⟨a, e, ha, he, rfl⟩
  olds := rfl
  nx := by simp [AW.new, Ix.toNat_succ]
  dom := fun a e he => by
    by_cases hax : a = A.nx
    · subst hax; right; exact Nat.le_refl _
    · rw [Sg.set_other _ _ hax] at he; exact .inl he
  cdom := fun a ha => by
    by_cases hax : a = A.nx
    · subst hax; right; exact Nat.le_refl _
    · simp only [AW.new, Tr.get_set_other _ _ _ _ hax] at ha; exact .inl ha
  keepA := fun a m b l hlt ha => by
    rw [AW.get_new_other _ _ (fun e => by rw [e] at hlt; exact Nat.lt_irrefl _ hlt)] at ha; exact ha
  keepH := fun a m b l e hlt ha he => by
    rw [AW.get_new_other _ _ (fun e => by rw [e] at hlt; exact Nat.lt_irrefl _ hlt)] at ha
    exact hkeep _ (h.lt (by rw [ha]; rfl) he)
  ro := fun a l et e ha he => by
    have hne : a ≠ A.nx := fun q => by rw [q, h.none_nx] at he; cases he
    exact ⟨by rw [AW.get_new_other _ _ hne]; exact ha, hkeep _ (h.lt (by rw [ha]; rfl) he)⟩
  io := hio
/-- nothing of what was has turned -/
theorem Step.kept (h : WRel P σ A W) (hs : W.heap.size ≤ W'.heap.size) (hkeep : ∀ j, j < W.heap.size → W'.heap[j]? = W.heap[j]?) (hio : W'.os = W.os ∧ W'.output = W.output) : Step P σ A W σ A W' where
  le := .refl σ
  rel := ⟨fun a o ha => by
    obtain ⟨e, ob, h1, h2, h3⟩ := h.obj a o ha
    exact ⟨e, ob, h1, by rw [hkeep _ (Array.getElem?_eq_some_iff.1 h2).1]; exact h2, h3⟩, h.inj, h.fresh⟩
  size := hs
  pres := fun b hb _ => hkeep b hb
  img := fun a e ha he _ => ⟨a, e, ha, he, rfl⟩
  olds := rfl
  nx := Nat.le_refl _
  dom := fun _ _ h => .inl h
  cdom := fun _ h => .inl h
  keepA := fun _ _ _ _ _ h => h
  keepH := fun a m b l e hlt ha he => hkeep _ (h.lt (by rw [ha]; rfl) he)
  ro := fun a l et e ha he => ⟨ha, hkeep _ (h.lt (by rw [ha]; rfl) he)⟩
  io := hio
end Go.AE
namespace Go.AE
variable {P : Program}
/-- an entry of the functions' table says what the program has -/
def FnOk (P : Program) (f : Nat) : IFn → Prop
  | .go np res body => ∃ fn c, P.funcs[f]? = some fn ∧ fn.name ≠ "runtime.NumGoroutine" ∧ fn.body = some c ∧ compC P c = body ∧ fn.results.toList.mapM (resOf P) = some res ∧ np ≤ fn.ntmps ∧ ∀ d, d ∈ dstsN c → d < fn.ntmps
  | .ext e => ExtOk P f e
def AllOk (P : Program) : List (Nat × IFn) → Prop
  | [] => True
  | p :: l => FnOk P p.1 p.2 ∧ AllOk P l
theorem tabOf_get {f : Nat} {x : IFn} : ∀ {l : List (Nat × IFn)}, AllOk P l → (tabOf l).get (Ix.ofTmp f) = some x → FnOk P f x
  | [], _, h => by simp [tabOf, Tr.get_leaf] at h
  | p :: l, hl, h => by
    simp only [tabOf] at h
    by_cases hf : f = p.1
    · subst hf
      rw [Tr.get_set_same] at h
      cases h; exact hl.1
    · rw [Tr.get_set_other _ _ _ _ (fun e => hf (Ix.ofTmp_inj e))] at h
      exact tabOf_get hl.2 h
theorem frel_of {l : List (Nat × IFn)} (h : AllOk P l) : FRel P (tabOf l) where
  go := fun f np res body hf => tabOf_get h hf
  ext := fun f e hf => tabOf_get h hf
/-- an entry, of the program -/
def irOf (P : Program) (f : Nat) : Option IFn :=
  match P.funcs[f]? with
  | some fn => match fn.body with
    | some c => match fn.results.toList.mapM (resOf P) with
      | some res => if (fn.name != "runtime.NumGoroutine") && Nat.ble (fn.params.size + fn.nfree) fn.ntmps && (dstsN c).all (fun d => Nat.blt d fn.ntmps) then some (.go (fn.params.size + fn.nfree) res (compC P c)) else none
      | none => none
    | none => none
  | none => none
theorem irOf_ok {f : Nat} {x : IFn} (h : irOf P f = some x) : FnOk P f x := by
  unfold irOf at h
  split at h
  · rename_i fn hfn
    split at h
    · rename_i c hb
      split at h
      · rename_i res hr
        split at h
        · rename_i hc
          simp only [Bool.and_eq_true, bne_iff_ne, ne_eq] at hc
          cases h
          refine ⟨fn, c, hfn, hc.1.1, hb, rfl, hr, Nat.le_of_ble_eq_true hc.1.2, fun d hd => ?_⟩
          have := List.all_eq_true.1 hc.2 d hd
          rw [Nat.blt_eq] at this; exact this
        · cases h
      · cases h
    · cases h
  · cases h
/-- a run of the evaluator, of a call -/
theorem calls_of_run (hm : P.follows .mixedOrders = true) {F : Tr IFn} (hF : FRel P F) {n f np : Nat} {res : List RVar} {body : ICode} (hf : F.get (Ix.ofTmp f) = some (.go np res body)) {args : List AV} {A A' : AW} {v : AV} (h : callFn F (ev F n) f args A = some (v, A')) {σ : Sg} {W : World} {vals : Array Value} (hW : WRel P σ A W) (hG : GRel P σ)
    (hr : VRels σ args vals.toList) : Calls P f vals W (After P σ A W v A') := by
  obtain ⟨fn, c, h1, h2, h3, _⟩ := hF.go f np res body hf
  have hen := runF_enter h1 h2 h3 vals W
  rcases callFn_ok (ev_sound hm hF n) hF h hW hG hr with ⟨σ', cv, W', hv, _⟩ | ⟨f', args', he, hc⟩
  · rcases hv with hv | ⟨hv, _⟩ <;> (rw [hen] at hv; cases hv)
  · rw [hen] at he
    cases he; exact hc
end Go.AE
