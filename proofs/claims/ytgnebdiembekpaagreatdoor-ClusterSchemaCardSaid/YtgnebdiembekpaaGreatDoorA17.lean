import Derived.Test.YtgnebdiembekpaaGreatDoorA16
/- Part of the proof: the abstract evaluator, its soundness, its runs: AeDraw7, AeDraw8, AeDraw9, AeDraw10, AeDraw11, AeDraw12, AeDraw13, AeDraw14, AeDraw15, AeDraw16, AeDraw17, AeDraw18, AeDraw19, AeTop1 -/
set_option linter.unusedSectionVars false
set_option linter.unusedSimpArgs false
set_option linter.unusedVariables false
set_option linter.unnecessarySimpa false
namespace Go.AE
variable {P : Program} {F : Tr IFn} {E : ICode → TM → AW → Option AR}
theorem mem_pairs {α : Type} : ∀ {l : List α} {p q : Nat} {x y : α}, p < q → l[p]? = some x → l[q]? = some y → (x, y) ∈ pairs l
  | z :: l, 0, q + 1, x, y, _, hx, hy => by
    simp at hx hy; subst hx
    simp only [pairs, List.mem_append, List.mem_map]
    exact .inl ⟨y, List.mem_of_getElem? hy, rfl⟩
  | z :: l, p + 1, q + 1, x, y, h, hx, hy => by
    simp at hx hy
    simp only [pairs, List.mem_append]
    exact .inr (mem_pairs (by omega) hx hy)
/-- what a checked order gives -/
structure OkOrd (P : Program) (ops : Array Oper) (ord : List Nat) : Prop where
  len : ord.length = ops.size
  all : ∀ (i : Nat), i < ops.size → i ∈ ord
  ne : ∀ (p q j i : Nat), p < q → ord[p]? = some j → ord[q]? = some i → j ≠ i
  back : ∀ (p q j i : Nat), p < q → ord[p]? = some j → ord[q]? = some i → reach ops ops.size i j = false
  cls : ∀ (p q j i : Nat), p < q → ord[p]? = some j → ord[q]? = some i → (clsAt P ops j = .E ∨ clsAt P ops j = .A) → (clsAt P ops i = .E ∨ clsAt P ops i = .L) → reach ops ops.size j i = true
  dst : ∀ (p q j i : Nat) (x y : Oper) (d : Tmp), p < q → ord[p]? = some j → ord[q]? = some i → ops[j]? = some x → ops[i]? = some y → x.dst = some d → y.dst ≠ some d
  looks : ∀ (i : Nat), i ∈ ord → ∀ (j : Nat), j ∈ looksOps ops i → reach ops ops.size j i = true ∨ (clsAt P ops i ≠ .L ∧ reach ops ops.size i j = true)
  op : ∀ (i : Nat), i ∈ ord → ∃ o, ops[i]? = some o ∧ (clsAt P ops i = .L → o.dst.isSome = true)
  dep : ∀ (i : Nat) (o : Oper), i ∈ ord → ops[i]? = some o → ∀ e, e ∈ o.after → Region.binds .any e = true → e.on < ops.size ∧ e.on ≠ i
theorem okOrder_spec {ops : Array Oper} {ord : List Nat} (h : okOrder P ops ord = true) : OkOrd P ops ord := by
  simp only [okOrder, Bool.and_eq_true] at h
  obtain ⟨⟨⟨⟨h1, h2⟩, h3⟩, h4⟩, h5⟩ := h
  have hp : ∀ (p q j i : Nat), p < q → ord[p]? = some j → ord[q]? = some i → ((j ≠ i ∧ reach ops ops.size i j = false) ∧
      (match clsAt P ops j, clsAt P ops i with
      | .E, .E | .A, .E | .E, .L | .A, .L => reach ops ops.size j i
      | _, _ => true) = true) ∧
    (match (ops[j]?).bind (·.dst), (ops[i]?).bind (·.dst) with
      | some d, some e => d != e
      | _, _ => true) = true := by
    intro p q j i hpq hj hi
    have := List.all_eq_true.1 h3 (j, i) (mem_pairs hpq hj hi)
    simp only [Bool.and_eq_true, bne_iff_ne, ne_eq, Bool.not_eq_true'] at this
    exact this
  exact {
    len := by simpa using h1
    all := fun i hi => by
      have := List.all_eq_true.1 h2 i (List.mem_range.2 hi)
      simpa using this
    ne := fun p q j i a b c => (hp p q j i a b c).1.1.1
    back := fun p q j i a b c => (hp p q j i a b c).1.1.2
    cls := fun p q j i a b c hj hi => by
      have := (hp p q j i a b c).1.2
      rcases hj with hj | hj <;> rcases hi with hi | hi <;> rw [hj, hi] at this <;> exact this
    dst := fun p q j i x y d a b c hx hy hd he => by
      have := (hp p q j i a b c).2
      simp [hx, hy, hd, he] at this
    looks := fun i hi j hj => by
      have := List.all_eq_true.1 (List.all_eq_true.1 h4 i hi) j hj
      simp only [Bool.or_eq_true, Bool.and_eq_true, bne_iff_ne, ne_eq] at this
      exact this
    op := fun i hi => by
      have := List.all_eq_true.1 h5 i hi
      split at this
      · rename_i o ho
        refine ⟨o, ho, fun hc => ?_⟩
        simp only [Bool.and_eq_true] at this
        have := this.1.2
        simpa [hc] using this
      · cases this
    dep := fun i o hi ho e he hb => by
      have := List.all_eq_true.1 h5 i hi
      simp only [ho, Bool.and_eq_true] at this
      have := Array.all_eq_true_iff_forall_mem.1 this.2 e he
      simpa [hb] using this }
end Go.AE
namespace Go.AE
variable {P : Program} {F : Tr IFn} {E : ICode → TM → AW → Option AR}
/-- what an operation waits for is done -/
def Waits (ops : Array Oper) (D : Nat → Prop) (i : Nat) : Prop := ∀ o, ops[i]? = some o → ∀ e, e ∈ o.after → Region.binds .any e = true → D e.on
theorem reach_done {ops : Array Oper} {D : Nat → Prop} (hD : ∀ i, D i → Waits ops D i) : ∀ {n j i : Nat}, reach ops n j i = true → Waits ops D i → D j
  | 0, j, i, h, _ => by simp [reach] at h
  | n + 1, j, i, h, hw => by
    simp only [reach] at h
    split at h
    · rename_i o ho
      obtain ⟨e, he, hb⟩ := Array.any_eq_true'.1 h
      simp only [Bool.and_eq_true, Bool.or_eq_true, beq_iff_eq] at hb
      have := hw o ho e he hb.1
      rcases hb.2 with h1 | h1
      · rw [← h1]; exact this
      · exact reach_done hD h1 (hD _ this)
    · cases h
end Go.AE
namespace Go.AE
variable {P : Program} {F : Tr IFn} {E : ICode → TM → AW → Option AR}
/-- how the operation at a place of the canonical order has come out -/
inductive Out (P : Program) (F : Tr IFn) (E : ICode → TM → AW → Option AR) (ops : Array Oper) (i : Nat) (o : Oper) (nm : Ix) (T : TM) (A : AW) (v : AV) : AW → Prop where
  | skip : wantedS T (stepOf P ops o).g = some false → v = .tup [] → Out P F E ops i o nm T A v A
  | run {A' : AW} : wantedS T (stepOf P ops o).g = some true → clsAt P ops i ≠ .A → runOp F E T A (stepOf P ops o).op = some (v, A') → Out P F E ops i o nm T A v A'
  | made {ob : AO} : wantedS T (stepOf P ops o).g = some true → clsAt P ops i = .A → aop T nm (stepOf P ops o).op = some (v, ob) → Out P F E ops i o nm T A v { A with cur := A.cur.set ob nm }
/-- the canonical run of a region -/
structure Canon (P : Program) (F : Tr IFn) (E : ICode → TM → AW → Option AR) (ops : Array Oper) (ord : List Nat) (T0 : TM) (A0 : AW) (n : Nat) (tr : Nat → TM × AW) (val : Nat → AV) (nm : Nat → Ix) : Prop where
  ok : OkOrd P ops ord
  start : tr 0 = (T0, { A0 with nx := addIx n A0.nx })
  step : ∀ (p i : Nat) (o : Oper), ord[p]? = some i → ops[i]? = some o → (tr (p + 1)).1 = putD (tr p).1 (stepOf P ops o).d (val p) ∧ Out P F E ops i o (nm p) (tr p).1 (tr p).2 (val p) (tr (p + 1)).2
  again : ∀ (p i : Nat) (o : Oper), ord[p]? = some i → ops[i]? = some o → clsAt P ops i = .E → ∀ (q j : Nat) (x : Oper) (d : Tmp), q < p → ord[q]? = some j → ops[j]? = some x → clsAt P ops j = .L → reach ops ops.size j i = false → x.dst = some d →
    wantedS (tr (p + 1)).1 (stepOf P ops x).g = some false ∨ ∃ u v' A', (tr (p + 1)).1.get (Ix.ofTmp d) = some u ∧ iop (tr (p + 1)).1 (tr (p + 1)).2 (stepOf P ops x).op = some (v', A') ∧ avEqD u v' = true
  names : ∀ (p i : Nat), ord[p]? = some i → clsAt P ops i = .A → A0.nx.toNat ≤ (nm p).toNat ∧ (nm p).toNat < (addIx n A0.nx).toNat
  inj : ∀ (p q i j : Nat), ord[p]? = some i → ord[q]? = some j → clsAt P ops i = .A → clsAt P ops j = .A → nm p = nm q → p = q
theorem addIx_toNat : ∀ (n : Nat) (i : Ix), (addIx n i).toNat = i.toNat + n
  | 0, i => rfl
  | n + 1, i => by rw [addIx, Ix.toNat_succ, addIx_toNat n i]; omega
theorem sameAgain_mem {T : TM} {A : AW} : ∀ {l : List (Ix × Option (Ix × Bool) × IOp)} {p : Ix} {g : Option (Ix × Bool)} {op : IOp}, sameAgain T A l = true → (p, g, op) ∈ l →
    wantedS T g = some false ∨ ∃ u v' A', T.get p = some u ∧ iop T A op = some (v', A') ∧ avEqD u v' = true
  | (p', g', op') :: l, p, g, op, h, hm => by
    simp only [sameAgain] at h
    split at h
    · rename_i hp
      cases hm with
      | head => exact .inl hp
      | tail _ hm => exact sameAgain_mem h hm
    · split at h
      · rename_i u hp
        split at h
        · rename_i v' A' hi
          rw [Bool.and_eq_true] at h
          cases hm with
          | head => exact .inr ⟨u, v', A', hp, hi, h.1⟩
          | tail _ hm => exact sameAgain_mem h.2 hm
        · cases h
      · cases h
end Go.AE
namespace Go.AE
variable {P : Program} {F : Tr IFn} {E : ICode → TM → AW → Option AR}
theorem drawSteps_length {ops : Array Oper} : ∀ {rest done : List Nat} {k : Nat}, (drawSteps P ops done k rest).length = rest.length
  | [], _, _ => rfl
  | j :: rest, done, k => by simp only [drawSteps, List.length_cons]; rw [drawSteps_length]
theorem Ix.toNat_inj' {a b : Ix} (h : a.toNat = b.toNat) : a = b := Ix.toNat_inj h
theorem stepD_out {ops : Array Oper} {i : Nat} {o : Oper} {base nm : Ix} {s : DStep} {T T1 : TM} {A A1 : AW} (ho : ops[i]? = some o) (hs : s.s = stepOf P ops o)
    (hn : (clsAt P ops i = .A ∧ ∃ k, s.nm = some k ∧ nm = addIx k base) ∨ (clsAt P ops i ≠ .A ∧ s.nm = none)) (h : stepD F E base s T A = some (T1, A1)) :
    ∃ v, T1 = putD T (stepOf P ops o).d v ∧ Out P F E ops i o nm T A v A1 := by
  unfold stepD at h
  rcases hn with ⟨hc, k, hk, rfl⟩ | ⟨hc, hk⟩
  · rw [hk, hs] at h
    simp only [runNamed] at h
    split at h
    · rename_i hw
      split at h
      · rename_i v ob ha
        cases h
        exact ⟨v, rfl, .made hw hc ha⟩
      · cases h
    · rename_i hw
      cases h
      exact ⟨_, rfl, .skip hw rfl⟩
    · cases h
  · rw [hk, hs] at h
    simp only [runStep] at h
    split at h
    · rename_i hw
      split at h
      · rename_i v A' ha
        cases h
        exact ⟨v, rfl, .run hw hc ha⟩
      · cases h
    · rename_i hw
      cases h
      exact ⟨_, rfl, .skip hw rfl⟩
    · cases h
theorem count_lt {α : Type} (f : α → Bool) : ∀ (l : List α) (p : Nat) (x : α), l[p]? = some x → f x = true → ((l.take p).filter f).length < (l.filter f).length
  | y :: l, 0, x, h, hf => by
    simp at h; subst h
    simp [List.filter_cons, hf]
  | y :: l, p + 1, x, h, hf => by
    simp at h
    have := count_lt f l p x h hf
    simp only [List.take_succ_cons, List.filter_cons]
    split <;> simp <;> omega
theorem count_mono {α : Type} (f : α → Bool) : ∀ (l : List α) (p q : Nat) (x : α), p < q → l[p]? = some x → f x = true → ((l.take p).filter f).length < ((l.take q).filter f).length
  | y :: l, 0, q + 1, x, _, h, hf => by
    simp at h; subst h
    simp [List.filter_cons, hf]
  | y :: l, p + 1, q + 1, x, hpq, h, hf => by
    simp at h
    have := count_mono f l p q x (by omega) h hf
    simp only [List.take_succ_cons, List.filter_cons]
    split <;> simp <;> omega
theorem canon_of {ops : Array Oper} {n : Nat} {l : List DStep} {T Tf : TM} {A Af : AW} (hl : drawOf P ops = .draw n l) (h : runDraw F E A.nx l T { A with nx := addIx n A.nx } = some (Tf, Af)) :
    ∃ ord tr val nm, Canon P F E ops ord T A n tr val nm ∧ tr ops.size = (Tf, Af) := by
  unfold drawOf at hl
  simp only [] at hl
  split at hl
  · rename_i hok
    injection hl with hn hl
    subst hl
    have ok := okOrder_spec hok
    generalize hord : ordOf P ops = ord at *
    have hN := runDraw_tr h
    rw [drawSteps_length, ok.len] at hN
    let nm : Nat → Ix := fun p => addIx (((ord.take p).filter fun j => clsAt P ops j == .A).length) A.nx
    let tr : Nat → TM × AW := fun p => (trD F E A.nx (drawSteps P ops [] 0 ord) T { A with nx := addIx n A.nx } p).getD (T, A)
    have hlt : ∀ {p i : Nat}, ord[p]? = some i → p < ops.size := fun {p i} hp => by
      rw [← ok.len]; exact (List.getElem?_eq_some_iff.1 hp).1
    have hstep : ∀ p, ∃ v, ∀ i o, ord[p]? = some i → ops[i]? = some o → (tr (p + 1)).1 = putD (tr p).1 (stepOf P ops o).d v ∧ Out P F E ops i o (nm p) (tr p).1 (tr p).2 v (tr (p + 1)).2 := by
      intro p
      cases hp : ord[p]? with
      | none => exact ⟨.undef, fun i o hi => by cases hi⟩
      | some i =>
        cases ho : ops[i]? with
        | none => exact ⟨.undef, fun j o hj hjo => by cases hj; rw [ho] at hjo; cases hjo⟩
        | some o =>
          obtain ⟨s, T1, A1, T2, A2, g1, g2, g3, g4, g5⟩ := trD_step hN (hlt hp)
          obtain ⟨s', k1, k2, k3, k4⟩ := drawSteps_get (P := P) (ops := ops) (done := []) (k := 0) hp
          rw [g1] at k1; cases k1
          rw [ho] at k2
          obtain ⟨v, hv1, hv2⟩ := stepD_out (nm := nm p) ho k2 (by
            by_cases hc : clsAt P ops i = .A
            · exact .inl ⟨hc, _, by rw [k3, hc]; rfl, by simp [nm]⟩
            · refine .inr ⟨hc, ?_⟩
              rw [k3]
              rw [if_neg (by simpa using hc)]) g4
          refine ⟨v, fun j x hj hx => ?_⟩
          cases hj
          rw [ho] at hx; cases hx
          have e1 : tr p = (T1, A1) := by simp [tr, g2]
          have e2 : tr (p + 1) = (T2, A2) := by simp [tr, g3]
          rw [e1, e2]
          exact ⟨hv1, hv2⟩
    obtain ⟨val, hval⟩ := Classical.skolem.1 hstep
    refine ⟨ord, tr, val, nm, ⟨ok, ?_, fun p i o hp ho => hval p i o hp ho, ?_, ?_, ?_⟩, ?_⟩
    · simp [tr, trD]
    · intro p i o hp ho hc q j x d hqp hq hx hcj hr hd
      obtain ⟨s, T1, A1, T2, A2, g1, g2, g3, g4, g5⟩ := trD_step hN (hlt hp)
      obtain ⟨s', k1, k2, k3, k4⟩ := drawSteps_get (P := P) (ops := ops) (done := []) (k := 0) hp
      rw [g1] at k1; cases k1
      have e2 : tr (p + 1) = (T2, A2) := by simp [tr, g3]
      rw [e2]
      refine sameAgain_mem g5 ?_
      rw [k4, hc]
      simp only [beq_self_eq_true, if_true, List.nil_append, List.mem_filterMap, List.mem_filter]
      refine ⟨j, ⟨?_, by rw [hcj, hr]; rfl⟩, by simp [hx, hd]⟩
      exact List.mem_of_getElem? (i := q) (by rw [List.getElem?_take, if_pos hqp]; exact hq)
    · intro p i hp hc
      have := count_lt (fun j => clsAt P ops j == .A) ord p i hp (by rw [hc]; rfl)
      simp only [nm, addIx_toNat]
      omega
    · intro p q i j hp hq hci hcj he
      have e := congrArg Ix.toNat he
      simp only [nm, addIx_toNat] at e
      rcases Nat.lt_trichotomy p q with hpq | hpq | hpq
      · have := count_mono (fun j => clsAt P ops j == .A) ord p q i hpq hp (by rw [hci]; rfl); omega
      · exact hpq
      · have := count_mono (fun j => clsAt P ops j == .A) ord q p j hpq hq (by rw [hcj]; rfl); omega
    · simp [tr, hN]
  · cases hl
end Go.AE
namespace Go.AE
variable {P : Program} {F : Tr IFn} {E : ICode → TM → AW → Option AR}
section
variable {ops : Array Oper} {ord : List Nat} {T0 : TM} {A0 : AW} {n : Nat} {tr : Nat → TM × AW} {val : Nat → AV} {nm : Nat → Ix}
theorem Out.d_eq {i : Nat} {o : Oper} {x : Ix} {T : TM} {A A' : AW} {v : AV} (h : Out P F E ops i o x T A v A') : (stepOf P ops o).d = o.dst.map Ix.ofTmp := by
  have : (stepOf P ops o).d = o.dst.map Ix.ofTmp ∨ ∃ w, (stepOf P ops o).g = none ∧ (stepOf P ops o).op = .bad w := by
    unfold stepOf
    cases guardOf ops o with
    | none => exact .inr ⟨_, rfl, rfl⟩
    | some g => exact .inl rfl
  rcases this with h1 | ⟨w, h1, h2⟩
  · exact h1
  · cases h with
    | skip h3 _ => rw [h1] at h3; simp [wantedS] at h3
    | run _ _ h3 => rw [h2] at h3; simp [runOp, iop] at h3
    | made _ _ h3 => rw [h2] at h3; simp [aop] at h3
/-- a target behind its place bears its value; what is no target yet is as it was -/
theorem Canon.at_ (C : Canon P F E ops ord T0 A0 n tr val nm) : ∀ q, q ≤ ops.size → ∀ t,
    (∀ p i o, p < q → ord[p]? = some i → ops[i]? = some o → o.dst = some t → TM.at_ (tr q).1 (Ix.ofTmp t) = val p) ∧
    ((∀ p i o, p < q → ord[p]? = some i → ops[i]? = some o → o.dst ≠ some t) → TM.at_ (tr q).1 (Ix.ofTmp t) = TM.at_ T0 (Ix.ofTmp t))
  | 0, _, t => ⟨fun p i o h => by omega, fun _ => by rw [C.start]⟩
  | q + 1, hq, t => by
    have hlt : q < ord.length := by rw [C.ok.len]; omega
    have hoq : ord[q]? = some ord[q] := List.getElem?_eq_getElem hlt
    obtain ⟨o, ho, _⟩ := C.ok.op ord[q] (List.getElem_mem hlt)
    obtain ⟨h1, h2⟩ := C.step q _ o hoq ho
    rw [h2.d_eq] at h1
    obtain ⟨ih1, ih2⟩ := Canon.at_ C q (by omega) t
    constructor
    · intro p i x hp hpi hx hd
      by_cases hpq : p = q
      · subst hpq
        rw [hoq] at hpi; cases hpi
        rw [ho] at hx; cases hx
        rw [h1, hd]
        simp only [Option.map_some, putD]
        rw [ofTmp_at_set, if_pos rfl]
      · have hne := C.ok.dst p q i _ x o t (by omega) hpi hoq hx ho hd
        rw [h1]
        cases hod : o.dst with
        | none => exact ih1 p i x (by omega) hpi hx hd
        | some d =>
          simp only [Option.map_some, putD]
          rw [ofTmp_at_set, if_neg (fun e => hne (by rw [hod, e]))]
          exact ih1 p i x (by omega) hpi hx hd
    · intro hno
      have := hno q _ o (by omega) hoq ho
      rw [h1]
      cases hod : o.dst with
      | none => exact ih2 fun p i x hp => hno p i x (by omega)
      | some d =>
        simp only [Option.map_some, putD]
        rw [ofTmp_at_set, if_neg (fun e => this (by rw [hod, e]))]
        exact ih2 fun p i x hp => hno p i x (by omega)
end
end Go.AE
namespace Go.AE
variable {P : Program} {F : Tr IFn} {E : ICode → TM → AW → Option AR}
/-- what holds while a region's operations are done in some order: D: which are done -/
structure DInv (P : Program) (ops : Array Oper) (ord : List Nat) (T0 : TM) (A0 : AW) (tr : Nat → TM × AW) (val : Nat → AV) (nm : Nat → Ix) (σ0 : Sg) (W0 : World) (a0 : Act) (D : Nat → Prop) (q : Nat) (σ : Sg) (a : Act) (W : World) : Prop where
  hq : q ≤ ops.size
  eff : ∀ (p i : Nat), ord[p]? = some i → clsAt P ops i = .E → (D i ↔ p < q)
  mem : ∀ (p i : Nat), ord[p]? = some i → clsAt P ops i = .A → p < q → D i
  st : Step P σ0 A0 W0 σ (tr q).2 W
  early : ∀ (p i : Nat) (o : Oper) (ob : AO), ord[p]? = some i → ops[i]? = some o → clsAt P ops i = .A → D i → q ≤ p → wantedS (tr p).1 (stepOf P ops o).g = some true → aop (tr p).1 (nm p) (stepOf P ops o).op = some (val p, ob) →
    ∃ e obj, σ (nm p) = some e ∧ W0.heap.size ≤ e.blk ∧ W.heap[e.blk]? = some obj ∧ OR P σ e obj ob ∧ ∀ x f, ((tr q).2.get x).isSome = true → σ x = some f → f.blk ≠ e.blk
  sep : ∀ (p p' i i' : Nat) (e e' : Ent), ord[p]? = some i → ord[p']? = some i' → clsAt P ops i = .A → clsAt P ops i' = .A → q ≤ p → q ≤ p' → p ≠ p' → σ (nm p) = some e → σ (nm p') = some e' → e.blk ≠ e'.blk
  free : ∀ (p i : Nat), ord[p]? = some i → clsAt P ops i = .A → ¬ D i → σ (nm p) = none
  done : ∀ (p i : Nat) (o : Oper) (t : Tmp), ord[p]? = some i → ops[i]? = some o → D i → o.dst = some t → VRel σ (val p) (a.tmps.getD t undef)
  rest : ∀ (t : Tmp), (∀ (i : Nat) (o : Oper), ops[i]? = some o → D i → o.dst ≠ some t) → VRel σ (TM.at_ T0 (Ix.ofTmp t)) (a.tmps.getD t undef)
  lt : ∀ (p i : Nat) (e : Ent), ord[p]? = some i → clsAt P ops i = .A → q ≤ p → σ (nm p) = some e → e.blk < W.heap.size
  names : ∀ (p i : Nat), ord[p]? = some i → clsAt P ops i = .A → (nm p).toNat < (tr q).2.nx.toNat
  sub : ∀ (c : Nat), c ≤ q → (∀ (r j : Nat), c ≤ r → r < q → ord[r]? = some j → clsAt P ops j ≠ .E) → (∀ x o, (tr c).2.get x = some o → (tr q).2.get x = some o) ∧ (tr c).2.nx = (tr q).2.nx
  df : a.defers = []
  sz : a.tmps.size = a0.tmps.size
  kp : ∀ t, t ∉ ops.toList.filterMap (·.dst) → a.tmps.getD t undef = a0.tmps.getD t undef
end Go.AE
namespace Go.AE
variable {P : Program} {F : Tr IFn} {E : ICode → TM → AW → Option AR}
open Classical in
/-- the temporaries as the done operations have them -/
noncomputable def TS (ops : Array Oper) (ord : List Nat) (T0 : TM) (val : Nat → AV) (D : Nat → Prop) : Nat → TM
  | 0 => T0
  | r + 1 => match ord[r]? with
    | some i => match ops[i]? with
      | some o => if D i then putD (TS ops ord T0 val D r) (o.dst.map Ix.ofTmp) (val r) else TS ops ord T0 val D r
      | none => TS ops ord T0 val D r
    | none => TS ops ord T0 val D r
theorem TS_at {ops : Array Oper} {ord : List Nat} {T0 : TM} {val : Nat → AV} {D : Nat → Prop} (ok : OkOrd P ops ord) : ∀ q, ∀ t,
    (∀ p i o, p < q → ord[p]? = some i → ops[i]? = some o → D i → o.dst = some t → TM.at_ (TS ops ord T0 val D q) (Ix.ofTmp t) = val p) ∧
    ((∀ p i o, p < q → ord[p]? = some i → ops[i]? = some o → D i → o.dst ≠ some t) → TM.at_ (TS ops ord T0 val D q) (Ix.ofTmp t) = TM.at_ T0 (Ix.ofTmp t))
  | 0, t => ⟨fun p i o h => by omega, fun _ => rfl⟩
  | q + 1, t => by
    obtain ⟨ih1, ih2⟩ := TS_at (T0 := T0) (val := val) (D := D) ok q t
    have hsame : TS ops ord T0 val D (q + 1) = TS ops ord T0 val D q → (∀ i o, ord[q]? = some i → ops[i]? = some o → ¬ D i) → _ := fun he hno => (⟨fun p i o hp hpi ho hD hd => by
        rw [he]
        by_cases hpq : p = q
        · subst hpq; exact absurd hD (hno i o hpi ho)
        · exact ih1 p i o (by omega) hpi ho hD hd, fun h => by rw [he]; exact ih2 fun p i o hp => h p i o (by omega)⟩ :
        (∀ p i o, p < q + 1 → ord[p]? = some i → ops[i]? = some o → D i → o.dst = some t → TM.at_ (TS ops ord T0 val D (q + 1)) (Ix.ofTmp t) = val p) ∧
        ((∀ p i o, p < q + 1 → ord[p]? = some i → ops[i]? = some o → D i → o.dst ≠ some t) → TM.at_ (TS ops ord T0 val D (q + 1)) (Ix.ofTmp t) = TM.at_ T0 (Ix.ofTmp t)))
    cases hi : ord[q]? with
    | none => exact hsame (by simp [TS, hi]) (fun i o h => by rw [hi] at h; cases h)
    | some i =>
      cases ho : ops[i]? with
      | none => exact hsame (by simp [TS, hi, ho]) (fun j o h h' => by rw [hi] at h; cases h; rw [ho] at h'; cases h')
      | some o =>
        by_cases hD : D i
        · have he : TS ops ord T0 val D (q + 1) = putD (TS ops ord T0 val D q) (o.dst.map Ix.ofTmp) (val q) := by simp [TS, hi, ho, hD]
          rw [he]
          constructor
          · intro p j x hp hpj hx hDj hd
            by_cases hpq : p = q
            · subst hpq
              rw [hi] at hpj; cases hpj
              rw [ho] at hx; cases hx
              rw [hd]
              simp only [Option.map_some, putD]
              rw [ofTmp_at_set, if_pos rfl]
            · have hne := ok.dst p q j i x o t (by omega) hpj hi hx ho hd
              cases hod : o.dst with
              | none => exact ih1 p j x (by omega) hpj hx hDj hd
              | some d =>
                simp only [Option.map_some, putD]
                rw [ofTmp_at_set, if_neg (fun e => hne (by rw [hod, e]))]
                exact ih1 p j x (by omega) hpj hx hDj hd
          · intro hno
            have := hno q i o (by omega) hi ho hD
            cases hod : o.dst with
            | none => exact ih2 fun p j x hp => hno p j x (by omega)
            | some d =>
              simp only [Option.map_some, putD]
              rw [ofTmp_at_set, if_neg (fun e => this (by rw [hod, e]))]
              exact ih2 fun p j x hp => hno p j x (by omega)
        · exact hsame (by simp [TS, hi, ho, hD]) (fun j o' h h' => by rw [hi] at h; cases h; exact hD)
end Go.AE
namespace Go.AE
variable {P : Program} {F : Tr IFn} {E : ICode → TM → AW → Option AR}
section
variable {ops : Array Oper} {ord : List Nat} {T0 : TM} {A0 : AW} {n : Nat} {tr : Nat → TM × AW} {val : Nat → AV} {nm : Nat → Ix} {σ0 σ : Sg} {W0 W : World} {a0 a : Act} {D : Nat → Prop} {q : Nat}
theorem place_of (ok : OkOrd P ops ord) {i : Nat} (hi : i < ops.size) : ∃ p, p < ops.size ∧ ord[p]? = some i := by
  obtain ⟨p, hp, he⟩ := List.mem_iff_getElem.1 (ok.all i hi)
  exact ⟨p, by rw [← ok.len]; exact hp, by rw [List.getElem?_eq_getElem hp, he]⟩
theorem lt_of_op {i : Nat} {o : Oper} (h : ops[i]? = some o) : i < ops.size := (Array.getElem?_eq_some_iff.1 h).1
/-- the done operations' temporaries are the real ones -/
theorem DInv.trel (ok : OkOrd P ops ord) (I : DInv P ops ord T0 A0 tr val nm σ0 W0 a0 D q σ a W) : TRel σ (TS ops ord T0 val D ops.size) a.tmps := by
  intro t
  obtain ⟨h1, h2⟩ := TS_at (T0 := T0) (val := val) (D := D) ok ops.size t
  by_cases h : ∃ p i o, p < ops.size ∧ ord[p]? = some i ∧ ops[i]? = some o ∧ D i ∧ o.dst = some t
  · obtain ⟨p, i, o, hp, hpi, ho, hD, hd⟩ := h
    rw [h1 p i o hp hpi ho hD hd]
    exact I.done p i o t hpi ho hD hd
  · rw [h2 fun p i o hp hpi ho hD hd => h ⟨p, i, o, hp, hpi, ho, hD, hd⟩]
    refine I.rest t fun i o ho hD hd => ?_
    obtain ⟨p, hp, hpi⟩ := place_of ok (lt_of_op ho)
    exact h ⟨p, i, o, hp, hpi, ho, hD, hd⟩
/-- at what an operation looks the done ones' temporaries are those of the canonical run -/
theorem looks_same (C : Canon P F E ops ord T0 A0 n tr val nm) (hD : ∀ i, D i → Waits ops D i) {p i : Nat} {o : Oper} (hp : ord[p]? = some i) (ho : ops[i]? = some o) (hw : Waits ops D i) (hn : ¬ D i) {t : Tmp} (ht : t ∈ o.looksAt ops) :
    TM.at_ (TS ops ord T0 val D ops.size) (Ix.ofTmp t) = TM.at_ (tr p).1 (Ix.ofTmp t) := by
  have hpn : p < ops.size := by rw [← C.ok.len]; exact (List.getElem?_eq_some_iff.1 hp).1
  obtain ⟨h1, h2⟩ := TS_at (T0 := T0) (val := val) (D := D) C.ok ops.size t
  obtain ⟨g1, g2⟩ := C.at_ p (by omega) t
  by_cases h : ∃ (r j : Nat) (x : Oper), ord[r]? = some j ∧ ops[j]? = some x ∧ x.dst = some t
  · obtain ⟨r, j, x, hr, hx, hd⟩ := h
    have hrn : r < ops.size := by rw [← C.ok.len]; exact (List.getElem?_eq_some_iff.1 hr).1
    have hj : j ∈ looksOps ops i := by
      simp only [looksOps, ho, List.mem_filter, List.mem_range]
      refine ⟨lt_of_op hx, ?_⟩
      simp [hx, hd, ht]
    have uniq : ∀ (r' j' : Nat) (x' : Oper), ord[r']? = some j' → ops[j']? = some x' → x'.dst = some t → r' = r := by
      intro r' j' x' hr' hx' hd'
      rcases Nat.lt_trichotomy r' r with hlt | heq | hlt
      · exact absurd hd (C.ok.dst r' r j' j x' x t hlt hr' hr hx' hx hd')
      · exact heq
      · exact absurd hd' (C.ok.dst r r' j j' x x' t hlt hr hr' hx hx' hd)
    rcases C.ok.looks i (List.mem_of_getElem? hp) j hj with hre | ⟨_, hre⟩
    · have hDj := reach_done hD hre hw
      have hrp : r < p := by
        rcases Nat.lt_trichotomy r p with hlt | heq | hlt
        · exact hlt
        · subst heq; rw [hp] at hr; cases hr; exact absurd hDj hn
        · have := C.ok.back p r i j hlt hp hr; rw [this] at hre; cases hre
      rw [h1 r j x hrn hr hx hDj hd, g1 r j x hrp hr hx hd]
    · have hnD : ¬ D j := fun h => hn (reach_done hD hre (hD _ h))
      have hpr : p < r ∨ p = r := by
        rcases Nat.lt_trichotomy r p with hlt | heq | hlt
        · have := C.ok.back r p j i hlt hr hp; rw [this] at hre; cases hre
        · exact .inr heq.symm
        · exact .inl hlt
      rw [h2 fun r' j' x' _ hr' hx' hD' hd' => by
        have := uniq r' j' x' hr' hx' hd'
        subst this; rw [hr] at hr'; cases hr'; exact hnD hD']
      rw [g2 fun r' j' x' hlt hr' hx' hd' => by
        have := uniq r' j' x' hr' hx' hd'
        omega]
  · rw [h2 fun r j x _ hr hx _ hd => h ⟨r, j, x, hr, hx, hd⟩, g2 fun r j x _ hr hx hd => h ⟨r, j, x, hr, hx, hd⟩]
end
end Go.AE
namespace Go.AE
variable {P : Program} {F : Tr IFn} {E : ICode → TM → AW → Option AR}
section
variable {ops : Array Oper} {ord : List Nat} {T0 : TM} {A0 : AW} {n : Nat} {tr : Nat → TM × AW} {val : Nat → AV} {nm : Nat → Ix} {σ0 σ σ' : Sg} {W0 W W' : World} {a0 a : Act} {D : Nat → Prop} {q q' : Nat}
theorem put_same (a : Act) {d : Tmp} (v : Value) (h : d < a.tmps.size) : (a.put (some d) v).tmps.getD d undef = v := by
  simp [Act.put, h]
/-- one operation more: the temporaries -/
theorem DInv.next (ok : OkOrd P ops ord) (I : DInv P ops ord T0 A0 tr val nm σ0 W0 a0 D q σ a W) {p i : Nat} {o : Oper} (hp : ord[p]? = some i) (ho : ops[i]? = some o) (hle : σ.le σ') {cv : Value} (hv : VRel σ' (val p) cv) (hd : ∀ t, o.dst = some t → t < a0.tmps.size)
    (h1 : q' ≤ ops.size) (h2 : ∀ (r j : Nat), ord[r]? = some j → clsAt P ops j = .E → ((D j ∨ j = i) ↔ r < q')) (h3 : ∀ (r j : Nat), ord[r]? = some j → clsAt P ops j = .A → r < q' → (D j ∨ j = i)) (h4 : Step P σ0 A0 W0 σ' (tr q').2 W')
    (h5 : ∀ (r j : Nat) (x : Oper) (ob : AO), ord[r]? = some j → ops[j]? = some x → clsAt P ops j = .A → (D j ∨ j = i) → q' ≤ r → wantedS (tr r).1 (stepOf P ops x).g = some true → aop (tr r).1 (nm r) (stepOf P ops x).op = some (val r, ob) →
      ∃ e obj, σ' (nm r) = some e ∧ W0.heap.size ≤ e.blk ∧ W'.heap[e.blk]? = some obj ∧ OR P σ' e obj ob ∧ ∀ x f, ((tr q').2.get x).isSome = true → σ' x = some f → f.blk ≠ e.blk)
    (h6 : ∀ (r r' j j' : Nat) (e e' : Ent), ord[r]? = some j → ord[r']? = some j' → clsAt P ops j = .A → clsAt P ops j' = .A → q' ≤ r → q' ≤ r' → r ≠ r' → σ' (nm r) = some e → σ' (nm r') = some e' → e.blk ≠ e'.blk)
    (h7 : ∀ (r j : Nat), ord[r]? = some j → clsAt P ops j = .A → ¬ (D j ∨ j = i) → σ' (nm r) = none)
    (h8 : ∀ (r j : Nat) (e : Ent), ord[r]? = some j → clsAt P ops j = .A → q' ≤ r → σ' (nm r) = some e → e.blk < W'.heap.size)
    (h9 : ∀ (r j : Nat), ord[r]? = some j → clsAt P ops j = .A → (nm r).toNat < (tr q').2.nx.toNat)
    (h10 : ∀ (c : Nat), c ≤ q' → (∀ (r j : Nat), c ≤ r → r < q' → ord[r]? = some j → clsAt P ops j ≠ .E) → (∀ x o, (tr c).2.get x = some o → (tr q').2.get x = some o) ∧ (tr c).2.nx = (tr q').2.nx) :
    DInv P ops ord T0 A0 tr val nm σ0 W0 a0 (fun j => D j ∨ j = i) q' σ' (a.put o.dst cv) W' where
  hq := h1
  eff := h2
  mem := h3
  st := h4
  early := h5
  sep := h6
  free := h7
  lt := h8
  names := h9
  sub := h10
  done := fun r j x t hr hx hD hdt => by
    by_cases hji : j = i
    · subst hji
      have : r = p := by
        rcases Nat.lt_trichotomy r p with hlt | heq | hlt
        · exact absurd rfl (ok.ne r p j j hlt hr hp)
        · exact heq
        · exact absurd rfl (ok.ne p r j j hlt hp hr)
      subst this
      rw [ho] at hx; cases hx
      rw [hdt, put_same a cv (by rw [I.sz]; exact hd t hdt)]
      exact hv
    · have hD := hD.resolve_right hji
      have hne : o.dst ≠ some t := by
        intro hot
        have hrp : r ≠ p := fun e => by subst e; rw [hp] at hr; cases hr; exact hji rfl
        rcases Nat.lt_or_gt_of_ne hrp with hlt | hlt
        · exact ok.dst r p j i x o t hlt hr hp hx ho hdt hot
        · exact ok.dst p r i j o x t hlt hp hr ho hx hot hdt
      rw [put_other _ _ _ hne]
      exact (I.done r j x t hr hx hD hdt).mono hle
  rest := fun t hno => by
    have hne : o.dst ≠ some t := hno i o ho (.inr rfl)
    rw [put_other _ _ _ hne]
    exact (I.rest t fun j x hx hD => hno j x hx (.inl hD)).mono hle
  df := by rw [put_defers]; exact I.df
  sz := by rw [put_size]; exact I.sz
  kp := fun t ht => by
    rw [put_other _ _ _ (fun e => ht (List.mem_filterMap.2 ⟨o, by rw [Array.mem_toList_iff]; exact Array.mem_of_getElem? ho, e⟩))]
    exact I.kp t ht
end
end Go.AE
namespace Go.AE
variable {P : Program} {F : Tr IFn} {E : ICode → TM → AW → Option AR}
theorem ix_beq {a b : Ix} (h : decide (a = b) = true) : a = b := of_decide_eq_true h
theorem avsEq_eq : ∀ {u v : List AV}, avsEq u v = true → u = v
  | [], [], _ => rfl
  | [], _ :: _, h => by simp [avsEq] at h
  | _ :: _, [], h => by simp [avsEq] at h
  | a :: u, b :: v, h => by
    simp only [avsEq, Bool.and_eq_true] at h
    rw [avEq_eq h.1, avsEq_eq h.2]
theorem avEqD_eq {u v : AV} (h : avEqD u v = true) : u = v := by
  cases u <;> cases v <;> simp only [avEqD] at h <;> first
    | exact avEq_eq h
    | rw [avsEq_eq h]
theorem ev_at (T : TM) (p : Ix) : Arg.ev T (.t p) = TM.at_ T p := rfl
theorem argOf_tmp {x : Operand} {p : Ix} (h : argOf P x = some (.t p)) : ∃ t, x = .tmp t ∧ p = Ix.ofTmp t := by
  cases x with
  | tmp t => simp only [argOf, Option.some.injEq, Arg.t.injEq] at h; exact ⟨t, rfl, h.symm⟩
  | const v =>
    simp only [argOf, Option.map_eq_some_iff] at h
    obtain ⟨_, _, h⟩ := h; cases h
  | global g =>
    simp only [argOf] at h
    split at h <;> cases h
  | func f => simp only [argOf, Option.some.injEq] at h; cases h
theorem ev_same {T T' : TM} {o : Oper} {i : IOp} {ops : Array Oper} (hc : compO P o = some i) (h : ∀ t, t ∈ o.looksAt ops → TM.at_ T (Ix.ofTmp t) = TM.at_ T' (Ix.ofTmp t)) : ∀ y, y ∈ i.args → y.ev T = y.ev T' := by
  intro y hy
  obtain ⟨x, hx, hxy⟩ := compO_args hc y hy
  cases y with
  | c v => rfl
  | t p =>
    obtain ⟨t, rfl, rfl⟩ := argOf_tmp hxy
    rw [ev_at, ev_at]
    exact h t (List.mem_append_left _ (List.mem_filterMap.2 ⟨.tmp t, hx, rfl⟩))
theorem wantedS_at (T : TM) (p : Ix) (w : Bool) : wantedS T (some (p, w)) = (match TM.at_ T p with
    | .bool b => some (b == w)
    | .tup _ => some false
    | _ => none) := by
  simp only [wantedS, TM.at_]
  cases hg : T.get p with
  | none => rfl
  | some v => cases v <;> rfl
theorem wanted_same {T T' : TM} {o : Oper} {ops : Array Oper} {g : Option (Ix × Bool)} (hg : guardOf ops o = some g) (h : ∀ t, t ∈ o.looksAt ops → TM.at_ T (Ix.ofTmp t) = TM.at_ T' (Ix.ofTmp t)) : wantedS T g = wantedS T' g := by
  unfold guardOf at hg
  cases hgd : o.guard with
  | none => simp only [hgd] at hg; cases hg; rfl
  | some jw =>
    obtain ⟨j, w⟩ := jw
    simp only [hgd] at hg
    split at hg
    · rename_i t ht
      cases hg
      rw [wantedS_at, wantedS_at, h t]
      unfold Oper.looksAt
      rw [hgd]
      refine List.mem_append_right _ ?_
      simp [ht]
    · cases hg
/-- what has been run has a guard and an operation -/
theorem Out.spec {ops : Array Oper} {i : Nat} {o : Oper} {x : Ix} {T : TM} {A A' : AW} {v : AV} (h : Out P F E ops i o x T A v A') : ∃ g, guardOf ops o = some g ∧ (stepOf P ops o).g = g := by
  unfold stepOf
  cases hg : guardOf ops o with
  | some g => exact ⟨g, rfl, rfl⟩
  | none =>
    exfalso
    have h1 : (stepOf P ops o).g = none ∧ (stepOf P ops o).op = .bad "guard" := by unfold stepOf; rw [hg]; exact ⟨rfl, rfl⟩
    cases h with
    | skip h3 _ => rw [h1.1] at h3; simp [wantedS] at h3
    | run _ _ h3 => rw [h1.2] at h3; simp [runOp, iop] at h3
    | made _ _ h3 => rw [h1.2] at h3; simp [aop] at h3
theorem comp_of_ne_bad {ops : Array Oper} {o : Oper} (h : ∀ w, (stepOf P ops o).op ≠ .bad w) : compO P o = some (stepOf P ops o).op := by
  obtain ⟨g, _, _, _, hc⟩ := stepOf_spec rfl h
  exact hc
theorem clsAt_eq {ops : Array Oper} {i : Nat} {o : Oper} (ho : ops[i]? = some o) : clsAt P ops i = (stepOf P ops o).op.cls := by
  simp [clsAt, ho]
theorem runOp_iop {T : TM} {A : AW} {i : IOp} (h : i.cls ≠ .E) : runOp F E T A i = iop T A i := by
  cases i <;> first | rfl | exact absurd rfl h
/-- what makes nothing and is no effect leaves the world as it is -/
theorem Out.world {ops : Array Oper} {i : Nat} {o : Oper} {x : Ix} {T : TM} {A A' : AW} {v : AV} (h : Out P F E ops i o x T A v A') (ho : ops[i]? = some o) (hE : clsAt P ops i ≠ .E) (hA : clsAt P ops i ≠ .A) : A' = A := by
  cases h with
  | skip => rfl
  | made _ hc _ => exact absurd hc hA
  | run h1 h2 h3 =>
    rw [clsAt_eq ho] at hE hA
    rw [runOp_iop hE] at h3
    cases hc : (stepOf P ops o).op.cls with
    | P =>
      rw [iop_plain (A := A) hc] at h3
      simp only [Option.map_eq_some_iff] at h3
      obtain ⟨_, _, h3⟩ := h3
      cases h3; rfl
    | L => exact iop_load hc h3
    | A => exact absurd hc hA
    | E => exact absurd hc hE
theorem Out.nx {ops : Array Oper} {i : Nat} {o : Oper} {x : Ix} {T : TM} {A A' : AW} {v : AV} (h : Out P F E ops i o x T A v A') (ho : ops[i]? = some o) (hE : clsAt P ops i ≠ .E) : A'.nx = A.nx := by
  by_cases hA : clsAt P ops i = .A
  · cases h with
    | skip => rfl
    | made => rfl
    | run _ h2 _ => exact absurd hA h2
  · rw [h.world ho hE hA]
end Go.AE
namespace Go.AE
variable {P : Program} {F : Tr IFn} {E : ICode → TM → AW → Option AR}
section
variable {ops : Array Oper} {ord : List Nat} {T0 : TM} {A0 : AW} {n : Nat} {tr : Nat → TM × AW} {val : Nat → AV} {nm : Nat → Ix} {σ0 σ σ' : Sg} {W0 W W' : World} {a0 a : Act} {D : Nat → Prop} {q q' : Nat}
theorem place_inj (ok : OkOrd P ops ord) {p r i : Nat} (hp : ord[p]? = some i) (hr : ord[r]? = some i) : p = r := by
  rcases Nat.lt_trichotomy p r with hlt | heq | hlt
  · exact absurd rfl (ok.ne p r i i hlt hp hr)
  · exact heq
  · exact absurd rfl (ok.ne r p i i hlt hr hp)
/-- the canonical run goes on over what is no effect, where what it makes has been made -/
theorem DInv.adv (C : Canon P F E ops ord T0 A0 n tr val nm) (I : DInv P ops ord T0 A0 tr val nm σ0 W0 a0 D q σ a W) {i : Nat} (hi : ord[q]? = some i) (hE : clsAt P ops i ≠ .E) (hA : clsAt P ops i = .A → D i) :
    DInv P ops ord T0 A0 tr val nm σ0 W0 a0 D (q + 1) σ a W := by
  have hqn : q < ops.size := by rw [← C.ok.len]; exact (List.getElem?_eq_some_iff.1 hi).1
  obtain ⟨o, ho, _⟩ := C.ok.op i (List.mem_of_getElem? hi)
  obtain ⟨_, hout⟩ := C.step q i o hi ho
  have hnx := hout.nx ho hE
  -- what the world behind is
  have key : (tr (q + 1)).2 = (tr q).2 ∨ ∃ e ob obj, clsAt P ops i = .A ∧ D i ∧ (tr (q + 1)).2 = { (tr q).2 with cur := (tr q).2.cur.set ob (nm q) } ∧ σ (nm q) = some e ∧ W0.heap.size ≤ e.blk ∧ W.heap[e.blk]? = some obj ∧ OR P σ e obj ob ∧
      ∀ x f, ((tr q).2.get x).isSome = true → σ x = some f → f.blk ≠ e.blk := by
    by_cases hcA : clsAt P ops i = .A
    · generalize hA1 : (tr (q + 1)).2 = A1 at hout
      cases hout with
      | skip => exact .inl rfl
      | run _ h2 _ => exact absurd hcA h2
      | made h1 h2 h3 =>
        obtain ⟨e, obj, g1, g2, g3, g4, g5⟩ := I.early q i o _ hi ho hcA (hA hcA) (Nat.le_refl _) h1 h3
        exact .inr ⟨e, _, obj, hcA, hA hcA, rfl, g1, g2, g3, g4, g5⟩
    · exact .inl (hout.world ho hE hcA)
  have hsub : ∀ x u, (tr q).2.get x = some u → (tr (q + 1)).2.get x = some u := by
    intro x u hx
    rcases key with h | ⟨e, ob, obj, hcA, hDi, h, g1, g2, g3, g4, g5⟩
    · rw [h]; exact hx
    · rw [h, put_get_ne]
      · exact hx
      · intro hxe
        subst hxe
        exact g5 _ e (by rw [hx]; rfl) g1 rfl
  have hlive : ∀ x, ((tr (q + 1)).2.get x).isSome = true → ((tr q).2.get x).isSome = true ∨ (x = nm q ∧ clsAt P ops i = .A) := by
    intro x hx
    rcases key with h | ⟨e, ob, obj, hcA, hDi, h, g1, g2, g3, g4, g5⟩
    · rw [h] at hx; exact .inl hx
    · by_cases hxe : x = nm q
      · exact .inr ⟨hxe, hcA⟩
      · rw [h, put_get_ne _ _ _ hxe] at hx; exact .inl hx
  exact {
    hq := hqn
    eff := fun p j hp hc => by
      rw [I.eff p j hp hc]
      constructor
      · intro h; omega
      · intro h
        rcases Nat.lt_or_eq_of_le (Nat.le_of_lt_succ h) with h | h
        · exact h
        · subst h; rw [hi] at hp; cases hp; exact absurd hc hE
    mem := fun p j hp hc hlt => by
      rcases Nat.lt_or_eq_of_le (Nat.le_of_lt_succ hlt) with h | h
      · exact I.mem p j hp hc h
      · subst h; rw [hi] at hp; cases hp; exact hA hc
    st := by
      rcases key with h | ⟨e, ob, obj, hcA, hDi, h, g1, g2, g3, g4, g5⟩
      · rw [h]; exact I.st
      · rw [h]; exact I.st.adopt (C.names q i hi hcA).1 g1 g3 g4 g2 g5
    early := fun p j x ob hp hx hc hDj hle hw ha => by
      obtain ⟨e, obj, g1, g2, g3, g4, g5⟩ := I.early p j x ob hp hx hc hDj (by omega) hw ha
      refine ⟨e, obj, g1, g2, g3, g4, fun y f hy hf => ?_⟩
      rcases hlive y hy with h | ⟨h, hcA⟩
      · exact g5 y f h hf
      · subst h
        exact I.sep q p i j f e hi hp hcA hc (Nat.le_refl _) (by omega) (by omega) hf g1
    sep := fun p p' j j' e e' h1 h2 h3 h4 h5 h6 => I.sep p p' j j' e e' h1 h2 h3 h4 (by omega) (by omega)
    free := I.free
    done := I.done
    rest := I.rest
    lt := fun p j e h1 h2 h3 => I.lt p j e h1 h2 (by omega)
    names := fun p j h1 h2 => by rw [hnx]; exact I.names p j h1 h2
    sub := fun c hc hno => by
      rcases Nat.lt_or_eq_of_le hc with h | h
      · obtain ⟨g1, g2⟩ := I.sub c (by omega) fun r j h1 h2 h3 => hno r j h1 (by omega) h3
        exact ⟨fun x u hx => hsub x u (g1 x u hx), by rw [g2, hnx]⟩
      · subst h; exact ⟨fun x u hx => hx, rfl⟩
    df := I.df
    sz := I.sz
    kp := I.kp }
theorem DInv.adv_to (C : Canon P F E ops ord T0 A0 n tr val nm) : ∀ (k : Nat) {q : Nat}, DInv P ops ord T0 A0 tr val nm σ0 W0 a0 D q σ a W → q + k ≤ ops.size → (∀ (r i : Nat), q ≤ r → r < q + k → ord[r]? = some i → clsAt P ops i ≠ .E ∧ (clsAt P ops i = .A → D i)) →
    DInv P ops ord T0 A0 tr val nm σ0 W0 a0 D (q + k) σ a W
  | 0, q, I, _, _ => I
  | k + 1, q, I, hk, h => by
    have hlt : q < ord.length := by rw [C.ok.len]; omega
    have hi := List.getElem?_eq_getElem hlt
    have := h q _ (Nat.le_refl _) (by omega) hi
    have I' := I.adv C hi this.1 this.2
    have := DInv.adv_to C k I' (by omega) fun r i h1 h2 h3 => h r i (by omega) (by omega) h3
    have e : q + 1 + k = q + (k + 1) := by omega
    rw [← e]; exact this
/-- one operation more that makes no object of its own: a stretch from the canonical world at q to that at q' -/
theorem DInv.move (ok : OkOrd P ops ord) (I : DInv P ops ord T0 A0 tr val nm σ0 W0 a0 D q σ a W) {p i : Nat} {o : Oper} (hp : ord[p]? = some i) (ho : ops[i]? = some o) (hd : ∀ t, o.dst = some t → t < a0.tmps.size) (hle : q ≤ q') (hq' : q' ≤ ops.size)
    (hs : Step P σ (tr q).2 W σ' (tr q').2 W') {cv : Value} (hv : VRel σ' (val p) cv)
    (hA : clsAt P ops i = .A → wantedS (tr p).1 (stepOf P ops o).g = some false)
    (heff : ∀ (r j : Nat), ord[r]? = some j → clsAt P ops j = .E → ((D j ∨ j = i) ↔ r < q')) (hmem : ∀ (r j : Nat), ord[r]? = some j → clsAt P ops j = .A → r < q' → (D j ∨ j = i))
    (hsub : ∀ (c : Nat), c ≤ q' → (∀ (r j : Nat), c ≤ r → r < q' → ord[r]? = some j → clsAt P ops j ≠ .E) → (∀ x o, (tr c).2.get x = some o → (tr q').2.get x = some o) ∧ (tr c).2.nx = (tr q').2.nx) :
    DInv P ops ord T0 A0 tr val nm σ0 W0 a0 (fun j => D j ∨ j = i) q' σ' (a.put o.dst cv) W' := by
  have back : ∀ (r j : Nat) (e : Ent), ord[r]? = some j → clsAt P ops j = .A → σ' (nm r) = some e → σ (nm r) = some e := by
    intro r j e hr hc he
    rcases hs.dom _ _ he with h | h
    · exact h
    · have := I.names r j hr hc; omega
  refine I.next ok hp ho hs.le hv hd hq' heff hmem (I.st.trans hs) ?_ ?_ ?_ ?_ ?_ hsub
  · intro r j x ob hr hx hc hDj hle' hw ha
    have hDj : D j := by
      rcases hDj with h | h
      · exact h
      · subst h
        have := place_inj ok hr hp
        subst this
        rw [ho] at hx; cases hx
        rw [hA hc] at hw; cases hw
    obtain ⟨e, obj, g1, g2, g3, g4, g5⟩ := I.early r j x ob hr hx hc hDj (by omega) hw ha
    have hlt := (Array.getElem?_eq_some_iff.1 g3).1
    refine ⟨e, obj, hs.le _ _ g1, g2, ?_, g4.mono hs.le, fun y f hy hf hfe => ?_⟩
    · rw [hs.pres e.blk hlt fun y f hy hf => g5 y f hy hf]; exact g3
    · obtain ⟨a1, e1, k1, k2, k3⟩ := hs.img y f hy hf (by rw [hfe]; exact hlt)
      exact g5 a1 e1 k1 k2 (by rw [k3, hfe])
  · intro r r' j j' e e' h1 h2 h3 h4 h5 h6 h7 h8 h9
    exact I.sep r r' j j' e e' h1 h2 h3 h4 (by omega) (by omega) h7 (back r j e h1 h3 h8) (back r' j' e' h2 h4 h9)
  · intro r j hr hc hn
    cases hx : σ' (nm r) with
    | none => rfl
    | some e =>
      have := back r j e hr hc hx
      rw [I.free r j hr hc fun h => hn (.inl h)] at this
      cases this
  · intro r j e hr hc hle' he
    exact Nat.lt_of_lt_of_le (I.lt r j e hr hc (by omega) (back r j e hr hc he)) hs.size
  · intro r j hr hc
    exact Nat.lt_of_lt_of_le (I.names r j hr hc) hs.nx
end
end Go.AE
namespace Go.AE
variable {P : Program} {F : Tr IFn} {E : ICode → TM → AW → Option AR}
section
variable {ops : Array Oper} {ord : List Nat} {T0 : TM} {A0 : AW} {n : Nat} {tr : Nat → TM × AW} {val : Nat → AV} {nm : Nat → Ix} {σ0 σ σ' : Sg} {W0 W W' : World} {a0 a : Act} {D : Nat → Prop} {q q' : Nat}
theorem last_eff (p : Nat) : ∀ (k : Nat), ∃ c, p ≤ c ∧ c ≤ p + k ∧ (∀ (r j : Nat), c ≤ r → r < p + k → ord[r]? = some j → clsAt P ops j ≠ .E) ∧ (c = p ∨ ∃ r j, c = r + 1 ∧ p ≤ r ∧ ord[r]? = some j ∧ clsAt P ops j = .E)
  | 0 => ⟨p, Nat.le_refl _, Nat.le_refl _, fun r j h1 h2 => by omega, .inl rfl⟩
  | k + 1 => by
    by_cases h : ∃ j, ord[p + k]? = some j ∧ clsAt P ops j = .E
    · obtain ⟨j, h1, h2⟩ := h
      exact ⟨p + k + 1, by omega, by omega, fun r j h1 h2 => by omega, .inr ⟨p + k, j, rfl, by omega, h1, h2⟩⟩
    · obtain ⟨c, g1, g2, g3, g4⟩ := last_eff p k
      refine ⟨c, g1, by omega, fun r j h1 h2 h3 h4 => ?_, g4⟩
      by_cases hr : r = p + k
      · subst hr; exact h ⟨j, h3, h4⟩
      · exact g3 r j h1 (by omega) h3 h4
/-- what a load looks at is as it was at its place -/
theorem looks_late (C : Canon P F E ops ord T0 A0 n tr val nm) (hD : ∀ i, D i → Waits ops D i) {p i : Nat} {o : Oper} (hp : ord[p]? = some i) (ho : ops[i]? = some o) (hw : Waits ops D i) (hn : ¬ D i) (hL : clsAt P ops i = .L) {c : Nat} (hpc : p ≤ c) (hc : c ≤ ops.size)
    {t : Tmp} (ht : t ∈ o.looksAt ops) : TM.at_ (tr c).1 (Ix.ofTmp t) = TM.at_ (tr p).1 (Ix.ofTmp t) := by
  obtain ⟨h1, h2⟩ := C.at_ c hc t
  obtain ⟨g1, g2⟩ := C.at_ p (by omega) t
  by_cases h : ∃ (r j : Nat) (x : Oper), r < c ∧ ord[r]? = some j ∧ ops[j]? = some x ∧ x.dst = some t
  · obtain ⟨r, j, x, hrc, hr, hx, hd⟩ := h
    have hj : j ∈ looksOps ops i := by
      simp only [looksOps, ho, List.mem_filter, List.mem_range]
      refine ⟨lt_of_op hx, ?_⟩
      simp [hx, hd, ht]
    rcases C.ok.looks i (List.mem_of_getElem? hp) j hj with hre | ⟨hcl, _⟩
    · have hrp : r < p := by
        rcases Nat.lt_trichotomy r p with hlt | heq | hlt
        · exact hlt
        · subst heq; rw [hp] at hr; cases hr; exact absurd (reach_done hD hre hw) hn
        · have := C.ok.back p r i j hlt hp hr; rw [this] at hre; cases hre
      rw [h1 r j x hrc hr hx hd, g1 r j x hrp hr hx hd]
    · exact absurd hL hcl
  · rw [h2 fun r j x hrc hr hx hd => h ⟨r, j, x, hrc, hr, hx, hd⟩, g2 fun r j x hrp hr hx hd => h ⟨r, j, x, by omega, hr, hx, hd⟩]
theorem wpOp_skip {i : Nat} {o : Oper} {Q : Exit → Act → World → Prop} {K : Act → World → Prop} (ho : ops[i]? = some o) (hw : Region.wanted o (yielded ops a.tmps) = false) (h : K (a.put o.dst undef) W) : wpOp P ops Q i K a W := by
  unfold wpOp
  simp only [ho, hw, Bool.false_eq_true, if_false]
  exact h
theorem wpOp_run {i : Nat} {o : Oper} {Q : Exit → Act → World → Prop} {K : Act → World → Prop} (ho : ops[i]? = some o) (hw : Region.wanted o (yielded ops a.tmps) = true) (h : o.wp P a W K Q) : wpOp P ops Q i K a W := by
  unfold wpOp
  simp only [ho, hw, if_true]
  exact .inl h
/-- one operation whose turn it is -/
theorem DInv.one (hS : Sound P E) (hF : FRel P F) (C : Canon P F E ops ord T0 A0 n tr val nm) (hD : ∀ i, D i → Waits ops D i) (hG : GRel P σ0) (hds : ∀ (o : Oper), o ∈ ops.toList → ∀ t, o.dst = some t → t < a0.tmps.size)
    (I : DInv P ops ord T0 A0 tr val nm σ0 W0 a0 D q σ a W) {i : Nat} {o : Oper} (ho : ops[i]? = some o) (hw : Waits ops D i) (hn : ¬ D i) {Q : Exit → Act → World → Prop} {K : Act → World → Prop}
    (hk : ∀ q' σ' a' W', DInv P ops ord T0 A0 tr val nm σ0 W0 a0 (fun j => D j ∨ j = i) q' σ' a' W' → K a' W') : wpOp P ops Q i K a W := by
  obtain ⟨p, hpn, hp⟩ := place_of C.ok (lt_of_op ho)
  obtain ⟨_, hout⟩ := C.step p i o hp ho
  obtain ⟨g, hg, hgs⟩ := hout.spec
  have hT := I.trel C.ok
  have same : ∀ t, t ∈ o.looksAt ops → TM.at_ (TS ops ord T0 val D ops.size) (Ix.ofTmp t) = TM.at_ (tr p).1 (Ix.ofTmp t) := fun t ht => looks_same C hD hp ho hw hn ht
  have hGσ : GRel P σ := hG.mono I.st.le
  have hdst : ∀ t, o.dst = some t → t < a0.tmps.size := hds o (by rw [Array.mem_toList_iff]; exact Array.mem_of_getElem? ho)
  have hwant : ∀ b, wantedS (tr p).1 (stepOf P ops o).g = some b → Region.wanted o (yielded ops a.tmps) = b := by
    intro b hb
    rw [hgs] at hb
    exact wanted_ok hT hg (by rw [wanted_same hg same]; exact hb)
  -- what stays where the world of the canonical run does not go on
  have stay : clsAt P ops i ≠ .E → ∀ {q}, DInv P ops ord T0 A0 tr val nm σ0 W0 a0 D q σ a W → ∀ {σ' W'}, Step P σ (tr q).2 W σ' (tr q).2 W' → ∀ {cv}, VRel σ' (val p) cv → (clsAt P ops i = .A → wantedS (tr p).1 (stepOf P ops o).g = some false) → K (a.put o.dst cv) W' := by
    intro hE q I σ' W' hs cv hv hA
    refine hk q σ' _ W' (I.move C.ok hp ho hdst (Nat.le_refl _) I.hq hs hv hA ?_ ?_ I.sub)
    · intro r j hr hc
      rw [← I.eff r j hr hc]
      constructor
      · rintro (h | h)
        · exact h
        · subst h; exact absurd hc hE
      · exact .inl
    · intro r j hr hc hlt
      exact .inl (I.mem r j hr hc hlt)
  -- the canonical run comes to the operation's place
  have come : (clsAt P ops i = .E ∨ clsAt P ops i = .L) → q ≤ p → DInv P ops ord T0 A0 tr val nm σ0 W0 a0 D p σ a W := by
    intro hc hqp
    have := I.adv_to C (p - q) (by omega) fun r j h1 h2 h3 => by
      have hrp : r < p := by omega
      refine ⟨fun hj => ?_, fun hj => ?_⟩
      · have hre := C.ok.cls r p j i hrp h3 hp (.inl hj) hc
        have := (I.eff r j h3 hj).1 (reach_done hD hre hw)
        omega
      · exact reach_done hD (C.ok.cls r p j i hrp h3 hp (.inr hj) hc) hw
    rw [show q + (p - q) = p by omega] at this
    exact this
  cases hcl : clsAt P ops i with
  | E =>
    have hqp : q ≤ p := by
      rcases Nat.lt_or_ge p q with h | h
      · exact absurd ((I.eff p i hp hcl).2 h) hn
      · exact h
    have I' := come (.inl hcl) hqp
    have fin : ∀ {σ' W'}, Step P σ (tr p).2 W σ' (tr (p + 1)).2 W' → ∀ {cv}, VRel σ' (val p) cv → K (a.put o.dst cv) W' := by
      intro σ' W' hs cv hv
      refine hk (p + 1) σ' _ W' (I'.move C.ok hp ho hdst (by omega) hpn hs hv (fun h => by rw [hcl] at h; cases h) ?_ ?_ ?_)
      · intro r j hr hc
        constructor
        · rintro (h | h)
          · have := (I'.eff r j hr hc).1 h; omega
          · subst h; have := place_inj C.ok hr hp; omega
        · intro h
          rcases Nat.lt_or_eq_of_le (Nat.le_of_lt_succ h) with h | h
          · exact .inl ((I'.eff r j hr hc).2 h)
          · subst h; rw [hp] at hr; cases hr; exact .inr rfl
      · intro r j hr hc h
        rcases Nat.lt_or_eq_of_le (Nat.le_of_lt_succ h) with h | h
        · exact .inl (I'.mem r j hr hc h)
        · subst h; rw [hp] at hr; cases hr; exact .inr rfl
      · intro c hc hno
        rcases Nat.lt_or_eq_of_le hc with h | h
        · exact absurd hcl (hno p i (by omega) (by omega) hp)
        · subst h; exact ⟨fun x u hx => hx, rfl⟩
    generalize hA1 : (tr (p + 1)).2 = A1 at hout fin
    cases hout with
    | skip h1 h2 =>
      refine wpOp_skip ho (hwant _ h1) (fin (.refl I'.st.rel) ?_)
      rw [h2]; exact vrel_skip σ
    | made _ h2 _ => rw [hcl] at h2; cases h2
    | run h1 h2 h3 =>
      have hcomp : compO P o = some (stepOf P ops o).op := comp_of_ne_bad fun w hb => by rw [hb, runOp_bad] at h3; cases h3
      refine wpOp_run ho (hwant _ h1) (upon_ok (runOp_ok hS hF I'.st.rel hT hGσ hcomp (by rw [runOp_congr (ev_same hcomp same)]; exact h3)) ?_)
      rintro a' W' ⟨σ', cv, rfl, hv, hst⟩
      exact fin hst hv
  | A =>
    have hqp : q ≤ p := by
      rcases Nat.lt_or_ge p q with h | h
      · exact absurd (I.mem p i hp hcl h) hn
      · exact h
    generalize hA1 : (tr (p + 1)).2 = A1 at hout
    cases hout with
    | skip h1 h2 =>
      refine wpOp_skip ho (hwant _ h1) (stay (by rw [hcl]; simp) I (.refl I.st.rel) ?_ fun _ => h1)
      rw [h2]; exact vrel_skip σ
    | run _ h2 _ => exact absurd hcl h2
    | made h1 h2 h3 =>
      rename_i ob
      have hcomp : compO P o = some (stepOf P ops o).op := comp_of_ne_bad fun w hb => by rw [hb] at h3; simp [aop] at h3
      have h3' := h3
      rw [← aop_congr (ev_same hcomp same)] at h3'
      obtain ⟨cv, obj, sh, tot, dr, g1, g2, g3⟩ := aop_ok (W := W) hT hGσ hcomp h3'
      refine wpOp_run ho (hwant _ h1) ?_
      unfold Oper.wp
      rw [g1, Oper.upon_value]
      have hnone := I.free p i hp hcl hn
      have hpush : ∀ {b : Nat}, b < W.heap.size → (W.heap.push obj)[b]? = W.heap[b]? := by
        intro b hb
        rw [Array.getElem?_push, if_neg (by omega)]
      have hlive : ∀ x, ((tr q).2.get x).isSome = true → x ≠ nm p := by
        intro x hx hxe
        subst hxe
        obtain ⟨u, hu⟩ := Option.isSome_iff_exists.1 hx
        obtain ⟨e, _, he, _⟩ := I.st.rel.obj _ u hu
        rw [hnone] at he; cases he
      have hother : ∀ (r j : Nat) (e : Ent), ord[r]? = some j → clsAt P ops j = .A → r ≠ p → (σ.set (nm p) ⟨W.heap.size, sh, tot⟩) (nm r) = some e → σ (nm r) = some e := by
        intro r j e hr hc hrp he
        rw [Sg.set_other _ _ (fun h => hrp (C.inj r p j i hr hp hc hcl h))] at he
        exact he
      refine hk q _ _ _ (I.next C.ok hp ho (Sg.le_set hnone) (g3 _ (Sg.set_same _ _ _)) hdst I.hq ?_ ?_ (I.st.push (C.names p i hp hcl).1 (I.names p i hp hcl) hnone) ?_ ?_ ?_ ?_ I.names I.sub)
      · intro r j hr hc
        rw [← I.eff r j hr hc]
        constructor
        · rintro (h | h)
          · exact h
          · subst h; rw [hcl] at hc; cases hc
        · exact .inl
      · intro r j hr hc hlt
        exact .inl (I.mem r j hr hc hlt)
      · intro r j x ob' hr hx hc hDj hle hwt ha
        by_cases hji : j = i
        · subst hji
          have := place_inj C.ok hr hp
          subst this
          rw [ho] at hx; cases hx
          rw [h3] at ha; cases ha
          refine ⟨_, obj, Sg.set_same _ _ _, I.st.size, by simp, g2 _ (Sg.le_set hnone), fun y f hy hf => ?_⟩
          rw [Sg.set_other _ _ (hlive y hy)] at hf
          have := I.st.rel.lt hy hf
          simp; omega
        · have hDj := hDj.resolve_right hji
          have hrp : r ≠ p := fun h => by subst h; rw [hp] at hr; cases hr; exact hji rfl
          obtain ⟨e, obj', k1, k2, k3, k4, k5⟩ := I.early r j x ob' hr hx hc hDj hle hwt ha
          refine ⟨e, obj', Sg.le_set hnone _ _ k1, k2, ?_, k4.mono (Sg.le_set hnone), fun y f hy hf => ?_⟩
          · show (W.heap.push obj)[e.blk]? = _
            rw [hpush (Array.getElem?_eq_some_iff.1 k3).1]; exact k3
          · rw [Sg.set_other _ _ (hlive y hy)] at hf
            exact k5 y f hy hf
      · intro r r' j j' e e' hr hr' hc hc' hle hle' hne he he'
        by_cases hrp : r = p
        · subst hrp
          rw [Sg.set_same] at he; cases he
          have h' := hother r' j' e' hr' hc' (fun h => hne h.symm) he'
          have := I.lt r' j' e' hr' hc' hle' h'
          simp; omega
        · have hq1 := hother r j e hr hc hrp he
          by_cases hrp' : r' = p
          · subst hrp'
            rw [Sg.set_same] at he'; cases he'
            have := I.lt r j e hr hc hle hq1
            simp; omega
          · exact I.sep r r' j j' e e' hr hr' hc hc' hle hle' hne hq1 (hother r' j' e' hr' hc' hrp' he')
      · intro r j hr hc hnd
        have hrp : r ≠ p := fun h => by subst h; rw [hp] at hr; cases hr; exact hnd (.inr rfl)
        rw [Sg.set_other _ _ (fun h => hrp (C.inj r p j i hr hp hc hcl h))]
        exact I.free r j hr hc fun h => hnd (.inl h)
      · intro r j e hr hc hle he
        by_cases hrp : r = p
        · subst hrp
          rw [Sg.set_same] at he; cases he
          simp
        · have := I.lt r j e hr hc hle (hother r j e hr hc hrp he)
          simp; omega
  | P =>
    have hE : clsAt P ops i ≠ .E := by rw [hcl]; simp
    have hnA : clsAt P ops i = .A → wantedS (tr p).1 (stepOf P ops o).g = some false := fun h => by rw [hcl] at h; cases h
    generalize hA1 : (tr (p + 1)).2 = A1 at hout
    cases hout with
    | skip h1 h2 =>
      refine wpOp_skip ho (hwant _ h1) (stay hE I (.refl I.st.rel) ?_ hnA)
      rw [h2]; exact vrel_skip σ
    | made _ h2 _ => rw [hcl] at h2; cases h2
    | run h1 h2 h3 =>
      have hcomp : compO P o = some (stepOf P ops o).op := comp_of_ne_bad fun w hb => by rw [hb, runOp_bad] at h3; cases h3
      have hcls : (stepOf P ops o).op.cls = .P := by rw [← clsAt_eq ho]; exact hcl
      have hcE : (stepOf P ops o).op.cls ≠ .E := by rw [hcls]; simp
      rw [runOp_iop hcE, iop_congr (fun y hy => (ev_same hcomp same y hy).symm)] at h3
      have h4 : runOp F E (TS ops ord T0 val D ops.size) (tr q).2 (stepOf P ops o).op = some (val p, (tr q).2) := by
        rw [runOp_iop hcE, iop_plain (A := (tr p).2) hcls, h3]; rfl
      refine wpOp_run ho (hwant _ h1) (upon_ok (runOp_ok hS hF I.st.rel hT hGσ hcomp h4) ?_)
      rintro a' W' ⟨σ', cv, rfl, hv, hst⟩
      exact stay hE I hst hv hnA
  | L =>
    have hE : clsAt P ops i ≠ .E := by rw [hcl]; simp
    have hnA : clsAt P ops i = .A → wantedS (tr p).1 (stepOf P ops o).g = some false := fun h => by rw [hcl] at h; cases h
    generalize hA1 : (tr (p + 1)).2 = A1 at hout
    cases hout with
    | skip h1 h2 =>
      refine wpOp_skip ho (hwant _ h1) (stay hE I (.refl I.st.rel) ?_ hnA)
      rw [h2]; exact vrel_skip σ
    | made _ h2 _ => rw [hcl] at h2; cases h2
    | run h1 h2 h3 =>
      have hcomp : compO P o = some (stepOf P ops o).op := comp_of_ne_bad fun w hb => by rw [hb, runOp_bad] at h3; cases h3
      have hcls : (stepOf P ops o).op.cls = .L := by rw [← clsAt_eq ho]; exact hcl
      have hcE : (stepOf P ops o).op.cls ≠ .E := by rw [hcls]; simp
      rw [runOp_iop hcE] at h3
      have hA := iop_load hcls h3
      rw [hA] at h3
      refine wpOp_run ho (hwant _ h1) ?_
      rcases Nat.lt_or_ge p q with hpq | hqp
      · -- the canonical run has gone on: behind the last effect between it is the same
        obtain ⟨c, c1, c2, c3, c4⟩ := last_eff (P := P) (ops := ops) (ord := ord) p (q - p)
        rw [Nat.add_sub_cancel' (Nat.le_of_lt hpq)] at c2 c3
        have h5 : iop (tr c).1 (tr c).2 (stepOf P ops o).op = some (val p, (tr c).2) := by
          rcases c4 with rfl | ⟨r, j, rfl, k1, k2, k3⟩
          · exact h3
          · have hpr : p < r := by
              rcases Nat.lt_or_eq_of_le k1 with h | h
              · exact h
              · subst h; rw [hp] at k2; cases k2; rw [hcl] at k3; cases k3
            obtain ⟨x, hx, _⟩ := C.ok.op j (List.mem_of_getElem? k2)
            have hDj := (I.eff r j k2 k3).2 (by omega)
            have hnr : reach ops ops.size i j = false := by
              cases hre : reach ops ops.size i j with
              | false => rfl
              | true => exact absurd (reach_done hD hre (hD j hDj)) hn
            obtain ⟨o', ho', hdd⟩ := C.ok.op i (List.mem_of_getElem? hp)
            rw [ho] at ho'; cases ho'
            obtain ⟨d, hd⟩ := Option.isSome_iff_exists.1 (hdd hcl)
            have hr1 : r + 1 ≤ ops.size := by have := I.hq; omega
            rcases C.again r j x k2 hx k3 p i o d hpr hp ho hcl hnr hd with h | ⟨u, v', A', e1, e2, e3⟩
            · exfalso
              rw [hgs] at h h1
              rw [wanted_same hg (fun t ht => looks_late C hD hp ho hw hn hcl (by omega) hr1 ht), h1] at h
              cases h
            · have hu : u = val p := by
                have := (C.at_ (r + 1) hr1 d).1 p i o (by omega) hp ho hd
                rw [at_some e1] at this; exact this
              rw [hu] at e3
              have := avEqD_eq e3
              subst hu
              rw [e2, ← this, iop_load hcls e2]
        have hcq : c ≤ ops.size := Nat.le_trans c2 I.hq
        obtain ⟨s1, s2⟩ := I.sub c c2 c3
        have h6 : runOp F E (TS ops ord T0 val D ops.size) (tr c).2 (stepOf P ops o).op = some (val p, (tr c).2) := by
          rw [runOp_iop hcE, iop_congr (ev_same hcomp fun t ht => (same t ht).trans (looks_late C hD hp ho hw hn hcl c1 hcq ht).symm), h5]
        refine upon_ok (runOp_ok hS hF (I.st.rel.sub s1 s2) hT hGσ hcomp h6) ?_
        rintro a' W' ⟨σ', cv, rfl, hv, hst⟩
        exact stay hE I ((Step.refl I.st.rel).frame s1 s2 hst) hv hnA
      · have I' := come (.inr hcl) hqp
        have h6 : runOp F E (TS ops ord T0 val D ops.size) (tr p).2 (stepOf P ops o).op = some (val p, (tr p).2) := by
          rw [runOp_iop hcE, iop_congr (ev_same hcomp same), h3]
        refine upon_ok (runOp_ok hS hF I'.st.rel hT hGσ hcomp h6) ?_
        rintro a' W' ⟨σ', cv, rfl, hv, hst⟩
        exact stay hE I' hst hv hnA
end
end Go.AE
namespace Go.AE
variable {P : Program} {F : Tr IFn} {E : ICode → TM → AW → Option AR}
section
variable {ops : Array Oper} {ord : List Nat} {T0 : TM} {A0 : AW} {n : Nat} {tr : Nat → TM × AW} {val : Nat → AV} {nm : Nat → Ix} {σ0 σ σ' : Sg} {W0 W W' : World} {a0 a : Act} {D : Nat → Prop} {q q' : Nat}
theorem filt_lt {f g : Nat → Bool} {i : Nat} (hfg : ∀ x, g x = true → f x = true) (hf : f i = true) (hg : g i = false) : ∀ (l : List Nat), (l.filter g).length ≤ (l.filter f).length ∧ (i ∈ l → (l.filter g).length < (l.filter f).length)
  | [] => ⟨Nat.le_refl _, fun h => by cases h⟩
  | x :: l => by
    obtain ⟨h1, h2⟩ := filt_lt hfg hf hg l
    have key : (l.filter g).length ≤ (l.filter f).length := h1
    constructor
    · rw [List.filter_cons, List.filter_cons]
      by_cases hx : g x = true
      · rw [if_pos hx, if_pos (hfg x hx)]; simpa using h1
      · rw [if_neg hx]
        split
        · simp; omega
        · exact h1
    · intro hm
      rw [List.filter_cons, List.filter_cons]
      cases hm with
      | head => rw [if_neg (by simp [hg]), if_pos hf]; simp; omega
      | tail _ hm =>
        have := h2 hm
        by_cases hx : g x = true
        · rw [if_pos hx, if_pos (hfg x hx)]; simpa using this
        · rw [if_neg hx]
          split
          · simp; omega
          · exact this
/-- at the start -/
theorem DInv.start (C : Canon P F E ops ord T0 A0 n tr val nm) (hW : WRel P σ A0 W) (hT : TRel σ T0 a.tmps) (hdef : a.defers = []) (dr : Nat) :
    DInv P ops ord T0 A0 tr val nm σ W a (fun _ => False) 0 σ a { W with drawn := dr } := by
  have h0 : (tr 0).2 = { A0 with nx := addIx n A0.nx } := by rw [C.start]
  have hnx : A0.nx.toNat ≤ (addIx n A0.nx).toNat := by rw [addIx_toNat]; omega
  have hnone : ∀ (p i : Nat), ord[p]? = some i → clsAt P ops i = .A → σ (nm p) = none := by
    intro p i hp hc
    cases hs : σ (nm p) with
    | none => rfl
    | some e => have := hW.fresh _ _ hs; have := (C.names p i hp hc).1; omega
  exact {
    hq := Nat.zero_le _
    eff := fun p i _ _ => ⟨fun h => h.elim, fun h => by omega⟩
    mem := fun p i _ _ h => by omega
    st := by
      rw [h0]
      exact {
        le := .refl σ
        rel := ⟨hW.obj, hW.inj, fun x e he => Nat.lt_of_lt_of_le (hW.fresh x e he) hnx⟩
        size := Nat.le_refl _
        pres := fun _ _ _ => rfl
        img := fun x e hx he _ => ⟨x, e, hx, he, rfl⟩
        olds := rfl
        nx := hnx
        dom := fun _ _ h => .inl h
        cdom := fun _ h => .inl h
        keepA := fun _ _ _ _ _ h => h
        keepH := fun _ _ _ _ _ _ _ _ => rfl
        ro := fun _ _ _ _ h _ => ⟨h, rfl⟩
        io := ⟨rfl, rfl⟩ }
    early := fun _ _ _ _ _ _ _ h => h.elim
    sep := fun p p' i i' e e' hp hp' hc hc' _ _ _ he _ => by rw [hnone p i hp hc] at he; cases he
    free := fun p i hp hc _ => hnone p i hp hc
    done := fun _ _ _ _ _ _ h => h.elim
    rest := fun t _ => hT t
    lt := fun p i e hp hc _ he => by rw [hnone p i hp hc] at he; cases he
    names := fun p i hp hc => by rw [h0]; exact (C.names p i hp hc).2
    sub := fun c hc _ => by
      have : c = 0 := by omega
      subst this; exact ⟨fun x o hx => hx, rfl⟩
    df := hdef
    sz := rfl
    kp := fun _ _ => rfl }
/-- when all is done -/
theorem DInv.end_ (C : Canon P F E ops ord T0 A0 n tr val nm) (I : DInv P ops ord T0 A0 tr val nm σ0 W0 a0 D q σ a W) (hall : ∀ i, i < ops.size → D i) {Tf : TM} {Af : AW} (hN : tr ops.size = (Tf, Af)) :
    Post P σ0 A0 W0 (ops.toList.filterMap (·.dst)) a0 ⟨.normal, Tf, Af⟩ .normal a W := by
  have hI := I.adv_to C (ops.size - q) (by have := I.hq; omega) fun r i h1 h2 h3 => by
    obtain ⟨o, ho, _⟩ := C.ok.op i (List.mem_of_getElem? h3)
    have hDi := hall i (lt_of_op ho)
    refine ⟨fun hc => ?_, fun _ => hDi⟩
    have := (I.eff r i h3 hc).1 hDi
    omega
  rw [Nat.add_sub_cancel' I.hq] at hI
  refine ⟨rfl, hI.df, hI.sz, hI.kp, σ, ?_, ?_⟩
  · have := hI.st
    rw [hN] at this; exact this
  · intro t
    have ht := hI.trel C.ok t
    obtain ⟨h1, h2⟩ := TS_at (T0 := T0) (val := val) (D := D) C.ok ops.size t
    obtain ⟨g1, g2⟩ := C.at_ ops.size (Nat.le_refl _) t
    rw [hN] at g1 g2
    have : TM.at_ Tf (Ix.ofTmp t) = TM.at_ (TS ops ord T0 val D ops.size) (Ix.ofTmp t) := by
      by_cases h : ∃ p i o, p < ops.size ∧ ord[p]? = some i ∧ ops[i]? = some o ∧ o.dst = some t
      · obtain ⟨p, i, o, hp, hpi, ho, hd⟩ := h
        rw [g1 p i o hp hpi ho hd, h1 p i o hp hpi ho (hall i (lt_of_op ho)) hd]
      · rw [g2 fun p i o hp hpi ho hd => h ⟨p, i, o, hp, hpi, ho, hd⟩, h2 fun p i o hp hpi ho _ hd => h ⟨p, i, o, hp, hpi, ho, hd⟩]
    show VRel σ (TM.at_ Tf (Ix.ofTmp t)) _
    rw [this]
    exact ht
/-- while something is left, something is ready -/
theorem ready_some (ok : OkOrd P ops ord) {listed : Array Bool} (hls : listed.size = ops.size) (hr : Region.ready .any ops listed = []) : ∀ (p i : Nat), ord[p]? = some i → listed.getD i false = true := by
  intro p
  induction p using Nat.strongRecOn with
  | ind p ih =>
    intro i hp
    obtain ⟨o, ho, _⟩ := ok.op i (List.mem_of_getElem? hp)
    have hi := lt_of_op ho
    cases hl : listed.getD i false with
    | true => rfl
    | false =>
      exfalso
      have : i ∈ Region.ready .any ops listed := by
        rw [mem_ready]
        refine ⟨?_, o, ho, fun e he hb => ?_⟩
        · have : i < listed.size := by omega
          simp [this] at hl ⊢; exact hl
        · obtain ⟨d1, d2⟩ := ok.dep i o (List.mem_of_getElem? hp) ho e he hb
          obtain ⟨r, hr1, hr2⟩ := place_of ok d1
          have hre : reach ops ops.size e.on i = true := by
            have : ops.size = (ops.size - 1) + 1 := by omega
            rw [this, reach]
            simp only [ho]
            rw [Array.any_eq_true']
            exact ⟨e, he, by simp [hb]⟩
          rcases Nat.lt_trichotomy r p with hlt | heq | hlt
          · exact ih r hlt _ hr2
          · subst heq; rw [hp] at hr2; cases hr2; exact absurd rfl d2
          · have := ok.back p r i e.on hlt hp hr2
            rw [this] at hre; cases hre
      rw [hr] at this; cases this
theorem DInv.any (hS : Sound P E) (hF : FRel P F) (C : Canon P F E ops ord T0 A0 n tr val nm) (hG : GRel P σ0) (hds : ∀ (o : Oper), o ∈ ops.toList → ∀ t, o.dst = some t → t < a0.tmps.size) {Tf : TM} {Af : AW} (hN : tr ops.size = (Tf, Af)) :
    ∀ (fuel : Nat) (listed : Array Bool) (q : Nat) (σ : Sg) (a : Act) (W : World), listed.size = ops.size → ((List.range ops.size).filter fun i => !listed.getD i true).length ≤ fuel →
      (∀ i, listed.getD i false = true → Waits ops (fun j => listed.getD j false = true) i) → DInv P ops ord T0 A0 tr val nm σ0 W0 a0 (fun j => listed.getD j false = true) q σ a W →
      wpAny P .any ops (Post P σ0 A0 W0 (ops.toList.filterMap (·.dst)) a0 ⟨.normal, Tf, Af⟩) fuel listed a W := by
  intro fuel
  have fin : ∀ {listed : Array Bool} {q : Nat} {σ : Sg} {a : Act} {W : World}, listed.size = ops.size → Region.ready .any ops listed = [] → DInv P ops ord T0 A0 tr val nm σ0 W0 a0 (fun j => listed.getD j false = true) q σ a W →
      Post P σ0 A0 W0 (ops.toList.filterMap (·.dst)) a0 ⟨.normal, Tf, Af⟩ .normal a W := fun hls hr I => I.end_ C (fun i hi => by
    obtain ⟨p, _, hp⟩ := place_of C.ok hi
    exact ready_some C.ok hls hr p i hp) hN
  induction fuel with
  | zero =>
    intro listed q σ a W hls hcnt hD I
    have hr : Region.ready .any ops listed = [] := by
      cases hr : Region.ready .any ops listed with
      | nil => rfl
      | cons i l =>
        exfalso
        have hi : i ∈ Region.ready .any ops listed := by rw [hr]; exact List.mem_cons_self ..
        obtain ⟨h1, o, ho, _⟩ := mem_ready.1 hi
        have : i ∈ (List.range ops.size).filter fun i => !listed.getD i true := by
          rw [List.mem_filter, List.mem_range]
          exact ⟨lt_of_op ho, by rw [h1]; rfl⟩
        have := List.length_pos_of_mem this
        omega
    exact ⟨hr, fin hls hr I⟩
  | succ fuel ih =>
    intro listed q σ a W hls hcnt hD I
    refine ⟨fun hr => fin hls hr I, fun i hi => ?_⟩
    obtain ⟨h1, o, ho, h2⟩ := mem_ready.1 hi
    have hil : i < listed.size := by rw [hls]; exact lt_of_op ho
    have hn : ¬ listed.getD i false = true := by
      simp [hil] at h1 ⊢; exact h1
    have hset : ∀ j, (listed.setIfInBounds i true).getD j false = true ↔ (listed.getD j false = true ∨ j = i) := by
      intro j
      by_cases hji : j = i
      · subst hji; simp [hil]
      · rw [getD_set_ne false (Ne.symm hji)]; simp [hji]
    have hw : Waits ops (fun j => listed.getD j false = true) i := by
      intro o' ho' e he hb
      rw [ho] at ho'; cases ho'
      exact h2 e he hb
    refine I.one hS hF C hD hG hds ho hw hn fun q' σ' a' W' I' => ?_
    have hDe : (fun j => (listed.setIfInBounds i true).getD j false = true) = fun j => listed.getD j false = true ∨ j = i := by
      funext j; exact propext (hset j)
    refine ih _ q' σ' a' W' (by simp [hls]) ?_ ?_ (by rw [hDe]; exact I')
    · have := (filt_lt (f := fun i => !listed.getD i true) (g := fun j => !(listed.setIfInBounds i true).getD j true) (i := i) (fun x hx => by
        by_cases hxi : x = i
        · subst hxi; simp [hil] at hx
        · rw [getD_set_ne true (Ne.symm hxi)] at hx; exact hx) (by rw [h1]; rfl) (by simp [hil]) (List.range ops.size)).2 (List.mem_range.2 (lt_of_op ho))
      omega
    · intro j hj o' ho' e he hb
      rcases (hset j).1 hj with h | h
      · exact (hset _).2 (.inl (hD j h o' ho' e he hb))
      · subst h; exact (hset _).2 (.inl (hw o' ho' e he hb))
end
/-- regions that draw their order are sound -/
theorem dsound (hm : P.follows .mixedOrders = true) (hS : Sound P E) (hF : FRel P F) : DSound P F E := by
  intro id ops n l hl T A T' A' h σ a W hW hT hG hdef hd
  obtain ⟨ord, tr, val, nm, C, hN⟩ := canon_of hl h
  refine wp_region_any hm ?_
  have I := DInv.start C hW hT hdef (W.drawn + 1)
  have hD0 : (fun j => (Array.replicate ops.size false).getD j false = true) = fun _ => False := by
    funext j
    by_cases hj : j < ops.size <;> simp [hj]
  refine DInv.any hS hF C hG (fun o ho t ht => hd t (by simp only [dstsN, List.mem_filterMap]; exact ⟨o, ho, ht⟩)) hN ops.size _ 0 σ a _ (by simp) ?_ ?_ (by rw [hD0]; exact I)
  · refine Nat.le_trans (List.length_filter_le _ _) (by simp)
  · intro i hi
    have := congrFun hD0 i
    simp only [eq_iff_iff, iff_false] at this
    exact absurd hi this
end Go.AE
namespace Go.AE
variable {P : Program} {F : Tr IFn}
/-- the evaluator is sound -/
theorem ev_sound (hm : P.follows .mixedOrders = true) (hF : FRel P F) : ∀ n, Sound P (ev F n)
  | 0 => ⟨fun c T A r h => by simp [ev] at h, fun c T A r h => by simp [ev] at h, fun c b T A r h => by simp [ev] at h⟩
  | n + 1 => evStep_sound (ev_sound hm hF n) hF (msound (ev_sound hm hF n) hF) (dsound hm (ev_sound hm hF n) hF)
end Go.AE
