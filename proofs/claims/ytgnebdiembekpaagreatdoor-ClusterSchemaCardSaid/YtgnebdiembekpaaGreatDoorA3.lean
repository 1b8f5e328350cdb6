import Derived.Test.YtgnebdiembekpaaGreatDoorA2
/- Part of the proof: the abstract evaluator, its soundness, its runs: AeFast6, AeFast7 -/
set_option linter.unusedSectionVars false
set_option linter.unusedSimpArgs false
set_option linter.unusedVariables false
set_option linter.unnecessarySimpa false
namespace Go.AE
noncomputable section
/-- no more, and a guard -/
def fwant : Option (Ix × Bool) → TM → FR → FR → FR := Option.rec (motive := fun _ => TM → FR → FR → FR) (fun _ y _ => y) (fun p T y e => fgT p.1 T (fun v => asGuard v (fun b => fif (beqB b p.2) y e) e) none)
theorem fwant_eq (g : Option (Ix × Bool)) (T : TM) (y e : FR) : fwant g T y e = (match wantedS T g with | some true => y | some false => e | none => none) := by
  cases g with
  | none => rfl
  | some p =>
    obtain ⟨i, w⟩ := p
    show fgT i T (fun v => asGuard v (fun b => fif (beqB b w) y e) e) none = _
    rw [fgT_eq]
    simp only [wantedS]
    cases T.get i with
    | none => rfl
    | some v =>
      simp only; rw [asGuard_eq]
      cases v with
      | bool b => simp only; rw [fif_eq, beqB_eq]; cases (b == w) <;> rfl
      | _ => rfl
def fputD : Option Ix → TM → AV → (TM → FR) → FR := Option.rec (motive := fun _ => TM → AV → (TM → FR) → FR) (fun T _ k => k T) (fun p T v k => fsT p T v k)
theorem fputD_eq (d : Option Ix) (T : TM) (v : AV) (k : TM → FR) : fputD d T v k = k (putD T d v) := by
  cases d with
  | none => rfl
  | some p => exact fsT_eq p T v k
def fres1 : RVar → TM → Tr AO → List (Tr AO) → (AV → FR) → FR := RVar.rec (motive := fun _ => TM → Tr AO → List (Tr AO) → (AV → FR) → FR) (fun p T _ _ k => fgT p T k (k .undef))
  (fun p m T c os k => fgT p T (fun v => asPtr v fun a off => fget a c os fun o => asCells o fun l _ _ _ => Option.rec (motive := fun _ => FR) (flget l off k) (fun m => fdrop l off fun l' => ftake m l' fun vs => k (.agg vs)) m) none)
theorem fres1_eq (r : RVar) (T : TM) (c : Tr AO) (os : List (Tr AO)) (n : Ix) (k : AV → FR) : fres1 r T c os k = (match loadResult ⟨c, os, n⟩ T r with | some v => k v | none => none) := by
  cases r with
  | t p =>
    show fgT p T k (k .undef) = _
    rw [fgT_eq]
    simp only [loadResult]
    cases T.get p <;> rfl
  | c p m =>
    show fgT p T (fun v => asPtr v fun a off => fget a c os fun o => asCells o fun l _ _ _ => Option.rec (motive := fun _ => FR) (flget l off k) (fun m => fdrop l off fun l' => ftake m l' fun vs => k (.agg vs)) m) none = _
    rw [fgT_eq]
    simp only [loadResult]
    cases T.get p with
    | none => rfl
    | some v =>
      simp only; rw [asPtr_eq]
      cases v with
      | ptr a off =>
        simp only; rw [fget_eq (n := n)]
        cases AW.get ⟨c, os, n⟩ a with
        | none => rfl
        | some o => simp only; rw [asCells_eq]; cases o with
          | cells l e g z =>
            cases m with
            | none => simp only; rw [flget_eq]; cases listGet l off <;> rfl
            | some m => simp only; rw [fdrop_eq, ftake_eq]; cases takeN m (listDrop off l) <;> rfl
          | _ => rfl
      | _ => rfl
def fress : List RVar → TM → Tr AO → List (Tr AO) → (List AV → FR) → FR := List.rec (motive := fun _ => TM → Tr AO → List (Tr AO) → (List AV → FR) → FR) (fun _ _ _ k => k []) (fun r _ ih T c os k => fres1 r T c os fun v => ih T c os fun vs => k (v :: vs))
theorem fress_eq (T : TM) (c : Tr AO) (os : List (Tr AO)) (n : Ix) : ∀ (rs : List RVar) (k : List AV → FR), fress rs T c os k = (match loadResults ⟨c, os, n⟩ T rs with | some vs => k vs | none => none)
  | [], k => rfl
  | r :: rs, k => by
    show fres1 r T c os (fun v => fress rs T c os fun vs => k (v :: vs)) = _
    rw [fres1_eq (n := n)]
    simp only [loadResults]
    cases loadResult ⟨c, os, n⟩ T r with
    | none => rfl
    | some v => simp only; rw [fress_eq T c os n rs]; cases loadResults ⟨c, os, n⟩ T rs <;> rfl
def fresult : List AV → (AV → FR) → FR := List.rec (motive := fun _ => (AV → FR) → FR) (fun k => k .undef) (fun v l _ k => List.rec (motive := fun _ => FR) (k v) (fun u l' _ => k (.tup (v :: u :: l'))) l)
theorem fresult_eq (vs : List AV) (k : AV → FR) : fresult vs k = k (resultOf vs) := by
  match vs with
  | [] => rfl
  | [v] => rfl
  | v :: u :: l => rfl
def fenter : List AV → Nat → TM → (TM → FR) → FR := List.rec (motive := fun _ => Nat → TM → (TM → FR) → FR) (fun _ T k => k T) (fun v _ ih m T k => fsT (Ix.ofTmp m) T v fun T' => ih (Nat.succ m) T' k)
theorem fenter_eq : ∀ (vs : List AV) (m : Nat) (T : TM) (k : TM → FR), fenter vs m T k = k (enterT m vs T)
  | [], m, T, k => rfl
  | v :: vs, m, T, k => by
    show fsT (Ix.ofTmp m) T v (fun T' => fenter vs (Nat.succ m) T' k) = _
    rw [fsT_eq, fenter_eq vs]; rfl
def flenA : List AV → Nat → FR → FR := List.rec (motive := fun _ => Nat → FR → FR) (fun m t => Nat.rec (motive := fun _ => FR → FR) (fun t => t) (fun _ _ _ => none) m t) (fun _ _ ih m t => Nat.rec (motive := fun _ => (Nat → FR → FR) → FR → FR) (fun _ _ => none) (fun p _ ih t => ih p t) m ih t)
theorem flenA_eq : ∀ (l : List AV) (m : Nat) (t : FR), flenA l m t = if l.length = m then t else none
  | [], 0, t => rfl
  | [], m + 1, t => by simp; rfl
  | _ :: l, 0, t => by simp; rfl
  | _ :: l, m + 1, t => by
    show flenA l m t = _
    rw [flenA_eq l m t]; simp
def fret : AX → FR → FR := AX.rec (motive := fun _ => FR → FR) (fun r => r) (fun _ _ => none) (fun _ _ => none) (fun r => r)
def faxN : AX → FR → FR → FR := AX.rec (motive := fun _ => FR → FR → FR) (fun y _ => y) (fun _ _ e => e) (fun _ _ e => e) (fun _ e => e)
def faxE : AX → (Nat → FR) → FR → FR := AX.rec (motive := fun _ => (Nat → FR) → FR → FR) (fun _ e => e) (fun i y _ => y i) (fun _ _ e => e) (fun _ e => e)
def faxG : AX → (Nat → FR) → FR → FR := AX.rec (motive := fun _ => (Nat → FR) → FR → FR) (fun _ e => e) (fun _ _ e => e) (fun i y _ => y i) (fun _ e => e)
/-- from code's outcome on -/
def fR : FR → KX → FR := Option.rec (motive := fun _ => KX → FR) (fun _ => none) (fun r k => k r.x r.T r.A.cur r.A.olds r.A.nx)
def FOK (E : FE) (e : ICode → TM → AW → Option AR) : Prop := ∀ b T c os n k, E b T c os n k = fR (e b T ⟨c, os, n⟩) k
def flow (E : FE) : ICode → TM → AW → Option AR := fun b T A => E b T A.cur A.olds A.nx fun x T c os n => some ⟨x, T, ⟨c, os, n⟩⟩
theorem flow_eq {E : FE} {e : ICode → TM → AW → Option AR} (h : FOK E e) : flow E = e := by
  funext b T A
  show E b T A.cur A.olds A.nx _ = _
  rw [h]
  show fR (e b T A) _ = _
  cases e b T A <;> rfl
def fcallI : IFn → FE → List AV → Tr AO → List (Tr AO) → Ix → KV → FR := IFn.rec (motive := fun _ => FE → List AV → Tr AO → List (Tr AO) → Ix → KV → FR)
  (fun np res body E args c os n k => flenA args np (fenter args 0 .leaf fun T => E body T c os n fun x T' c' os' n' => fret x (fress res T' c' os' fun vs => fresult vs fun v => k v c' os' n')))
  (fun e _ args c os n k => fbk (extRun e args ⟨c, os, n⟩) k)
def fcall (F : Tr IFn) (E : FE) (f : Nat) (args : List AV) (c : Tr AO) (os : List (Tr AO)) (n : Ix) (k : KV) : FR := Option.rec (motive := fun _ => FE → List AV → Tr AO → List (Tr AO) → Ix → KV → FR) (fun _ _ _ _ _ _ => none) fcallI (Tr.get F (Ix.ofTmp f)) E args c os n k
theorem fcall_eq {F : Tr IFn} {E : FE} {e : ICode → TM → AW → Option AR} (h : FOK E e) (f : Nat) (args : List AV) (c : Tr AO) (os : List (Tr AO)) (n : Ix) (k : KV) : fcall F E f args c os n k = fbk (callFn F e f args ⟨c, os, n⟩) k := by
  unfold fcall callFn
  cases F.get (Ix.ofTmp f) with
  | none => rfl
  | some fn => cases fn with
    | ext x => rfl
    | go np res body =>
      show flenA args np (fenter args 0 .leaf fun T => E body T c os n fun x T' c' os' n' => fret x (fress res T' c' os' fun vs => fresult vs fun v => k v c' os' n')) = _
      rw [flenA_eq, fenter_eq, h]
      simp only
      split
      · cases e body (enterT 0 args Tr.leaf) ⟨c, os, n⟩ with
        | none => rfl
        | some r =>
          obtain ⟨x, T', A'⟩ := r
          show fret x (fress res T' A'.cur A'.olds fun vs => fresult vs fun v => k v A'.cur A'.olds A'.nx) = _
          cases x with
          | normal =>
            show fress res T' A'.cur A'.olds _ = _
            rw [fress_eq (n := A'.nx)]
            simp only
            cases loadResults A' T' res with
            | none => rfl
            | some vs => exact fresult_eq ..
          | ret =>
            show fress res T' A'.cur A'.olds _ = _
            rw [fress_eq (n := A'.nx)]
            simp only
            cases loadResults A' T' res with
            | none => rfl
            | some vs => exact fresult_eq ..
          | exit => rfl
          | goto => rfl
      · rfl
def f_call (f : Nat) (xs : List Arg) (F : Tr IFn) (E : FE) (T : TM) (c : Tr AO) (os : List (Tr AO)) (n : Ix) (k : KV) : FR := fevs xs T fun vs => fcall F E f vs c os n k
def f_callv (x : Arg) (xs : List Arg) (F : Tr IFn) (E : FE) (T : TM) (c : Tr AO) (os : List (Tr AO)) (n : Ix) (k : KV) : FR := fevs xs T fun vs => fev x T fun v => asFunc v fun f a b => fcall F E f (a ++ vs ++ b) c os n k
def f_invoke (t : List (Nat × Nat)) (x : Arg) (xs : List Arg) (F : Tr IFn) (E : FE) (T : TM) (c : Tr AO) (os : List (Tr AO)) (n : Ix) (k : KV) : FR := fevs xs T fun vs => fev x T fun v => asIface v none fun u w => Option.rec (motive := fun _ => FR) none (fun f => fcall F E f (w :: vs) c os n k) (tblFind t u)
/-- any operation -/
def frun : IOp → Tr IFn → FE → FOp := IOp.rec (motive := fun _ => Tr IFn → FE → FOp)
  (fun a _ _ => f_mov a) (fun a _ _ => f_mos a) (fun a _ _ => f_mop a) (fun a b c _ _ => f_pick a b c) (fun a b _ _ => f_box a b) (fun a b _ _ => f_alloc a b) (fun a b _ _ => f_build a b) (fun a b c d _ _ => f_bslice a b c d) (fun a _ _ => f_load a) (fun a b _ _ => f_loadn a b) (fun a b _ _ => f_store a b) (fun a b c _ _ => f_storen a b c) (fun a _ _ => f_nilck a) (fun a b c _ _ => f_bin a b c) (fun a b c d e _ _ => f_eqv a b c d e) (fun ks neg x y _ _ => f_fb (.eqagg ks neg x y)) (fun a _ _ => f_not a) (fun x _ _ => f_fb (.neg x)) (fun x _ _ => f_fb (.bnot x)) (fun a b _ _ => f_conv a b)
  (fun et x _ _ => f_fb (.s2b et x)) (fun x _ _ => f_fb (.b2s x)) (fun x _ _ => f_fb (.i2s x)) (fun a b _ _ => f_mkif a b) (fun a b c _ _ => f_mkfn a b c) (fun _ _ => f_mkmap) (fun et z b l cp _ _ => f_fb (.mkslice et z b l cp)) (fun x lo hi _ _ => f_fb (.slstr x lo hi)) (fun e x lo hi mx _ _ => f_fb (.slsl e x lo hi mx)) (fun m e x lo hi _ _ => f_fb (.slarr m e x lo hi))
  (fun a b _ _ => f_faddr a b) (fun a b c _ _ => f_field a b c) (fun a b c _ _ => f_iaddr a b c) (fun m e x i _ _ => f_fb (.iaddra m e x i)) (fun a b _ _ => f_idxs a b) (fun m e g x i _ _ => f_fb (.idxa m e g x i)) (fun a b c d e _ _ => f_lookup a b c d e) (fun a b c d _ _ => f_mupd a b c d) (fun kk z m x _ _ => f_fb (.mentry kk z m x)) (fun m s v _ _ => f_fb (.estore m s v)) (fun x _ _ => f_fb (.rangeS x)) (fun x _ _ => f_fb (.rangeM x)) (fun x _ _ => f_fb (.nexts x)) (fun x _ _ => f_fb (.nextm x))
  (fun x _ _ => f_fb (.entry x)) (fun a b c d _ _ => f_tassert a b c d) (fun a b _ _ => f_extract a b) (fun a b _ _ => f_len a b) (fun x _ _ => f_fb (.cap x)) (fun a b c d _ _ => f_append a b c d) (fun e d s _ _ => f_fb (.copy e d s)) (fun kk m x _ _ => f_fb (.del kk m x)) (fun m _ _ => f_fb (.clearm m)) (fun mx xs _ _ => f_fb (.maxmin mx xs)) f_call f_callv f_invoke
  (fun et p m _ _ => f_fb (.ustr et p m)) (fun x _ _ => f_fb (.usd x)) (fun x _ _ => f_fb (.up2 x)) (fun u sz x _ _ => f_fb (.p2u u sz x)) (fun w _ _ => f_fb (.bad w))

def IOp.isCl : IOp → Bool
  | .call .. | .callv .. | .invoke .. => true
  | _ => false
theorem frun_plain {F : Tr IFn} {E : FE} (op : IOp) (h : op.isCl = false) : frun op F E = fop op := by
  cases op <;> first
    | rfl
    | cases h
theorem frun_eq {F : Tr IFn} {E : FE} {e : ICode → TM → AW → Option AR} (h : FOK E e) (op : IOp) (T : TM) (c : Tr AO) (os : List (Tr AO)) (n : Ix) (k : KV) : frun op F E T c os n k = fbk (runOp F e T ⟨c, os, n⟩ op) k := by
  cases op
  case call f xs =>
    show f_call f xs F E T c os n k = _
    unfold f_call; rw [fevs_eq, fcall_eq h]; rfl
  case callv x xs =>
    show f_callv x xs F E T c os n k = _
    unfold f_callv; rw [fevs_eq, fev_eq, asFunc_eq]; simp only [runOp, callV]
    cases x.ev T with
    | func f a b => exact fcall_eq h ..
    | _ => rfl
  case invoke t x xs =>
    show f_invoke t x xs F E T c os n k = _
    unfold f_invoke; rw [fevs_eq, fev_eq, asIface_eq]; simp only [runOp]
    cases x.ev T with
    | iface u w =>
      simp only
      cases tblFind t u with
      | none => rfl
      | some f => exact fcall_eq h ..
    | _ => rfl
  all_goals
    rw [frun_plain _ rfl, fop_eq]
    rfl
def fstepR : IStep → Tr IFn → FE → TM → Tr AO → List (Tr AO) → Ix → KT → FR := IStep.rec (motive := fun _ => Tr IFn → FE → TM → Tr AO → List (Tr AO) → Ix → KT → FR) fun d g op F E T c os n k =>
  fwant g T (frun op F E T c os n fun v c' os' n' => fputD d T v fun T' => k T' c' os' n') (fputD d T (.tup []) fun T' => k T' c os n)
/-- from a step's outcome on -/
def fS : Option (TM × AW) → KT → FR := Option.rec (motive := fun _ => KT → FR) (fun _ => none) (fun p k => k p.1 p.2.cur p.2.olds p.2.nx)
theorem fstepR_eq {F : Tr IFn} {E : FE} {e : ICode → TM → AW → Option AR} (h : FOK E e) (s : IStep) (T : TM) (c : Tr AO) (os : List (Tr AO)) (n : Ix) (k : KT) : fstepR s F E T c os n k = fS (runStep F e T ⟨c, os, n⟩ s) k := by
  obtain ⟨d, g, op⟩ := s
  show fwant g T (frun op F E T c os n fun v c' os' n' => fputD d T v fun T' => k T' c' os' n') (fputD d T (.tup []) fun T' => k T' c os n) = _
  rw [fwant_eq, frun_eq h, fputD_eq]
  simp only [runStep]
  cases wantedS T g with
  | none => rfl
  | some b => cases b with
    | false => rfl
    | true =>
      simp only
      cases runOp F e T ⟨c, os, n⟩ op with
      | none => rfl
      | some p => obtain ⟨v, A'⟩ := p; exact fputD_eq ..
def fsteps : List IStep → Tr IFn → FE → TM → Tr AO → List (Tr AO) → Ix → KT → FR := List.rec (motive := fun _ => Tr IFn → FE → TM → Tr AO → List (Tr AO) → Ix → KT → FR) (fun _ _ T c os n k => k T c os n)
  (fun s _ ih F E T c os n k => fstepR s F E T c os n fun T' c' os' n' => ih F E T' c' os' n' k)
theorem fsteps_eq {F : Tr IFn} {E : FE} {e : ICode → TM → AW → Option AR} (h : FOK E e) : ∀ (l : List IStep) (T : TM) (c : Tr AO) (os : List (Tr AO)) (n : Ix) (k : KT), fsteps l F E T c os n k = fS (runSteps F e l T ⟨c, os, n⟩) k
  | [], T, c, os, n, k => rfl
  | s :: l, T, c, os, n, k => by
    show fstepR s F E T c os n (fun T' c' os' n' => fsteps l F E T' c' os' n' k) = _
    rw [fstepR_eq h]
    simp only [runSteps]
    cases runStep F e T ⟨c, os, n⟩ s with
    | none => rfl
    | some p => obtain ⟨T', A'⟩ := p; exact fsteps_eq h l ..
def fnamed (s : IStep) (m : Ix) (T : TM) (c : Tr AO) (os : List (Tr AO)) (n : Ix) (k : KT) : FR := fS (runNamed T ⟨c, os, n⟩ s m) k
def fdraw : List DStep → Tr IFn → FE → Ix → TM → Tr AO → List (Tr AO) → Ix → KT → FR := List.rec (motive := fun _ => Tr IFn → FE → Ix → TM → Tr AO → List (Tr AO) → Ix → KT → FR) (fun _ _ _ T c os n k => k T c os n)
  (fun s _ ih F E base T c os n k => Option.rec (motive := fun _ => KT → FR) (fstepR s.s F E T c os n) (fun m => fnamed s.s (addIx m base) T c os n) s.nm fun T' c' os' n' => fif (sameAgain T' ⟨c', os', n'⟩ s.again) (ih F E base T' c' os' n' k) none)
theorem fdraw_eq {F : Tr IFn} {E : FE} {e : ICode → TM → AW → Option AR} (h : FOK E e) (base : Ix) : ∀ (l : List DStep) (T : TM) (c : Tr AO) (os : List (Tr AO)) (n : Ix) (k : KT), fdraw l F E base T c os n k = fS (runDraw F e base l T ⟨c, os, n⟩) k
  | [], T, c, os, n, k => rfl
  | s :: l, T, c, os, n, k => by
    show Option.rec (motive := fun _ => KT → FR) (fstepR s.s F E T c os n) (fun m => fnamed s.s (addIx m base) T c os n) s.nm (fun T' c' os' n' => fif (sameAgain T' ⟨c', os', n'⟩ s.again) (fdraw l F E base T' c' os' n' k) none) = _
    simp only [runDraw]
    have key : ∀ o : Option (TM × AW), fS o (fun T' c' os' n' => fif (sameAgain T' ⟨c', os', n'⟩ s.again) (fdraw l F E base T' c' os' n' k) none) =
        fS (match o with | some (T', A') => if sameAgain T' A' s.again then runDraw F e base l T' A' else none | none => none) k := by
      intro o
      cases o with
      | none => rfl
      | some p =>
        obtain ⟨T', A'⟩ := p
        show fif (sameAgain T' A' s.again) (fdraw l F E base T' A'.cur A'.olds A'.nx k) none = _
        rw [fif_eq, fdraw_eq h base l]
        simp only
        split <;> rfl
    cases s.nm with
    | none =>
      show fstepR s.s F E T c os n _ = _
      rw [fstepR_eq h]
      exact key _
    | some m => exact key _
/-- a text's run -/
def fmloop (it : Arg) (nx more : Ix) (dead : List Ix) (b : ICode) (F : Tr IFn) (E : FE) (T : TM) (c : Tr AO) (os : List (Tr AO)) (n : Ix) (k : KX) : FR := fR (evStep F (flow E) (.mloop it nx more dead b) T ⟨c, os, n⟩) k
def fcode : ICode → Tr IFn → FE → TM → Tr AO → List (Tr AO) → Ix → KX → FR := ICode.rec (motive := fun _ => Tr IFn → FE → TM → Tr AO → List (Tr AO) → Ix → KX → FR)
  (fun _ _ T c os n k => k .normal T c os n)
  (fun l F E T c os n k => fsteps l F E T c os n fun T' c' os' n' => k .normal T' c' os' n')
  (fun m l F E T c os n k => fdraw l F E n T c os (addIx m n) fun T' c' os' n' => k .normal T' c' os' n')
  (fun a b _ _ _ E T c os n k => E a T c os n fun x T' c' os' n' => faxN x (E b T' c' os' n' k) (k x T' c' os' n'))
  (fun x a b _ _ _ E T c os n k => fev x T fun v => asBool v (E a T c os n k) (E b T c os n k))
  (fun i b _ _ E T c os n k => E b T c os n fun x T' c' os' n' => faxE x (fun j => fif (Nat.beq j i) (k .normal T' c' os' n') (k x T' c' os' n')) (k x T' c' os' n'))
  (fun b _ _ E T c os n k => E b T c os n fun x T' c' os' n' => faxN x (E (.loop b) T' c' os' n' k) (k x T' c' os' n'))
  (fun it nx more dead b _ => fmloop it nx more dead b)
  (fun i _ _ T c os n k => k (.exit i) T c os n)
  (fun b _ _ E T c os n k => E (.inscope b b) T c os n k)
  (fun a b _ _ _ E T c os n k => E a T c os n fun x T' c' os' n' => faxG x (fun l => Option.rec (motive := fun _ => FR) (k x T' c' os' n') (fun rest => E (.inscope rest b) T' c' os' n' k) (findLab b l)) (k x T' c' os' n'))
  (fun _ _ _ T c os n k => k .normal T c os n)
  (fun l _ _ T c os n k => k (.goto l) T c os n)
  (fun _ _ T c os n k => k .ret T c os n)
  (fun _ _ _ _ _ _ _ => none)
theorem fcode_ok {F : Tr IFn} {E : FE} {e : ICode → TM → AW → Option AR} (h : FOK E e) : FOK (fun b => fcode b F E) (evStep F e) := by
  intro b T c os n k
  cases b
  case skip => rfl
  case reg l =>
    show fsteps l F E T c os n _ = _
    rw [fsteps_eq h]
    simp only [evStep]
    cases runSteps F e l T ⟨c, os, n⟩ <;> rfl
  case draw m l =>
    show fdraw l F E n T c os (addIx m n) _ = _
    rw [fdraw_eq h]
    simp only [evStep]
    cases runDraw F e n l T ⟨c, os, addIx m n⟩ <;> rfl
  case seq a b =>
    show E a T c os n _ = _
    rw [h]
    simp only [evStep]
    cases e a T ⟨c, os, n⟩ with
    | none => rfl
    | some r =>
      obtain ⟨x, T', A'⟩ := r
      cases x with
      | normal => exact h ..
      | _ => rfl
  case cond x a b =>
    show fev x T _ = _
    rw [fev_eq, asBool_eq]
    simp only [evStep]
    cases x.ev T with
    | bool v => cases v <;> exact h ..
    | _ => rfl
  case block i b =>
    show E b T c os n _ = _
    rw [h]
    simp only [evStep]
    cases e b T ⟨c, os, n⟩ with
    | none => rfl
    | some r =>
      obtain ⟨x, T', A'⟩ := r
      cases x with
      | exit j =>
        show fif (Nat.beq j i) (k .normal T' A'.cur A'.olds A'.nx) (k (.exit j) T' A'.cur A'.olds A'.nx) = _
        rw [fif_eq]
        simp only
        by_cases hj : j = i
        · rw [if_pos (by rw [hj]; exact Nat.beq_refl i), if_pos hj]; rfl
        · rw [if_neg (fun hb => hj (Nat.eq_of_beq_eq_true hb)), if_neg hj]; rfl
      | _ => rfl
  case loop b =>
    show E b T c os n _ = _
    rw [h]
    simp only [evStep]
    cases e b T ⟨c, os, n⟩ with
    | none => rfl
    | some r =>
      obtain ⟨x, T', A'⟩ := r
      cases x with
      | normal => exact h ..
      | _ => rfl
  case mloop it nx more dead b =>
    show fR (evStep F (flow E) (.mloop it nx more dead b) T ⟨c, os, n⟩) k = _
    rw [flow_eq h]
  case exit i => rfl
  case scope b => exact h ..
  case inscope a b =>
    show E a T c os n _ = _
    rw [h]
    simp only [evStep]
    cases e a T ⟨c, os, n⟩ with
    | none => rfl
    | some r =>
      obtain ⟨x, T', A'⟩ := r
      cases x with
      | goto l =>
        show Option.rec (motive := fun _ => FR) (k (.goto l) T' A'.cur A'.olds A'.nx) (fun rest => E (.inscope rest b) T' A'.cur A'.olds A'.nx k) (findLab b l) = _
        simp only
        cases findLab b l with
        | none => rfl
        | some rest => exact h ..
      | _ => rfl
  case label => rfl
  case goto => rfl
  case ret => rfl
  case bad => rfl
/-- the evaluator, for the kernel -/
def fevF (F : Tr IFn) : Nat → FE := Nat.rec (motive := fun _ => FE) (fun _ _ _ _ _ _ => none) (fun _ E b => fcode b F E)
theorem fevF_ok (F : Tr IFn) : ∀ n, FOK (fevF F n) (ev F n)
  | 0 => fun _ _ _ _ _ _ => rfl
  | n + 1 => fcode_ok (fevF_ok F n)
def tabOf : List (Nat × IFn) → Tr IFn
  | [] => .leaf
  | p :: l => Tr.set p.2 (tabOf l) (Ix.ofTmp p.1)
/-- a world of one thing that is read only -/
def ro1 (gl : Ix) (l : List AV) (et : Nat) (nx : Ix) : AW := ⟨Tr.set (.cells l et false true) .leaf gl, [], nx⟩
/-- the evaluator for the kernel says that a call hands back that truth -/
def fsays (F : Tr IFn) (n f : Nat) (args : List AV) (A : AW) (b : Bool) : Bool :=
  match fcall F (fevF F n) f args A.cur A.olds A.nx (fun v _ _ _ => asB v fun c => fif (beqB c b) (some ⟨.ret, .leaf, ⟨.leaf, [], .h⟩⟩) none) with
  | some _ => true
  | none => false
theorem fsays_ok {F : Tr IFn} {n f : Nat} {args : List AV} {A : AW} {b : Bool} (h : fsays F n f args A b = true) : ∃ A', callFn F (ev F n) f args A = some (.bool b, A') := by
  unfold fsays at h
  rw [fcall_eq (fevF_ok F n)] at h
  cases hc : callFn F (ev F n) f args A with
  | none => rw [show (⟨A.cur, A.olds, A.nx⟩ : AW) = A from rfl, hc] at h; cases h
  | some p =>
    obtain ⟨v, A'⟩ := p
    rw [show (⟨A.cur, A.olds, A.nx⟩ : AW) = A from rfl, hc] at h
    simp only [fbk_some] at h
    rw [asB_eq] at h
    cases v with
    | bool c =>
      simp only [fif_eq, beqB_eq] at h
      by_cases hcb : (c == b) = true
      · have : c = b := by simpa using hcb
        subst this; exact ⟨A', rfl⟩
      · rw [if_neg hcb] at h; cases h
    | _ => simp at h
end
end Go.AE
namespace Go.AE
/-! the same, told by a Bool -/
def ixEq : Ix → Ix → Bool
  | .h, .h => true
  | .o p, .o q => ixEq p q
  | .i p, .i q => ixEq p q
  | _, _ => false
def capEq : Cap → Cap → Bool
  | .k n, .k m => Nat.beq n m
  | .g n, .g m => Nat.beq n m
  | _, _ => false
def leafEq : AV → AV → Bool
  | .bool a, .bool b => a == b
  | .int j a, .int k b => decide (j = k) && decide (a = b)
  | .str a, .str b => bytesEq a b
  | .nilptr, .nilptr | .nilslice, .nilslice | .nilmap, .nilmap | .nilfunc, .nilfunc | .niliface, .niliface | .zslice, .zslice => true
  | .ptr a i, .ptr b j => ixEq a b && Nat.beq i j
  | .slice a i l c, .slice b j m d => ixEq a b && Nat.beq i j && Nat.beq l m && capEq c d
  | .map a, .map b => ixEq a b
  | _, _ => false
mutual
def sameV : AV → AV → Bool
  | .func f a b, y => match y with
    | .func g c d => Nat.beq f g && sameVs a c && sameVs b d
    | _ => false
  | .iface t v, y => match y with
    | .iface u w => Nat.beq t u && sameV v w
    | _ => false
  | .agg l, y => match y with
    | .agg m => sameVs l m
    | _ => false
  | .tup l, y => match y with
    | .tup m => sameVs l m
    | _ => false
  | x, y => leafEq x y
def sameVs : List AV → List AV → Bool
  | [], [] => true
  | x :: l, y :: m => sameV x y && sameVs l m
  | _, _ => false
end
def bEq : Bool → Bool → Bool
  | true, true => true
  | false, false => true
  | _, _ => false
def sameO : AO → AO → Bool
  | .cells l et g z, .cells l' et' g' z' => sameVs l l' && Nat.beq et et' && bEq g g' && bEq z z'
  | _, _ => false
def pickIx : List Ix → Ix → Ix → Ix → Ix
  | [], _, bad, _ => bad
  | n :: ns, cur, bad, r => if ixEq r cur then n else pickIx ns cur.succ bad r
def objsOk (r : Ix → Ix) : List Ix → List AO → AW → Bool
  | [], [], _ => true
  | n :: ns, o :: os, A => (match A.get n with | some o' => sameO (mapO r o) o' | none => false) && objsOk r ns os A
  | _, _, _ => false
def notIn (x : Ix) : List Ix → Bool
  | [] => true
  | y :: l => !ixEq x y && notIn x l
def distinct : List Ix → Bool
  | [] => true
  | x :: l => notIn x l && distinct l
def resOk (gl : Ix) (ns : List Ix) (v : AV) (os : List AO) (v0 : AV) (A : AW) : Bool :=
  sameV (mapV (pickIx ns .h A.nx) v) v0 && objsOk (pickIx ns .h A.nx) ns os A && notIn gl ns && distinct ns
/-- the evaluator for the kernel says that a call hands back what the table says -/
noncomputable def fresOk (F : Tr IFn) (n f : Nat) (args : List AV) (A : AW) (gl : Ix) (ns : List Ix) (v : AV) (os : List AO) : Bool :=
  match fcall F (fevF F n) f args A.cur A.olds A.nx (fun v0 c o m => fif (resOk gl ns v os v0 ⟨c, o, m⟩) (some ⟨.ret, .leaf, ⟨.leaf, [], .h⟩⟩) none) with
  | some _ => true
  | none => false
theorem fresOk_ok {F : Tr IFn} {n f : Nat} {args : List AV} {A : AW} {gl : Ix} {ns : List Ix} {v : AV} {os : List AO} (h : fresOk F n f args A gl ns v os = true) : ∃ v0 A', callFn F (ev F n) f args A = some (v0, A') ∧ resOk gl ns v os v0 A' = true := by
  unfold fresOk at h
  rw [fcall_eq (fevF_ok F n)] at h
  cases hc : callFn F (ev F n) f args A with
  | none => rw [show (⟨A.cur, A.olds, A.nx⟩ : AW) = A from rfl, hc] at h; cases h
  | some p =>
    obtain ⟨v0, A'⟩ := p
    rw [show (⟨A.cur, A.olds, A.nx⟩ : AW) = A from rfl, hc] at h
    simp only [fbk_some] at h
    refine ⟨v0, A', rfl, ?_⟩
    rw [fif_eq] at h
    by_cases hr : resOk gl ns v os v0 A' = true
    · exact hr
    · rw [if_neg hr] at h; cases h
end Go.AE
