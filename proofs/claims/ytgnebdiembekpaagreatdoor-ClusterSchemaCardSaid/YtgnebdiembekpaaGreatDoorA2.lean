import Derived.Test.YtgnebdiembekpaaGreatDoorA1
/- Part of the proof: the abstract evaluator, its soundness, its runs: AeFast1, AeFast2, AeFast3, AeFast4, AeFast5 -/
set_option linter.unusedSectionVars false
set_option linter.unusedSimpArgs false
set_option linter.unusedVariables false
set_option linter.unnecessarySimpa false
namespace Go.AE
noncomputable section
abbrev FR := Option AR
abbrev KV := AV → Tr AO → List (Tr AO) → Ix → FR
abbrev KX := AX → TM → Tr AO → List (Tr AO) → Ix → FR
abbrev KT := TM → Tr AO → List (Tr AO) → Ix → FR
abbrev FE := ICode → TM → Tr AO → List (Tr AO) → Ix → KX → FR

/-- look up -/
def fgT : Ix → Tr AV → (AV → FR) → FR → FR := Ix.rec (motive := fun _ => Tr AV → (AV → FR) → FR → FR)
  (fun t s n => Tr.rec (motive := fun _ => (AV → FR) → FR → FR) (fun _ n => n) (fun _ v _ _ _ s n => Option.rec (motive := fun _ => (AV → FR) → FR → FR) (fun _ n => n) (fun v s _ => s v) v s n) t s n)
  (fun _ ih t s n => Tr.rec (motive := fun _ => (Tr AV → (AV → FR) → FR → FR) → (AV → FR) → FR → FR) (fun _ _ n => n) (fun l _ _ _ _ ih s n => ih l s n) t ih s n)
  (fun _ ih t s n => Tr.rec (motive := fun _ => (Tr AV → (AV → FR) → FR → FR) → (AV → FR) → FR → FR) (fun _ _ n => n) (fun _ _ r _ _ ih s n => ih r s n) t ih s n)
theorem fgT_eq (i : Ix) : ∀ (t : Tr AV) (s : AV → FR) (n : FR), fgT i t s n = (match t.get i with | some v => s v | none => n) := by
  induction i with
  | h => intro t s n; cases t with
    | leaf => rfl
    | node l v r => cases v <;> rfl
  | o p ih => intro t s n; cases t with
    | leaf => rfl
    | node l v r => exact ih l s n
  | i p ih => intro t s n; cases t with
    | leaf => rfl
    | node l v r => exact ih r s n
/-- set -/
def fsT : Ix → Tr AV → AV → (Tr AV → FR) → FR := Ix.rec (motive := fun _ => Tr AV → AV → (Tr AV → FR) → FR)
  (fun t x k => Tr.rec (motive := fun _ => AV → (Tr AV → FR) → FR) (fun x k => k (.node .leaf (some x) .leaf)) (fun l _ r _ _ x k => k (.node l (some x) r)) t x k)
  (fun _ ih t x k => Tr.rec (motive := fun _ => (Tr AV → AV → (Tr AV → FR) → FR) → AV → (Tr AV → FR) → FR) (fun ih x k => ih .leaf x fun t => k (.node t none .leaf)) (fun l v r _ _ ih x k => ih l x fun t => k (.node t v r)) t ih x k)
  (fun _ ih t x k => Tr.rec (motive := fun _ => (Tr AV → AV → (Tr AV → FR) → FR) → AV → (Tr AV → FR) → FR) (fun ih x k => ih .leaf x fun t => k (.node .leaf none t)) (fun l v r _ _ ih x k => ih r x fun t => k (.node l v t)) t ih x k)
theorem fsT_eq (i : Ix) : ∀ (t : Tr AV) (x : AV) (k : Tr AV → FR), fsT i t x k = k (Tr.set x t i) := by
  induction i with
  | h => intro t x k; cases t <;> rfl
  | o p ih => intro t x k; cases t with
    | leaf => exact (ih .leaf x _)
    | node l v r => exact (ih l x _)
  | i p ih => intro t x k; cases t with
    | leaf => exact (ih .leaf x _)
    | node l v r => exact (ih r x _)
/-- look up -/
def fgW : Ix → Tr AO → (AO → FR) → FR → FR := Ix.rec (motive := fun _ => Tr AO → (AO → FR) → FR → FR)
  (fun t s n => Tr.rec (motive := fun _ => (AO → FR) → FR → FR) (fun _ n => n) (fun _ v _ _ _ s n => Option.rec (motive := fun _ => (AO → FR) → FR → FR) (fun _ n => n) (fun v s _ => s v) v s n) t s n)
  (fun _ ih t s n => Tr.rec (motive := fun _ => (Tr AO → (AO → FR) → FR → FR) → (AO → FR) → FR → FR) (fun _ _ n => n) (fun l _ _ _ _ ih s n => ih l s n) t ih s n)
  (fun _ ih t s n => Tr.rec (motive := fun _ => (Tr AO → (AO → FR) → FR → FR) → (AO → FR) → FR → FR) (fun _ _ n => n) (fun _ _ r _ _ ih s n => ih r s n) t ih s n)
theorem fgW_eq (i : Ix) : ∀ (t : Tr AO) (s : AO → FR) (n : FR), fgW i t s n = (match t.get i with | some v => s v | none => n) := by
  induction i with
  | h => intro t s n; cases t with
    | leaf => rfl
    | node l v r => cases v <;> rfl
  | o p ih => intro t s n; cases t with
    | leaf => rfl
    | node l v r => exact ih l s n
  | i p ih => intro t s n; cases t with
    | leaf => rfl
    | node l v r => exact ih r s n
/-- set -/
def fsW : Ix → Tr AO → AO → (Tr AO → FR) → FR := Ix.rec (motive := fun _ => Tr AO → AO → (Tr AO → FR) → FR)
  (fun t x k => Tr.rec (motive := fun _ => AO → (Tr AO → FR) → FR) (fun x k => k (.node .leaf (some x) .leaf)) (fun l _ r _ _ x k => k (.node l (some x) r)) t x k)
  (fun _ ih t x k => Tr.rec (motive := fun _ => (Tr AO → AO → (Tr AO → FR) → FR) → AO → (Tr AO → FR) → FR) (fun ih x k => ih .leaf x fun t => k (.node t none .leaf)) (fun l v r _ _ ih x k => ih l x fun t => k (.node t v r)) t ih x k)
  (fun _ ih t x k => Tr.rec (motive := fun _ => (Tr AO → AO → (Tr AO → FR) → FR) → AO → (Tr AO → FR) → FR) (fun ih x k => ih .leaf x fun t => k (.node .leaf none t)) (fun l v r _ _ ih x k => ih r x fun t => k (.node l v t)) t ih x k)
theorem fsW_eq (i : Ix) : ∀ (t : Tr AO) (x : AO) (k : Tr AO → FR), fsW i t x k = k (Tr.set x t i) := by
  induction i with
  | h => intro t x k; cases t <;> rfl
  | o p ih => intro t x k; cases t with
    | leaf => exact (ih .leaf x _)
    | node l v r => exact (ih l x _)
  | i p ih => intro t x k; cases t with
    | leaf => exact (ih .leaf x _)
    | node l v r => exact (ih r x _)
/-- the next name -/
def fsucc : Ix → (Ix → FR) → FR := Ix.rec (motive := fun _ => (Ix → FR) → FR) (fun k => k (.o .h)) (fun p _ k => k (.i p)) (fun _ ih k => ih fun p => k (.o p))
theorem fsucc_eq (i : Ix) : ∀ (k : Ix → FR), fsucc i k = k i.succ := by
  induction i with
  | h => intro k; rfl
  | o p ih => intro k; rfl
  | i p ih => intro k; exact ih _
/-- a number, looked at -/
def fnat : Nat → (Nat → FR) → FR := Nat.rec (motive := fun _ => (Nat → FR) → FR) (fun k => k 0) (fun p _ k => k (Nat.succ p))
theorem fnat_eq (n : Nat) (k : Nat → FR) : fnat n k = k n := by cases n <;> rfl
/-- this or that -/
def fif : Bool → FR → FR → FR := Bool.rec (motive := fun _ => FR → FR → FR) (fun _ e => e) (fun t _ => t)
theorem fif_eq (b : Bool) (t e : FR) : fif b t e = if b then t else e := by cases b <;> rfl
/-- the objects of the loops around -/
def fold_get : List (Tr AO) → Ix → (AO → FR) → FR → FR := List.rec (motive := fun _ => Ix → (AO → FR) → FR → FR) (fun _ _ n => n) (fun t _ ih i s n => fgW i t s (ih i s n))
theorem fold_get_eq : ∀ (os : List (Tr AO)) (i : Ix) (s : AO → FR) (n : FR), fold_get os i s n = (match olds_get os i with | some v => s v | none => n)
  | [], _, _, _ => rfl
  | t :: os, i, s, n => by
    show fgW i t s (fold_get os i s n) = _
    rw [fgW_eq, fold_get_eq os i s n, olds_get]
    cases t.get i <;> rfl
def fget (i : Ix) (c : Tr AO) (os : List (Tr AO)) (s : AO → FR) : FR := fgW i c s (fold_get os i s none)
theorem fget_eq (i : Ix) (c : Tr AO) (os : List (Tr AO)) (n : Ix) (s : AO → FR) : fget i c os s = (match AW.get ⟨c, os, n⟩ i with | some v => s v | none => none) := by
  unfold fget AW.get
  rw [fgW_eq, fold_get_eq]
  cases c.get i <;> rfl
def fput (i : Ix) (o : AO) (c : Tr AO) (k : Tr AO → FR) : FR := fgW i c (fun _ => fsW i c o k) none
theorem fput_eq (i : Ix) (o : AO) (c : Tr AO) (os : List (Tr AO)) (n : Ix) (k : Tr AO → FR) : fput i o c k = (match AW.put ⟨c, os, n⟩ i o with | some A => k A.cur | none => none) := by
  unfold fput AW.put
  rw [fgW_eq, fsW_eq]
  cases c.get i <;> rfl
theorem put_rest {A A' : AW} {i : Ix} {o : AO} (h : A.put i o = some A') : A'.olds = A.olds ∧ A'.nx = A.nx := by
  unfold AW.put at h
  split at h
  · cases h; exact ⟨rfl, rfl⟩
  · cases h
def fnew (o : AO) (c : Tr AO) (n : Ix) (k : Tr AO → Ix → FR) : FR := fsW n c o fun c' => fsucc n fun n' => k c' n'
theorem fnew_eq (o : AO) (c : Tr AO) (os : List (Tr AO)) (n : Ix) (k : Tr AO → Ix → FR) : fnew o c n k = k (AW.new ⟨c, os, n⟩ o).cur (AW.new ⟨c, os, n⟩ o).nx := by
  unfold fnew
  rw [fsW_eq, fsucc_eq]; rfl
/-- from an operation's outcome on -/
def fbk : Option (AV × AW) → KV → FR := Option.rec (motive := fun _ => KV → FR) (fun _ => none) (fun p k => k p.1 p.2.cur p.2.olds p.2.nx)
/-- an operand -/
def fev : Arg → TM → (AV → FR) → FR := Arg.rec (motive := fun _ => TM → (AV → FR) → FR) (fun p T k => fgT p T k (k .undef)) (fun v _ k => k v)
theorem fev_eq (x : Arg) (T : TM) (k : AV → FR) : fev x T k = k (x.ev T) := by
  cases x with
  | c v => rfl
  | t p =>
    show fgT p T k (k .undef) = _
    rw [fgT_eq]
    simp only [Arg.ev]
    cases T.get p <;> rfl
/-- a pointer -/
def asPtr : AV → (Ix → Nat → FR) → FR := AV.rec (motive_1 := fun _ => (Ix → Nat → FR) → FR) (motive_2 := fun _ => Unit)
  (fun _ => none)
  (fun _ _ => none)
  (fun _ _ _ => none)
  (fun _ _ => none)
  (fun a i k => k a i)
  (fun _ => none)
  (fun _ _ _ _ _ => none)
  (fun _ => none)
  (fun _ => none)
  (fun _ _ => none)
  (fun _ => none)
  (fun _ _ _ _ _ _ => none)
  (fun _ _ => none)
  (fun _ => none)
  (fun _ _ _ _ => none)
  (fun _ => none)
  (fun _ _ _ => none)
  (fun _ _ _ => none)
  (fun _ _ _ => none)
  () (fun _ _ _ _ => ())
theorem asPtr_eq (v : AV) (k : (Ix → Nat → FR)) : asPtr v k = (match v with
    | .ptr a i => k a i
    | _ => none) := by cases v <;> rfl
/-- a text -/
def asStr : AV → (List Nat → FR) → FR := AV.rec (motive_1 := fun _ => (List Nat → FR) → FR) (motive_2 := fun _ => Unit)
  (fun _ => none)
  (fun _ _ => none)
  (fun _ _ _ => none)
  (fun l k => k l)
  (fun _ _ _ => none)
  (fun _ => none)
  (fun _ _ _ _ _ => none)
  (fun _ => none)
  (fun _ => none)
  (fun _ _ => none)
  (fun _ => none)
  (fun _ _ _ _ _ _ => none)
  (fun _ _ => none)
  (fun _ => none)
  (fun _ _ _ _ => none)
  (fun _ => none)
  (fun _ _ _ => none)
  (fun _ _ _ => none)
  (fun _ _ _ => none)
  () (fun _ _ _ _ => ())
theorem asStr_eq (v : AV) (k : (List Nat → FR)) : asStr v k = (match v with
    | .str l => k l
    | _ => none) := by cases v <;> rfl
/-- a whole number -/
def asInt : AV → (IntKind → Int → FR) → FR := AV.rec (motive_1 := fun _ => (IntKind → Int → FR) → FR) (motive_2 := fun _ => Unit)
  (fun _ => none)
  (fun _ _ => none)
  (fun j n k => k j n)
  (fun _ _ => none)
  (fun _ _ _ => none)
  (fun _ => none)
  (fun _ _ _ _ _ => none)
  (fun _ => none)
  (fun _ => none)
  (fun _ _ => none)
  (fun _ => none)
  (fun _ _ _ _ _ _ => none)
  (fun _ _ => none)
  (fun _ => none)
  (fun _ _ _ _ => none)
  (fun _ => none)
  (fun _ _ _ => none)
  (fun _ _ _ => none)
  (fun _ _ _ => none)
  () (fun _ _ _ _ => ())
theorem asInt_eq (v : AV) (k : (IntKind → Int → FR)) : asInt v k = (match v with
    | .int j n => k j n
    | _ => none) := by cases v <;> rfl
/-- a truth -/
def asBool : AV → FR → FR → FR := AV.rec (motive_1 := fun _ => FR → FR → FR) (motive_2 := fun _ => Unit)
  (fun _ _ => none)
  (fun b t e => fif b t e)
  (fun _ _ _ _ => none)
  (fun _ _ _ => none)
  (fun _ _ _ _ => none)
  (fun _ _ => none)
  (fun _ _ _ _ _ _ => none)
  (fun _ _ => none)
  (fun _ _ => none)
  (fun _ _ _ => none)
  (fun _ _ => none)
  (fun _ _ _ _ _ _ _ => none)
  (fun _ _ _ => none)
  (fun _ _ => none)
  (fun _ _ _ _ _ => none)
  (fun _ _ => none)
  (fun _ _ _ _ => none)
  (fun _ _ _ _ => none)
  (fun _ _ _ _ => none)
  () (fun _ _ _ _ => ())
theorem asBool_eq (v : AV) (t : FR) (e : FR) : asBool v t e = (match v with
    | .bool b => fif b t e
    | _ => none) := by cases v <;> rfl
/-- cells -/
def asAgg : AV → (List AV → FR) → FR := AV.rec (motive_1 := fun _ => (List AV → FR) → FR) (motive_2 := fun _ => Unit)
  (fun _ => none)
  (fun _ _ => none)
  (fun _ _ _ => none)
  (fun _ _ => none)
  (fun _ _ _ => none)
  (fun _ => none)
  (fun _ _ _ _ _ => none)
  (fun _ => none)
  (fun _ => none)
  (fun _ _ => none)
  (fun _ => none)
  (fun _ _ _ _ _ _ => none)
  (fun _ _ => none)
  (fun _ => none)
  (fun _ _ _ _ => none)
  (fun _ => none)
  (fun l _ k => k l)
  (fun _ _ _ => none)
  (fun _ _ _ => none)
  () (fun _ _ _ _ => ())
theorem asAgg_eq (v : AV) (k : (List AV → FR)) : asAgg v k = (match v with
    | .agg l => k l
    | _ => none) := by cases v <;> rfl
/-- several values -/
def asTup : AV → (List AV → FR) → FR := AV.rec (motive_1 := fun _ => (List AV → FR) → FR) (motive_2 := fun _ => Unit)
  (fun _ => none)
  (fun _ _ => none)
  (fun _ _ _ => none)
  (fun _ _ => none)
  (fun _ _ _ => none)
  (fun _ => none)
  (fun _ _ _ _ _ => none)
  (fun _ => none)
  (fun _ => none)
  (fun _ _ => none)
  (fun _ => none)
  (fun _ _ _ _ _ _ => none)
  (fun _ _ => none)
  (fun _ => none)
  (fun _ _ _ _ => none)
  (fun _ => none)
  (fun _ _ _ => none)
  (fun l _ k => k l)
  (fun _ _ _ => none)
  () (fun _ _ _ _ => ())
theorem asTup_eq (v : AV) (k : (List AV → FR)) : asTup v k = (match v with
    | .tup l => k l
    | _ => none) := by cases v <;> rfl
/-- a map -/
def asMap : AV → FR → (Ix → FR) → FR := AV.rec (motive_1 := fun _ => FR → (Ix → FR) → FR) (motive_2 := fun _ => Unit)
  (fun _ _ => none)
  (fun _ _ _ => none)
  (fun _ _ _ _ => none)
  (fun _ _ _ => none)
  (fun _ _ _ _ => none)
  (fun _ _ => none)
  (fun _ _ _ _ _ _ => none)
  (fun _ _ => none)
  (fun _ _ => none)
  (fun a _ k => k a)
  (fun z _ => z)
  (fun _ _ _ _ _ _ _ => none)
  (fun _ _ _ => none)
  (fun _ _ => none)
  (fun _ _ _ _ _ => none)
  (fun _ _ => none)
  (fun _ _ _ _ => none)
  (fun _ _ _ _ => none)
  (fun _ _ _ _ => none)
  () (fun _ _ _ _ => ())
theorem asMap_eq (v : AV) (z : FR) (k : (Ix → FR)) : asMap v z k = (match v with
    | .map a => k a
    | .nilmap => z
    | _ => none) := by cases v <;> rfl
/-- a function -/
def asFunc : AV → (Nat → List AV → List AV → FR) → FR := AV.rec (motive_1 := fun _ => (Nat → List AV → List AV → FR) → FR) (motive_2 := fun _ => Unit)
  (fun _ => none)
  (fun _ _ => none)
  (fun _ _ _ => none)
  (fun _ _ => none)
  (fun _ _ _ => none)
  (fun _ => none)
  (fun _ _ _ _ _ => none)
  (fun _ => none)
  (fun _ => none)
  (fun _ _ => none)
  (fun _ => none)
  (fun f x y _ _ k => k f x y)
  (fun _ _ => none)
  (fun _ => none)
  (fun _ _ _ _ => none)
  (fun _ => none)
  (fun _ _ _ => none)
  (fun _ _ _ => none)
  (fun _ _ _ => none)
  () (fun _ _ _ _ => ())
theorem asFunc_eq (v : AV) (k : (Nat → List AV → List AV → FR)) : asFunc v k = (match v with
    | .func f x y => k f x y
    | _ => none) := by cases v <;> rfl
/-- a value in an interface -/
def asIface : AV → FR → (Nat → AV → FR) → FR := AV.rec (motive_1 := fun _ => FR → (Nat → AV → FR) → FR) (motive_2 := fun _ => Unit)
  (fun _ _ => none)
  (fun _ _ _ => none)
  (fun _ _ _ _ => none)
  (fun _ _ _ => none)
  (fun _ _ _ _ => none)
  (fun _ _ => none)
  (fun _ _ _ _ _ _ => none)
  (fun _ _ => none)
  (fun _ _ => none)
  (fun _ _ _ => none)
  (fun _ _ => none)
  (fun _ _ _ _ _ _ _ => none)
  (fun _ _ _ => none)
  (fun _ _ => none)
  (fun u v _ _ k => k u v)
  (fun z _ => z)
  (fun _ _ _ _ => none)
  (fun _ _ _ _ => none)
  (fun _ _ _ _ => none)
  () (fun _ _ _ _ => ())
theorem asIface_eq (v : AV) (z : FR) (k : (Nat → AV → FR)) : asIface v z k = (match v with
    | .iface u v => k u v
    | .niliface => z
    | _ => none) := by cases v <;> rfl
/-- a slice -/
def asSl : AV → FR → FR → (Ix → Nat → Nat → Cap → FR) → FR := AV.rec (motive_1 := fun _ => FR → FR → (Ix → Nat → Nat → Cap → FR) → FR) (motive_2 := fun _ => Unit)
  (fun _ _ _ => none)
  (fun _ _ _ _ => none)
  (fun _ _ _ _ _ => none)
  (fun _ _ _ _ => none)
  (fun _ _ _ _ _ => none)
  (fun _ _ _ => none)
  (fun a i l c _ _ k => k a i l c)
  (fun z _ _ => z)
  (fun _ e _ => e)
  (fun _ _ _ _ => none)
  (fun _ _ _ => none)
  (fun _ _ _ _ _ _ _ _ => none)
  (fun _ _ _ _ => none)
  (fun _ _ _ => none)
  (fun _ _ _ _ _ _ => none)
  (fun _ _ _ => none)
  (fun _ _ _ _ _ => none)
  (fun _ _ _ _ _ => none)
  (fun _ _ _ _ _ => none)
  () (fun _ _ _ _ => ())
theorem asSl_eq (v : AV) (z : FR) (e : FR) (k : (Ix → Nat → Nat → Cap → FR)) : asSl v z e k = (match v with
    | .slice a i l c => k a i l c
    | .zslice => z
    | .nilslice => e
    | _ => none) := by cases v <;> rfl
/-- a number or a text -/
def asNum : AV → (IntKind → Int → FR) → (List Nat → FR) → FR := AV.rec (motive_1 := fun _ => (IntKind → Int → FR) → (List Nat → FR) → FR) (motive_2 := fun _ => Unit)
  (fun _ _ => none)
  (fun _ _ _ => none)
  (fun j n k _ => k j n)
  (fun l _ s => s l)
  (fun _ _ _ _ => none)
  (fun _ _ => none)
  (fun _ _ _ _ _ _ => none)
  (fun _ _ => none)
  (fun _ _ => none)
  (fun _ _ _ => none)
  (fun _ _ => none)
  (fun _ _ _ _ _ _ _ => none)
  (fun _ _ _ => none)
  (fun _ _ => none)
  (fun _ _ _ _ _ => none)
  (fun _ _ => none)
  (fun _ _ _ _ => none)
  (fun _ _ _ _ => none)
  (fun _ _ _ _ => none)
  () (fun _ _ _ _ => ())
theorem asNum_eq (v : AV) (k : (IntKind → Int → FR)) (s : (List Nat → FR)) : asNum v k s = (match v with
    | .int j n => k j n
    | .str l => s l
    | _ => none) := by cases v <;> rfl
/-- fits it one cell? -/
def isOne : AV → FR → FR → FR := AV.rec (motive_1 := fun _ => FR → FR → FR) (motive_2 := fun _ => Unit)
  (fun _ e => e)
  (fun _ t _ => t)
  (fun _ _ t _ => t)
  (fun _ t _ => t)
  (fun _ _ t _ => t)
  (fun t _ => t)
  (fun _ _ _ _ t _ => t)
  (fun t _ => t)
  (fun t _ => t)
  (fun _ t _ => t)
  (fun t _ => t)
  (fun _ _ _ _ _ t _ => t)
  (fun _ t _ => t)
  (fun t _ => t)
  (fun _ _ _ t _ => t)
  (fun t _ => t)
  (fun _ _ _ e => e)
  (fun _ _ _ e => e)
  (fun _ _ t _ => t)
  () (fun _ _ _ _ => ())
theorem isOne_eq (v : AV) (t : FR) (e : FR) : isOne v t e = (match v with
    | .undef => e
    | .bool b => t
    | .int j n => t
    | .str l => t
    | .ptr a i => t
    | .nilptr => t
    | .slice a i l c => t
    | .zslice => t
    | .nilslice => t
    | .map a => t
    | .nilmap => t
    | .func f x y => t
    | .yield a => t
    | .nilfunc => t
    | .iface u v => t
    | .niliface => t
    | .agg l => e
    | .tup l => e
    | .cls m q => t
) := by cases v <;> rfl
/-- is it unknown? -/
def isU : AV → FR → FR → FR := AV.rec (motive_1 := fun _ => FR → FR → FR) (motive_2 := fun _ => Unit)
  (fun t _ => t)
  (fun _ _ e => e)
  (fun _ _ _ e => e)
  (fun _ _ e => e)
  (fun _ _ _ e => e)
  (fun _ e => e)
  (fun _ _ _ _ _ e => e)
  (fun _ e => e)
  (fun _ e => e)
  (fun _ _ e => e)
  (fun _ e => e)
  (fun _ _ _ _ _ _ e => e)
  (fun _ _ e => e)
  (fun _ e => e)
  (fun _ _ _ _ e => e)
  (fun _ e => e)
  (fun _ _ _ e => e)
  (fun _ _ _ e => e)
  (fun _ _ _ e => e)
  () (fun _ _ _ _ => ())
theorem isU_eq (v : AV) (t : FR) (e : FR) : isU v t e = (match v with
    | .undef => t
    | .bool b => e
    | .int j n => e
    | .str l => e
    | .ptr a i => e
    | .nilptr => e
    | .slice a i l c => e
    | .zslice => e
    | .nilslice => e
    | .map a => e
    | .nilmap => e
    | .func f x y => e
    | .yield a => e
    | .nilfunc => e
    | .iface u v => e
    | .niliface => e
    | .agg l => e
    | .tup l => e
    | .cls m q => e
) := by cases v <;> rfl
/-- a guard -/
def asGuard : AV → (Bool → FR) → FR → FR := AV.rec (motive_1 := fun _ => (Bool → FR) → FR → FR) (motive_2 := fun _ => Unit)
  (fun _ _ => none)
  (fun b k _ => k b)
  (fun _ _ _ _ => none)
  (fun _ _ _ => none)
  (fun _ _ _ _ => none)
  (fun _ _ => none)
  (fun _ _ _ _ _ _ => none)
  (fun _ _ => none)
  (fun _ _ => none)
  (fun _ _ _ => none)
  (fun _ _ => none)
  (fun _ _ _ _ _ _ _ => none)
  (fun _ _ _ => none)
  (fun _ _ => none)
  (fun _ _ _ _ _ => none)
  (fun _ _ => none)
  (fun _ _ _ _ => none)
  (fun _ _ _ e => e)
  (fun _ _ _ _ => none)
  () (fun _ _ _ _ => ())
theorem asGuard_eq (v : AV) (k : (Bool → FR)) (e : FR) : asGuard v k e = (match v with
    | .bool b => k b
    | .tup l => e
    | _ => none) := by cases v <;> rfl
/-- a pointer or nil -/
def asPN : AV → FR → (Ix → Nat → FR) → FR := AV.rec (motive_1 := fun _ => FR → (Ix → Nat → FR) → FR) (motive_2 := fun _ => Unit)
  (fun _ _ => none)
  (fun _ _ _ => none)
  (fun _ _ _ _ => none)
  (fun _ _ _ => none)
  (fun a i _ k => k a i)
  (fun z _ => z)
  (fun _ _ _ _ _ _ => none)
  (fun _ _ => none)
  (fun _ _ => none)
  (fun _ _ _ => none)
  (fun _ _ => none)
  (fun _ _ _ _ _ _ _ => none)
  (fun _ _ _ => none)
  (fun _ _ => none)
  (fun _ _ _ _ _ => none)
  (fun _ _ => none)
  (fun _ _ _ _ => none)
  (fun _ _ _ _ => none)
  (fun _ _ _ _ => none)
  () (fun _ _ _ _ => ())
theorem asPN_eq (v : AV) (z : FR) (k : (Ix → Nat → FR)) : asPN v z k = (match v with
    | .ptr a i => k a i
    | .nilptr => z
    | _ => none) := by cases v <;> rfl
/-- what is not nil -/
def asNn : AV → FR → FR := AV.rec (motive_1 := fun _ => FR → FR) (motive_2 := fun _ => Unit)
  (fun _ => none)
  (fun _ _ => none)
  (fun _ _ _ => none)
  (fun _ _ => none)
  (fun _ _ k => k)
  (fun _ => none)
  (fun _ _ _ _ _ => none)
  (fun _ => none)
  (fun _ => none)
  (fun _ _ => none)
  (fun _ => none)
  (fun _ _ _ _ _ k => k)
  (fun _ k => k)
  (fun _ => none)
  (fun _ _ _ k => k)
  (fun _ => none)
  (fun _ _ _ => none)
  (fun _ _ _ => none)
  (fun _ _ _ => none)
  () (fun _ _ _ _ => ())
theorem asNn_eq (v : AV) (k : FR) : asNn v k = (match v with
    | .ptr a i => k
    | .func f x y => k
    | .yield a => k
    | .iface u v => k
    | _ => none) := by cases v <;> rfl
/-- a function or nil -/
def asFN : AV → FR → FR → FR := AV.rec (motive_1 := fun _ => FR → FR → FR) (motive_2 := fun _ => Unit)
  (fun _ _ => none)
  (fun _ _ _ => none)
  (fun _ _ _ _ => none)
  (fun _ _ _ => none)
  (fun _ _ _ _ => none)
  (fun _ _ => none)
  (fun _ _ _ _ _ _ => none)
  (fun _ _ => none)
  (fun _ _ => none)
  (fun _ _ _ => none)
  (fun _ _ => none)
  (fun _ _ _ _ _ _ k => k)
  (fun _ _ _ => none)
  (fun z _ => z)
  (fun _ _ _ _ _ => none)
  (fun _ _ => none)
  (fun _ _ _ _ => none)
  (fun _ _ _ _ => none)
  (fun _ _ _ _ => none)
  () (fun _ _ _ _ => ())
theorem asFN_eq (v : AV) (z : FR) (k : FR) : asFN v z k = (match v with
    | .func f x y => k
    | .nilfunc => z
    | _ => none) := by cases v <;> rfl
/-- cells, or one value -/
def asAggD : AV → (List AV → FR) → FR → FR := AV.rec (motive_1 := fun _ => (List AV → FR) → FR → FR) (motive_2 := fun _ => Unit)
  (fun _ z => z)
  (fun _ _ z => z)
  (fun _ _ _ z => z)
  (fun _ _ z => z)
  (fun _ _ _ z => z)
  (fun _ z => z)
  (fun _ _ _ _ _ z => z)
  (fun _ z => z)
  (fun _ z => z)
  (fun _ _ z => z)
  (fun _ z => z)
  (fun _ _ _ _ _ _ z => z)
  (fun _ _ z => z)
  (fun _ z => z)
  (fun _ _ _ _ z => z)
  (fun _ z => z)
  (fun l _ k _ => k l)
  (fun _ _ _ z => z)
  (fun _ _ _ z => z)
  () (fun _ _ _ _ => ())
theorem asAggD_eq (v : AV) (k : (List AV → FR)) (z : FR) : asAggD v k z = (match v with
    | .undef => z
    | .bool b => z
    | .int j n => z
    | .str l => z
    | .ptr a i => z
    | .nilptr => z
    | .slice a i l c => z
    | .zslice => z
    | .nilslice => z
    | .map a => z
    | .nilmap => z
    | .func f x y => z
    | .yield a => z
    | .nilfunc => z
    | .iface u v => z
    | .niliface => z
    | .agg l => k l
    | .tup l => z
    | .cls m q => z
) := by cases v <;> rfl
/-- a truth -/
def asB : AV → (Bool → FR) → FR := AV.rec (motive_1 := fun _ => (Bool → FR) → FR) (motive_2 := fun _ => Unit)
  (fun _ => none)
  (fun b k => k b)
  (fun _ _ _ => none)
  (fun _ _ => none)
  (fun _ _ _ => none)
  (fun _ => none)
  (fun _ _ _ _ _ => none)
  (fun _ => none)
  (fun _ => none)
  (fun _ _ => none)
  (fun _ => none)
  (fun _ _ _ _ _ _ => none)
  (fun _ _ => none)
  (fun _ => none)
  (fun _ _ _ _ => none)
  (fun _ => none)
  (fun _ _ _ => none)
  (fun _ _ _ => none)
  (fun _ _ _ => none)
  () (fun _ _ _ _ => ())
theorem asB_eq (v : AV) (k : (Bool → FR)) : asB v k = (match v with
    | .bool b => k b
    | _ => none) := by cases v <;> rfl
/-- what append takes from -/
def asSrc : AV → FR → (List Nat → FR) → (Ix → Nat → Nat → FR) → FR := AV.rec (motive_1 := fun _ => FR → (List Nat → FR) → (Ix → Nat → Nat → FR) → FR) (motive_2 := fun _ => Unit)
  (fun _ _ _ => none)
  (fun _ _ _ _ => none)
  (fun _ _ _ _ _ => none)
  (fun l _ s _ => s l)
  (fun _ _ _ _ _ => none)
  (fun _ _ _ => none)
  (fun a i l _ _ _ k => k a i l)
  (fun z _ _ => z)
  (fun z _ _ => z)
  (fun _ _ _ _ => none)
  (fun _ _ _ => none)
  (fun _ _ _ _ _ _ _ _ => none)
  (fun _ _ _ _ => none)
  (fun _ _ _ => none)
  (fun _ _ _ _ _ _ => none)
  (fun _ _ _ => none)
  (fun _ _ _ _ _ => none)
  (fun _ _ _ _ _ => none)
  (fun _ _ _ _ _ => none)
  () (fun _ _ _ _ => ())
theorem asSrc_eq (v : AV) (z : FR) (s : (List Nat → FR)) (k : (Ix → Nat → Nat → FR)) : asSrc v z s k = (match v with
    | .str l => s l
    | .slice a i l c => k a i l
    | .zslice => z
    | .nilslice => z
    | _ => none) := by cases v <;> rfl
/-- a slice of something -/
def asS1 : AV → (Ix → Nat → Nat → FR) → FR := AV.rec (motive_1 := fun _ => (Ix → Nat → Nat → FR) → FR) (motive_2 := fun _ => Unit)
  (fun _ => none)
  (fun _ _ => none)
  (fun _ _ _ => none)
  (fun _ _ => none)
  (fun _ _ _ => none)
  (fun _ => none)
  (fun a i l _ k => k a i l)
  (fun _ => none)
  (fun _ => none)
  (fun _ _ => none)
  (fun _ => none)
  (fun _ _ _ _ _ _ => none)
  (fun _ _ => none)
  (fun _ => none)
  (fun _ _ _ _ => none)
  (fun _ => none)
  (fun _ _ _ => none)
  (fun _ _ _ => none)
  (fun _ _ _ => none)
  () (fun _ _ _ _ => ())
theorem asS1_eq (v : AV) (k : (Ix → Nat → Nat → FR)) : asS1 v k = (match v with
    | .slice a i l c => k a i l
    | _ => none) := by cases v <;> rfl
/-- an object of cells -/
def asCells : AO → (List AV → Nat → Bool → Bool → FR) → FR := AO.rec (motive := fun _ => (List AV → Nat → Bool → Bool → FR) → FR) (fun l e g z k => k l e g z) (fun _ _ _ => none) (fun _ _ _ => none) (fun _ _ _ _ _ => none) (fun _ => none) (fun _ _ _ _ => none)
theorem asCells_eq (o : AO) (k : List AV → Nat → Bool → Bool → FR) : asCells o k = (match o with | .cells l e g z => k l e g z | _ => none) := by cases o <;> rfl
/-- a map's object -/
def asOM : AO → (List (AV × AV × Nat) → Nat → FR) → FR := AO.rec (motive := fun _ => (List (AV × AV × Nat) → Nat → FR) → FR) (fun _ _ _ _ _ => none) (fun es c k => k es c) (fun _ _ _ => none) (fun _ _ _ _ _ => none) (fun _ => none) (fun _ _ _ _ => none)
theorem asOM_eq (o : AO) (k : List (AV × AV × Nat) → Nat → FR) : asOM o k = (match o with | .map es c => k es c | _ => none) := by cases o <;> rfl
end
end Go.AE
namespace Go.AE
noncomputable section
/-! lists -/
def flget : List AV → Nat → (AV → FR) → FR := List.rec (motive := fun _ => Nat → (AV → FR) → FR) (fun _ _ => none)
  (fun x _ ih n k => Nat.rec (motive := fun _ => (Nat → (AV → FR) → FR) → AV → (AV → FR) → FR) (fun _ x k => k x) (fun m _ ih _ k => ih m k) n ih x k)
theorem flget_eq : ∀ (l : List AV) (n : Nat) (k : AV → FR), flget l n k = (match listGet l n with | some v => k v | none => none)
  | [], n, k => by simp only [listGet]; rfl
  | x :: l, 0, k => rfl
  | x :: l, n + 1, k => flget_eq l n k
def fbget : List Nat → Nat → (Nat → FR) → FR := List.rec (motive := fun _ => Nat → (Nat → FR) → FR) (fun _ _ => none)
  (fun x _ ih n k => Nat.rec (motive := fun _ => (Nat → (Nat → FR) → FR) → Nat → (Nat → FR) → FR) (fun _ x k => k x) (fun m _ ih _ k => ih m k) n ih x k)
theorem fbget_eq : ∀ (l : List Nat) (n : Nat) (k : Nat → FR), fbget l n k = (match listGet l n with | some v => k v | none => none)
  | [], n, k => by simp only [listGet]; rfl
  | x :: l, 0, k => rfl
  | x :: l, n + 1, k => fbget_eq l n k
/-- one cell written -/
def flset : List AV → Nat → AV → (List AV → FR) → FR := List.rec (motive := fun _ => Nat → AV → (List AV → FR) → FR) (fun _ _ _ => none)
  (fun x l ih n y k => Nat.rec (motive := fun _ => (Nat → AV → (List AV → FR) → FR) → AV → List AV → AV → (List AV → FR) → FR) (fun _ _ l y k => k (y :: l)) (fun m _ ih x _ y k => ih m y fun r => k (x :: r)) n ih x l y k)
theorem flset_eq : ∀ (l : List AV) (n : Nat) (y : AV) (k : List AV → FR), flset l n y k = (match listGet l n with | some _ => k (listSet l n y) | none => none)
  | [], n, y, k => by simp only [listGet]; rfl
  | x :: l, 0, y, k => rfl
  | x :: l, n + 1, y, k => (flset_eq l n y _).trans (by simp only [listGet, listSet])
def fdrop : List AV → Nat → (List AV → FR) → FR := List.rec (motive := fun _ => Nat → (List AV → FR) → FR) (fun _ k => k [])
  (fun x l ih n k => Nat.rec (motive := fun _ => (Nat → (List AV → FR) → FR) → AV → List AV → (List AV → FR) → FR) (fun _ x l k => k (x :: l)) (fun m _ ih _ _ k => ih m k) n ih x l k)
theorem fdrop_eq : ∀ (l : List AV) (n : Nat) (k : List AV → FR), fdrop l n k = k (listDrop n l)
  | [], 0, k => rfl
  | [], n + 1, k => rfl
  | x :: l, 0, k => rfl
  | x :: l, n + 1, k => fdrop_eq l n k
def ftake : Nat → List AV → (List AV → FR) → FR := Nat.rec (motive := fun _ => List AV → (List AV → FR) → FR) (fun _ k => k [])
  (fun _ ih l k => List.rec (motive := fun _ => (List AV → (List AV → FR) → FR) → (List AV → FR) → FR) (fun _ _ => none) (fun x l _ ih k => ih l fun r => k (x :: r)) l ih k)
theorem ftake_eq : ∀ (n : Nat) (l : List AV) (k : List AV → FR), ftake n l k = (match takeN n l with | some r => k r | none => none)
  | 0, l, k => rfl
  | n + 1, [], k => rfl
  | n + 1, x :: l, k => (ftake_eq n l _).trans (by simp only [takeN]; cases takeN n l <;> rfl)
def fputFrom : List AV → Nat → List AV → (List AV → FR) → FR := List.rec (motive := fun _ => Nat → List AV → (List AV → FR) → FR)
  (fun _ ys k => List.rec (motive := fun _ => (List AV → FR) → FR) (fun k => k []) (fun _ _ _ _ => none) ys k)
  (fun x l ih n ys k => List.rec (motive := fun _ => Nat → (Nat → List AV → (List AV → FR) → FR) → AV → List AV → (List AV → FR) → FR) (fun _ _ x l k => k (x :: l))
    (fun y ys _ n ih x _ k => Nat.rec (motive := fun _ => (Nat → List AV → (List AV → FR) → FR) → AV → List AV → AV → (List AV → FR) → FR) (fun ih y ys _ k => ih 0 ys fun r => k (y :: r)) (fun m _ ih y ys x k => ih m (y :: ys) fun r => k (x :: r)) n ih y ys x k) ys n ih x l k)
theorem fputFrom_eq : ∀ (l : List AV) (n : Nat) (ys : List AV) (k : List AV → FR), fputFrom l n ys k = (match putFrom l n ys with | some r => k r | none => none)
  | [], n, [], k => rfl
  | [], n, y :: ys, k => rfl
  | x :: l, n, [], k => by cases n <;> rfl
  | x :: l, 0, y :: ys, k => (fputFrom_eq l 0 ys _).trans (by simp only [putFrom]; cases putFrom l 0 ys <;> rfl)
  | x :: l, n + 1, y :: ys, k => (fputFrom_eq l n (y :: ys) _).trans (by simp only [putFrom]; cases putFrom l n (y :: ys) <;> rfl)
def fapp : List AV → List AV → (List AV → FR) → FR := List.rec (motive := fun _ => List AV → (List AV → FR) → FR) (fun m k => k m) (fun x _ ih m k => ih m fun r => k (x :: r))
theorem fapp_eq : ∀ (l m : List AV) (k : List AV → FR), fapp l m k = k (l ++ m)
  | [], m, k => rfl
  | x :: l, m, k => fapp_eq l m _
def fappN : List Nat → List Nat → (List Nat → FR) → FR := List.rec (motive := fun _ => List Nat → (List Nat → FR) → FR) (fun m k => k m) (fun x _ ih m k => ih m fun r => k (x :: r))
theorem fappN_eq : ∀ (l m : List Nat) (k : List Nat → FR), fappN l m k = k (l ++ m)
  | [], m, k => rfl
  | x :: l, m, k => fappN_eq l m _
def flenN : List Nat → (Nat → FR) → FR := List.rec (motive := fun _ => (Nat → FR) → FR) (fun k => k 0) (fun _ _ ih k => ih fun n => k (Nat.succ n))
theorem flenN_eq : ∀ (l : List Nat) (k : Nat → FR), flenN l k = k l.length
  | [], k => rfl
  | x :: l, k => flenN_eq l _
def flenM : List (AV × AV × Nat) → (Nat → FR) → FR := List.rec (motive := fun _ => (Nat → FR) → FR) (fun k => k 0) (fun _ _ ih k => ih fun n => k (Nat.succ n))
theorem flenM_eq : ∀ (l : List (AV × AV × Nat)) (k : Nat → FR), flenM l k = k l.length
  | [], k => rfl
  | x :: l, k => flenM_eq l _
/-- so many, and each fits one cell -/
def fchk : List AV → Nat → FR → FR → FR := List.rec (motive := fun _ => Nat → FR → FR → FR) (fun n t e => Nat.rec (motive := fun _ => FR → FR → FR) (fun t _ => t) (fun _ _ _ e => e) n t e)
  (fun v _ ih n t e => Nat.rec (motive := fun _ => AV → (Nat → FR → FR → FR) → FR → FR → FR) (fun _ _ _ e => e) (fun m _ v ih t e => isOne v (ih m t e) e) n v ih t e)
theorem isOne_if (v : AV) (t e : FR) : isOne v t e = if v.one then t else e := by cases v <;> rfl
theorem fchk_eq : ∀ (l : List AV) (n : Nat) (t e : FR), fchk l n t e = if l.length = n ∧ allOne l = true then t else e
  | [], 0, t, e => by simp [allOne]; rfl
  | [], n + 1, t, e => by simp; rfl
  | v :: l, 0, t, e => by simp; rfl
  | v :: l, n + 1, t, e => by
    show isOne v (fchk l n t e) e = _
    rw [isOne_if, fchk_eq l n t e]
    simp only [allOne, List.length_cons, Nat.add_right_cancel_iff]
    by_cases hv : v.one = true <;> simp [hv]
def fallOne : List AV → FR → FR → FR := List.rec (motive := fun _ => FR → FR → FR) (fun t _ => t) (fun v _ ih t e => isOne v (ih t e) e)
theorem fallOne_eq : ∀ (l : List AV) (t e : FR), fallOne l t e = if allOne l then t else e
  | [], t, e => rfl
  | v :: l, t, e => by
    show isOne v (fallOne l t e) e = _
    rw [isOne_if, fallOne_eq l t e]
    simp only [allOne]
    by_cases hv : v.one = true <;> simp [hv]
def fbeq : List Nat → List Nat → FR → FR → FR := List.rec (motive := fun _ => List Nat → FR → FR → FR) (fun m t e => List.rec (motive := fun _ => FR → FR → FR) (fun t _ => t) (fun _ _ _ _ e => e) m t e)
  (fun a _ ih m t e => List.rec (motive := fun _ => Nat → (List Nat → FR → FR → FR) → FR → FR → FR) (fun _ _ _ e => e) (fun b m _ a ih t e => fif (Nat.beq a b) (ih m t e) e) m a ih t e)
theorem fbeq_eq : ∀ (l m : List Nat) (t e : FR), fbeq l m t e = if bytesEq l m then t else e
  | [], [], t, e => rfl
  | [], _ :: _, t, e => rfl
  | _ :: _, [], t, e => rfl
  | a :: l, b :: m, t, e => by
    show fif (Nat.beq a b) (fbeq l m t e) e = _
    rw [fif_eq, fbeq_eq l m t e]
    simp only [bytesEq]
    by_cases hb : Nat.beq a b = true <;> simp [hb]
def fevs : List Arg → TM → (List AV → FR) → FR := List.rec (motive := fun _ => TM → (List AV → FR) → FR) (fun _ k => k []) (fun x _ ih T k => fev x T fun v => ih T fun vs => k (v :: vs))
theorem fevs_eq : ∀ (l : List Arg) (T : TM) (k : List AV → FR), fevs l T k = k (l.map (Arg.ev T))
  | [], T, k => rfl
  | x :: l, T, k => by
    show fev x T (fun v => fevs l T fun vs => k (v :: vs)) = _
    rw [fev_eq, fevs_eq l T]; rfl
def fcells (v : AV) (k : List AV → FR) : FR := asAggD v k (k [v])
theorem fcells_eq (v : AV) (k : List AV → FR) : fcells v k = k v.cells := by cases v <;> rfl
/-- the cells of an aggregate's parts -/
def fplace : List (Nat × Nat × Arg) → TM → List AV → (List AV → FR) → FR := List.rec (motive := fun _ => TM → List AV → (List AV → FR) → FR) (fun _ z k => k z)
  (fun p _ ih T z k => fev p.2.2 T fun v => isU v none (fcells v fun cs => fif (Nat.beq cs.length p.2.1) (Nat.rec (motive := fun _ => FR → FR) (fun _ => none) (fun _ _ r => r) p.2.1 (fputFrom z p.1 cs fun z' => ih T z' k)) none))
theorem isU_if (v : AV) (t e : FR) : isU v t e = if v.isU then t else e := by cases v <;> rfl
theorem fplace_eq : ∀ (ps : List (Nat × Nat × Arg)) (T : TM) (z : List AV) (k : List AV → FR), fplace ps T z k = (match placeParts T z ps with | some l => k l | none => none)
  | [], T, z, k => by simp only [placeParts]; rfl
  | (off, n, x) :: ps, T, z, k => by
    show fev x T (fun v => isU v none (fcells v fun cs => fif (Nat.beq cs.length n) (Nat.rec (motive := fun _ => FR → FR) (fun _ => none) (fun _ _ r => r) n (fputFrom z off cs fun z' => fplace ps T z' k)) none)) = _
    rw [fev_eq, isU_if, fcells_eq, fif_eq, fputFrom_eq]
    simp only [placeParts]
    cases (x.ev T).isU
    · simp only [Bool.false_eq_true, if_false]
      by_cases hl : (x.ev T).cells.length = n
      · rw [if_pos (by rw [hl]; exact Nat.beq_refl n)]
        cases n with
        | zero => rw [if_neg (by simp)]; rfl
        | succ n =>
          rw [if_pos ⟨hl, by simp⟩]
          show (match putFrom z off (x.ev T).cells with | some r => fplace ps T r k | none => none) = _
          cases putFrom z off (x.ev T).cells with
          | none => rfl
          | some r => exact fplace_eq ps T r k
      · rw [if_neg (fun h => hl (Nat.eq_of_beq_eq_true h)), if_neg (fun h => hl h.1)]
    · rfl
/-! numbers -/
def ikN : IntKind → Nat := IntKind.rec (motive := fun _ => Nat) 0 1 2 3 4 5 6 7
theorem ikN_eq (j k : IntKind) : Nat.beq (ikN j) (ikN k) = decide (j = k) := by cases j <;> cases k <;> rfl
/-- into the range: at a number that is not negative -/
def fwrapN (j : IntKind) (m : Nat) (k : Int → FR) : FR := fif (Nat.beq (ikN j) (ikN .i64)) (fif (Nat.ble m 9223372036854775807) (k (.ofNat m)) (k (j.wrap (.ofNat m)))) (k (j.wrap (.ofNat m)))
theorem wrap_i64 (m : Nat) (h : m ≤ 9223372036854775807) : IntKind.wrap .i64 (.ofNat m) = .ofNat m := by
  have h1 : (Int.ofNat m) % (2 ^ IntKind.bits .i64 : Int) = Int.ofNat m := by
    show (m : Int) % 18446744073709551616 = m
    omega
  have h2 : ¬ (Int.ofNat m ≥ (2 ^ (IntKind.bits .i64 - 1) : Int)) := by
    show ¬ ((m : Int) ≥ 9223372036854775808)
    omega
  unfold IntKind.wrap
  simp only [h1]
  rw [decide_eq_false h2]
  simp
theorem fwrapN_eq (j : IntKind) (m : Nat) (k : Int → FR) : fwrapN j m k = k (j.wrap (.ofNat m)) := by
  unfold fwrapN
  rw [fif_eq, fif_eq, ikN_eq]
  split
  · rename_i h
    have : j = .i64 := by simpa using h
    subst this
    split
    · rename_i h; rw [wrap_i64 m (Nat.le_of_ble_eq_true h)]
    · rfl
  · rfl
def fwrap (j : IntKind) (n : Int) (k : Int → FR) : FR := Int.rec (motive := fun _ => IntKind → (Int → FR) → FR) (fun m j k => fwrapN j m k) (fun m j k => k (j.wrap (.negSucc m))) n j k
theorem fwrap_eq (j : IntKind) (n : Int) (k : Int → FR) : fwrap j n k = k (j.wrap n) := by
  cases n with
  | ofNat m => exact fwrapN_eq j m k
  | negSucc m => rfl
/-- both not negative -/
def fnn (a b : Int) (k : Nat → Nat → FR) (e : FR) : FR := Int.rec (motive := fun _ => Int → (Nat → Nat → FR) → FR → FR) (fun p b k e => Int.rec (motive := fun _ => Nat → (Nat → Nat → FR) → FR → FR) (fun q p k _ => k p q) (fun _ _ _ e => e) b p k e) (fun _ _ _ e => e) a b k e
theorem fnn_eq (a b : Int) (k : Nat → Nat → FR) (e : FR) : fnn a b k e = (match a, b with | .ofNat p, .ofNat q => k p q | _, _ => e) := by cases a <;> cases b <;> rfl
def fibD (op : BinOp) (j : IntKind) (a b : Int) (k : AV → FR) : FR := Option.rec (motive := fun _ => (AV → FR) → FR) (fun _ => none) (fun v k => k v) (intBin op j a b) k
theorem fibD_eq (op : BinOp) (j : IntKind) (a b : Int) (k : AV → FR) : fibD op j a b k = (match intBin op j a b with | some v => k v | none => none) := by
  unfold fibD; cases intBin op j a b <;> rfl
def fb (c : Bool) (k : AV → FR) : FR := fif c (k (.bool true)) (k (.bool false))
theorem fb_eq (c : Bool) (k : AV → FR) : fb c k = k (.bool c) := by cases c <;> rfl
def fibAdd (j : IntKind) (a b : Int) (k : AV → FR) : FR := fnn a b (fun p q => fnat (Nat.add p q) fun m => fwrapN j m fun z => k (.int j z)) (fibD .add j a b k)
def fibSub (j : IntKind) (a b : Int) (k : AV → FR) : FR := fnn a b (fun p q => fif (Nat.ble q p) (fnat (Nat.sub p q) fun m => fwrapN j m fun z => k (.int j z)) (fibD .sub j a b k)) (fibD .sub j a b k)
def fibLss (j : IntKind) (a b : Int) (k : AV → FR) : FR := fnn a b (fun p q => fb (Nat.blt p q) k) (fibD .lss j a b k)
def fibLeq (j : IntKind) (a b : Int) (k : AV → FR) : FR := fnn a b (fun p q => fb (Nat.ble p q) k) (fibD .leq j a b k)
def fibGtr (j : IntKind) (a b : Int) (k : AV → FR) : FR := fnn a b (fun p q => fb (Nat.blt q p) k) (fibD .gtr j a b k)
def fibGeq (j : IntKind) (a b : Int) (k : AV → FR) : FR := fnn a b (fun p q => fb (Nat.ble q p) k) (fibD .geq j a b k)
def fibEql (j : IntKind) (a b : Int) (k : AV → FR) : FR := fnn a b (fun p q => fb (Nat.beq p q) k) (fibD .eql j a b k)
def fibNeq (j : IntKind) (a b : Int) (k : AV → FR) : FR := fnn a b (fun p q => fif (Nat.beq p q) (k (.bool false)) (k (.bool true))) (fibD .neq j a b k)
end
end Go.AE
namespace Go.AE
noncomputable section
def fib : BinOp → IntKind → Int → Int → (AV → FR) → FR := BinOp.rec (motive := fun _ => IntKind → Int → Int → (AV → FR) → FR) fibAdd fibSub (fibD .mul) (fibD .quo) (fibD .rem) (fibD .and) (fibD .or) (fibD .xor) (fibD .shl) (fibD .shr) (fibD .andNot) fibEql fibNeq fibLss fibLeq fibGtr fibGeq
theorem ble_dec (p q : Nat) : Nat.ble p q = decide ((Int.ofNat p) ≤ Int.ofNat q) := by
  cases h : Nat.ble p q with
  | true => have := Nat.le_of_ble_eq_true h; simp; exact this
  | false =>
    have : ¬ p ≤ q := fun h' => by rw [Nat.ble_eq_true_of_le h'] at h; cases h
    simp; omega
theorem blt_dec (p q : Nat) : Nat.blt p q = decide ((Int.ofNat p) < Int.ofNat q) := by
  cases h : Nat.blt p q with
  | true => have : p < q := by rw [Nat.blt_eq] at h; exact h
            simp; exact this
  | false =>
    have : ¬ p < q := fun h' => by rw [← Nat.blt_eq] at h'; rw [h'] at h; cases h
    simp; omega
theorem beq_dec (p q : Nat) : Nat.beq p q = ((Int.ofNat p) == Int.ofNat q) := by
  cases h : Nat.beq p q with
  | true => have := Nat.eq_of_beq_eq_true h; simp [this]
  | false =>
    have : ¬ p = q := fun h' => by rw [h', Nat.beq_refl] at h; cases h
    simp; omega
theorem fib_eq (op : BinOp) (j : IntKind) (a b : Int) (k : AV → FR) : fib op j a b k = (match intBin op j a b with | some v => k v | none => none) := by
  cases op
  case add =>
    show fibAdd j a b k = _
    unfold fibAdd
    rw [fnn_eq]
    split
    · rw [fnat_eq, fwrapN_eq]; rfl
    · exact fibD_eq ..
  case sub =>
    show fibSub j a b k = _
    unfold fibSub
    rw [fnn_eq]
    split
    · rename_i p q
      rw [fif_eq]
      split
      · rename_i h
        rw [fnat_eq, fwrapN_eq]
        have : (Int.ofNat p) - Int.ofNat q = Int.ofNat (Nat.sub p q) := (Int.ofNat_sub (Nat.le_of_ble_eq_true h)).symm
        simp only [intBin, this]
      · exact fibD_eq ..
    · exact fibD_eq ..
  case eql =>
    show fibEql j a b k = _
    unfold fibEql
    rw [fnn_eq]
    split
    · rw [fb_eq, beq_dec]; rfl
    · exact fibD_eq ..
  case neq =>
    show fibNeq j a b k = _
    unfold fibNeq
    rw [fnn_eq]
    split
    · rename_i p q
      rw [fif_eq, beq_dec]
      simp only [intBin, bne]
      cases (Int.ofNat p == Int.ofNat q) <;> rfl
    · exact fibD_eq ..
  case lss =>
    show fibLss j a b k = _
    unfold fibLss
    rw [fnn_eq]
    split
    · rw [fb_eq, blt_dec]; rfl
    · exact fibD_eq ..
  case leq =>
    show fibLeq j a b k = _
    unfold fibLeq
    rw [fnn_eq]
    split
    · rw [fb_eq, ble_dec]; rfl
    · exact fibD_eq ..
  case gtr =>
    show fibGtr j a b k = _
    unfold fibGtr
    rw [fnn_eq]
    split
    · rw [fb_eq, blt_dec]; rfl
    · exact fibD_eq ..
  case geq =>
    show fibGeq j a b k = _
    unfold fibGeq
    rw [fnn_eq]
    split
    · rw [fb_eq, ble_dec]; rfl
    · exact fibD_eq ..
  all_goals first
    | exact fibD_eq .mul j a b k
    | exact fibD_eq .quo j a b k
    | exact fibD_eq .rem j a b k
    | exact fibD_eq .and j a b k
    | exact fibD_eq .or j a b k
    | exact fibD_eq .xor j a b k
    | exact fibD_eq .shl j a b k
    | exact fibD_eq .shr j a b k
    | exact fibD_eq .andNot j a b k
def fsbD (op : BinOp) (x y : List Nat) (k : AV → FR) : FR := Option.rec (motive := fun _ => (AV → FR) → FR) (fun _ => none) (fun v k => k v) (strBin op x y) k
theorem fsbD_eq (op : BinOp) (x y : List Nat) (k : AV → FR) : fsbD op x y k = (match strBin op x y with | some v => k v | none => none) := by
  unfold fsbD; cases strBin op x y <;> rfl
def fsbAdd (x y : List Nat) (k : AV → FR) : FR := flenN x fun a => flenN y fun b => fif (Nat.ble (Nat.add a b) 1152921504606846976) (fappN x y fun l => k (.str l)) none
def fsbEql (x y : List Nat) (k : AV → FR) : FR := fbeq x y (k (.bool true)) (k (.bool false))
def fsbNeq (x y : List Nat) (k : AV → FR) : FR := fbeq x y (k (.bool false)) (k (.bool true))
def fsb : BinOp → List Nat → List Nat → (AV → FR) → FR := BinOp.rec (motive := fun _ => List Nat → List Nat → (AV → FR) → FR) fsbAdd (fsbD .sub) (fsbD .mul) (fsbD .quo) (fsbD .rem) (fsbD .and) (fsbD .or) (fsbD .xor) (fsbD .shl) (fsbD .shr) (fsbD .andNot) fsbEql fsbNeq (fsbD .lss) (fsbD .leq) (fsbD .gtr) (fsbD .geq)
theorem fsb_eq (op : BinOp) (x y : List Nat) (k : AV → FR) : fsb op x y k = (match strBin op x y with | some v => k v | none => none) := by
  cases op
  case add =>
    show fsbAdd x y k = _
    unfold fsbAdd
    rw [flenN_eq, flenN_eq, fif_eq, fappN_eq]
    simp only [strBin]
    have : (2 : Nat) ^ 60 = 1152921504606846976 := rfl
    rw [this]
    show _ = (match (if Nat.ble (Nat.add x.length y.length) 1152921504606846976 then some (AV.str (x ++ y)) else none) with | some v => k v | none => none)
    split <;> rfl
  case eql =>
    show fsbEql x y k = _
    unfold fsbEql
    rw [fbeq_eq]
    simp only [strBin]
    cases bytesEq x y <;> rfl
  case neq =>
    show fsbNeq x y k = _
    unfold fsbNeq
    rw [fbeq_eq]
    simp only [strBin]
    cases bytesEq x y <;> rfl
  all_goals first
    | exact fsbD_eq .sub x y k
    | exact fsbD_eq .mul x y k
    | exact fsbD_eq .quo x y k
    | exact fsbD_eq .rem x y k
    | exact fsbD_eq .and x y k
    | exact fsbD_eq .or x y k
    | exact fsbD_eq .xor x y k
    | exact fsbD_eq .shl x y k
    | exact fsbD_eq .shr x y k
    | exact fsbD_eq .andNot x y k
    | exact fsbD_eq .lss x y k
    | exact fsbD_eq .leq x y k
    | exact fsbD_eq .gtr x y k
    | exact fsbD_eq .geq x y k
/-! the operations -/
theorem fbk_some (v : AV) (A : AW) (k : KV) : fbk (some (v, A)) k = k v A.cur A.olds A.nx := rfl
theorem fbk_none (k : KV) : fbk none k = none := rfl
variable (T : TM) (c : Tr AO) (os : List (Tr AO)) (n : Ix) (k : KV)
def f_mov (x : Arg) (T : TM) (c : Tr AO) (os : List (Tr AO)) (n : Ix) (k : KV) : FR := fev x T fun v => k v c os n
theorem f_mov_eq (x : Arg) : f_mov x T c os n k = fbk (iop T ⟨c, os, n⟩ (.mov x)) k := by
  unfold f_mov; rw [fev_eq]; rfl
def f_mos (x : Arg) (T : TM) (c : Tr AO) (os : List (Tr AO)) (n : Ix) (k : KV) : FR := fev x T fun v => asStr v fun l => k (.str l) c os n
theorem f_mos_eq (x : Arg) : f_mos x T c os n k = fbk (iop T ⟨c, os, n⟩ (.mos x)) k := by
  unfold f_mos; rw [fev_eq, asStr_eq]; simp only [iop]
  cases x.ev T <;> rfl
def f_mop (x : Arg) (T : TM) (c : Tr AO) (os : List (Tr AO)) (n : Ix) (k : KV) : FR := fev x T fun v => asPN v (k .nilptr c os n) fun a i => k (.ptr a i) c os n
theorem f_mop_eq (x : Arg) : f_mop x T c os n k = fbk (iop T ⟨c, os, n⟩ (.mop x)) k := by
  unfold f_mop; rw [fev_eq, asPN_eq]; simp only [iop]
  cases x.ev T <;> rfl
def f_pick (b x y : Arg) (T : TM) (c : Tr AO) (os : List (Tr AO)) (n : Ix) (k : KV) : FR := fev b T fun v => asBool v (fev x T fun v => k v c os n) (fev y T fun v => k v c os n)
theorem f_pick_eq (b x y : Arg) : f_pick b x y T c os n k = fbk (iop T ⟨c, os, n⟩ (.pick b x y)) k := by
  unfold f_pick; rw [fev_eq, asBool_eq, fev_eq, fev_eq]; simp only [iop]
  cases b.ev T with
  | bool b => cases b <;> rfl
  | _ => rfl
def f_box (et : Nat) (x : Arg) (T : TM) (c : Tr AO) (os : List (Tr AO)) (n : Ix) (k : KV) : FR := fev x T fun v => isU v none (fcells v fun cs => fnew (.cells cs et false false) c n fun c' n' => k (.ptr n 0) c' os n')
theorem f_box_eq (et : Nat) (x : Arg) : f_box et x T c os n k = fbk (iop T ⟨c, os, n⟩ (.box et x)) k := by
  unfold f_box; rw [fev_eq, isU_if, fcells_eq, fnew_eq (os := os)]; simp only [iop]
  split <;> rfl
def f_alloc (et : Nat) (z : List AV) (_ : TM) (c : Tr AO) (os : List (Tr AO)) (n : Ix) (k : KV) : FR := fnew (.cells z et false false) c n fun c' n' => k (.ptr n 0) c' os n'
theorem f_alloc_eq (et : Nat) (z : List AV) : f_alloc et z T c os n k = fbk (iop T ⟨c, os, n⟩ (.alloc et z)) k := by
  unfold f_alloc; rw [fnew_eq (os := os)]; rfl
def f_build (z : List AV) (ps : List (Nat × Nat × Arg)) (T : TM) (c : Tr AO) (os : List (Tr AO)) (n : Ix) (k : KV) : FR := fplace ps T z fun l => k (.agg l) c os n
theorem f_build_eq (z : List AV) (ps : List (Nat × Nat × Arg)) : f_build z ps T c os n k = fbk (iop T ⟨c, os, n⟩ (.build z ps)) k := by
  unfold f_build; rw [fplace_eq]; simp only [iop]
  cases placeParts T z ps <;> rfl
def f_bslice (et : Nat) (z : List AV) (len : Nat) (ps : List (Nat × Nat × Arg)) (T : TM) (c : Tr AO) (os : List (Tr AO)) (n : Ix) (k : KV) : FR := fplace ps T z fun l => fnew (.cells l et false false) c n fun c' n' => k (.slice n 0 len (.k len)) c' os n'
theorem f_bslice_eq (et : Nat) (z : List AV) (len : Nat) (ps : List (Nat × Nat × Arg)) : f_bslice et z len ps T c os n k = fbk (iop T ⟨c, os, n⟩ (.bslice et z len ps)) k := by
  unfold f_bslice; rw [fplace_eq]; simp only [iop]
  cases placeParts T z ps with
  | none => rfl
  | some l => simp only; rw [fnew_eq (os := os)]; rfl
def f_load (x : Arg) (T : TM) (c : Tr AO) (os : List (Tr AO)) (n : Ix) (k : KV) : FR := fev x T fun v => asPtr v fun a i => fget a c os fun o => asCells o fun l _ _ _ => flget l i fun v => k v c os n
theorem f_load_eq (x : Arg) : f_load x T c os n k = fbk (iop T ⟨c, os, n⟩ (.load x)) k := by
  unfold f_load; rw [fev_eq, asPtr_eq]; simp only [iop]
  cases x.ev T with
  | ptr a i =>
    simp only; rw [fget_eq (n := n)]
    cases AW.get ⟨c, os, n⟩ a with
    | none => rfl
    | some o => simp only; rw [asCells_eq]; cases o with
      | cells l e g z => simp only; rw [flget_eq]; cases listGet l i <;> rfl
      | _ => rfl
  | _ => rfl
def f_loadn (m : Nat) (x : Arg) (T : TM) (c : Tr AO) (os : List (Tr AO)) (n : Ix) (k : KV) : FR := fev x T fun v => asPtr v fun a i => fget a c os fun o => asCells o fun l _ _ _ => fdrop l i fun l' => ftake m l' fun vs => k (.agg vs) c os n
theorem f_loadn_eq (m : Nat) (x : Arg) : f_loadn m x T c os n k = fbk (iop T ⟨c, os, n⟩ (.loadn m x)) k := by
  unfold f_loadn; rw [fev_eq, asPtr_eq]; simp only [iop]
  cases x.ev T with
  | ptr a i =>
    simp only; rw [fget_eq (n := n)]
    cases AW.get ⟨c, os, n⟩ a with
    | none => rfl
    | some o => simp only; rw [asCells_eq]; cases o with
      | cells l e g z => simp only; rw [fdrop_eq, ftake_eq]; cases takeN m (listDrop i l) <;> rfl
      | _ => rfl
  | _ => rfl
theorem fput_bk (a : Ix) (o : AO) (v : AV) : fput a o c (fun c' => k v c' os n) = fbk (match AW.put ⟨c, os, n⟩ a o with | some A' => some (v, A') | none => none) k := by
  rw [fput_eq (os := os) (n := n)]
  cases h : AW.put ⟨c, os, n⟩ a o with
  | none => rfl
  | some A' =>
    obtain ⟨h1, h2⟩ := put_rest h
    simp only [fbk_some]
    rw [h1, h2]
def f_store (x v : Arg) (T : TM) (c : Tr AO) (os : List (Tr AO)) (n : Ix) (k : KV) : FR := fev x T fun p => asPtr p fun a i => fget a c os fun o => asCells o fun l e g z => fif z none (fev v T fun y => isOne y (flset l i y fun l' => fput a (.cells l' e g z) c fun c' => k .undef c' os n) none)
theorem f_store_eq (x v : Arg) : f_store x v T c os n k = fbk (iop T ⟨c, os, n⟩ (.store x v)) k := by
  unfold f_store; rw [fev_eq, asPtr_eq]; simp only [iop]
  cases x.ev T with
  | ptr a i =>
    simp only; rw [fget_eq (n := n)]
    cases AW.get ⟨c, os, n⟩ a with
    | none => rfl
    | some o => simp only; rw [asCells_eq]; cases o with
      | cells l e g z =>
        simp only; rw [fif_eq, fev_eq, isOne_if, flset_eq]
        cases z
        · simp only [Bool.false_eq_true, if_false]
          split
          · cases listGet l i with
            | none => rfl
            | some w => exact fput_bk c os n k a _ _
          · rfl
        · rfl
      | _ => rfl
  | _ => rfl
def f_storen (m : Nat) (x v : Arg) (T : TM) (c : Tr AO) (os : List (Tr AO)) (n : Ix) (k : KV) : FR := fev x T fun p => asPtr p fun a i => fget a c os fun o => asCells o fun l e g z => fif z none (fev v T fun y => asAgg y fun vs => fchk vs m (fputFrom l i vs fun l' => fput a (.cells l' e g z) c fun c' => k .undef c' os n) none)
theorem f_storen_eq (m : Nat) (x v : Arg) : f_storen m x v T c os n k = fbk (iop T ⟨c, os, n⟩ (.storen m x v)) k := by
  unfold f_storen; rw [fev_eq, asPtr_eq]; simp only [iop]
  cases x.ev T with
  | ptr a i =>
    simp only; rw [fget_eq (n := n)]
    cases AW.get ⟨c, os, n⟩ a with
    | none => rfl
    | some o => simp only; rw [asCells_eq]; cases o with
      | cells l e g z =>
        simp only; rw [fif_eq, fev_eq, asAgg_eq]
        cases z
        · simp only [Bool.false_eq_true, if_false]
          cases v.ev T with
          | agg vs =>
            simp only; rw [fchk_eq]
            split
            · rw [fputFrom_eq]
              cases putFrom l i vs with
              | none => rfl
              | some l' => exact fput_bk c os n k a _ _
            · rfl
          | _ => rfl
        · rfl
      | _ => rfl
  | _ => rfl
def f_nilck (x : Arg) (T : TM) (c : Tr AO) (os : List (Tr AO)) (n : Ix) (k : KV) : FR := fev x T fun v => asNn v (k v c os n)
theorem f_nilck_eq (x : Arg) : f_nilck x T c os n k = fbk (iop T ⟨c, os, n⟩ (.nilck x)) k := by
  unfold f_nilck; rw [fev_eq, asNn_eq]; simp only [iop]
  cases x.ev T <;> rfl
def f_bin (op : BinOp) (x y : Arg) (T : TM) (c : Tr AO) (os : List (Tr AO)) (n : Ix) (k : KV) : FR := fev x T fun v => fev y T fun w => asNum v
  (fun j a => asInt w fun j' b => fif (Nat.beq (ikN j) (ikN j')) (fib op j a b fun v => k v c os n) (fif (isShift op) (fib op j a b fun v => k v c os n) none))
  (fun l => asStr w fun m => fsb op l m fun v => k v c os n)
theorem f_bin_eq (op : BinOp) (x y : Arg) : f_bin op x y T c os n k = fbk (iop T ⟨c, os, n⟩ (.bin op x y)) k := by
  unfold f_bin; rw [fev_eq, fev_eq, asNum_eq]; simp only [iop]
  cases x.ev T with
  | int j a =>
    simp only; rw [asInt_eq]
    cases y.ev T with
    | int j' b =>
      simp only; rw [fif_eq, fif_eq, ikN_eq, fib_eq]
      cases isShift op <;> cases decide (j = j') <;> cases intBin op j a b <;> rfl
    | _ => rfl
  | str l =>
    simp only; rw [asStr_eq]
    cases y.ev T with
    | str m =>
      simp only; rw [fsb_eq]
      cases strBin op l m <;> rfl
    | _ => rfl
  | _ => rfl
end
end Go.AE
namespace Go.AE
noncomputable section
def beqB : Bool → Bool → Bool := Bool.rec (motive := fun _ => Bool → Bool) (Bool.rec (motive := fun _ => Bool) true false) (Bool.rec (motive := fun _ => Bool) false true)
theorem beqB_eq (a b : Bool) : beqB a b = (a == b) := by cases a <;> cases b <;> rfl
def fieq : Ix → Ix → Bool := Ix.rec (motive := fun _ => Ix → Bool) (Ix.rec (motive := fun _ => Bool) true (fun _ _ => false) (fun _ _ => false))
  (fun _ ih j => Ix.rec (motive := fun _ => (Ix → Bool) → Bool) (fun _ => false) (fun q _ ih => ih q) (fun _ _ _ => false) j ih)
  (fun _ ih j => Ix.rec (motive := fun _ => (Ix → Bool) → Bool) (fun _ => false) (fun _ _ _ => false) (fun q _ ih => ih q) j ih)
theorem fieq_eq (i : Ix) : ∀ j, fieq i j = decide (i = j) := by
  induction i with
  | h => intro j; cases j <;> simp [fieq]
  | o p ih => intro j; cases j with
    | o q => exact (ih q).trans (by simp)
    | h => simp [fieq]
    | i q => simp [fieq]
  | i p ih => intro j; cases j with
    | i q => exact (ih q).trans (by simp)
    | h => simp [fieq]
    | o q => simp [fieq]
def fq_b (_ : Bool) (v w : AV) (k : Bool → FR) : FR := asB v fun a => asB w fun b => k (beqB a b)
def fq_p (_ : Bool) (v w : AV) (k : Bool → FR) : FR := asPN v (asPN w (k true) fun _ _ => k false) fun a i => asPN w (k false) fun b j => fif (fieq a b) (k (Nat.beq i j)) none
def fq_i (cst : Bool) (v w : AV) (k : Bool → FR) : FR := asIface v (asIface w (fif cst (k true) none) fun _ _ => k false) fun _ _ => asIface w (k false) fun _ _ => none
def fq_s (_ : Bool) (v w : AV) (k : Bool → FR) : FR := asSl v (asSl w none (k false) fun _ _ _ _ => none) (asSl w (k false) (k true) fun _ _ _ _ => k false) fun _ _ _ _ => asSl w none (k false) fun _ _ _ _ => none
def fq_m (_ : Bool) (v w : AV) (k : Bool → FR) : FR := asMap v (asMap w (k true) fun _ => k false) fun _ => asMap w (k false) fun _ => none
def fq_f (_ : Bool) (v w : AV) (k : Bool → FR) : FR := asFN v (asFN w (k true) (k false)) (asFN w (k false) none)
def fq : EqK → Bool → AV → AV → (Bool → FR) → FR := EqK.rec (motive := fun _ => Bool → AV → AV → (Bool → FR) → FR) fq_b fq_p fq_i fq_s fq_m fq_f
theorem fq_eq (q : EqK) (cst : Bool) (v w : AV) (k : Bool → FR) : fq q cst v w k = (match eqV q cst v w with | some b => k b | none => none) := by
  cases q
  case b =>
    show fq_b cst v w k = _
    unfold fq_b
    rw [asB_eq]
    cases v <;> try rfl
    simp only
    rw [asB_eq]
    cases w <;> try rfl
    simp only [eqV, beqB_eq]
  case p =>
    show fq_p cst v w k = _
    unfold fq_p
    rw [asPN_eq]
    cases v <;> try rfl
    all_goals
      rw [asPN_eq]
      cases w <;> try rfl
    rename_i a i b j
    show fif (fieq a b) (k (Nat.beq i j)) none = _
    simp only [fif_eq, fieq_eq, eqV, decide_eq_true_eq]
    by_cases hab : a = b <;> simp [hab]
  case i =>
    show fq_i cst v w k = _
    unfold fq_i
    rw [asIface_eq]
    cases v <;> try rfl
    all_goals
      rw [asIface_eq]
      cases w <;> try rfl
    cases cst <;> rfl
  case s =>
    show fq_s cst v w k = _
    unfold fq_s
    rw [asSl_eq]
    cases v <;> try rfl
    all_goals
      rw [asSl_eq]
      cases w <;> rfl
  case m =>
    show fq_m cst v w k = _
    unfold fq_m
    rw [asMap_eq]
    cases v <;> try rfl
    all_goals
      rw [asMap_eq]
      cases w <;> rfl
  case f =>
    show fq_f cst v w k = _
    unfold fq_f
    rw [asFN_eq]
    cases v <;> try rfl
    all_goals
      rw [asFN_eq]
      cases w <;> rfl
variable (T : TM) (c : Tr AO) (os : List (Tr AO)) (n : Ix) (k : KV)
def f_eqv (kk : EqK) (neg cst : Bool) (x y : Arg) (T : TM) (c : Tr AO) (os : List (Tr AO)) (n : Ix) (k : KV) : FR := fev x T fun v => fev y T fun w => fq kk cst v w fun b =>
  fif neg (fif b (k (.bool false) c os n) (k (.bool true) c os n)) (fif b (k (.bool true) c os n) (k (.bool false) c os n))
theorem f_eqv_eq (kk : EqK) (neg cst : Bool) (x y : Arg) : f_eqv kk neg cst x y T c os n k = fbk (iop T ⟨c, os, n⟩ (.eqv kk neg cst x y)) k := by
  unfold f_eqv; rw [fev_eq, fev_eq, fq_eq]; simp only [iop]
  cases eqV kk cst (x.ev T) (y.ev T) with
  | none => rfl
  | some b => cases b <;> cases neg <;> rfl
def f_not (x : Arg) (T : TM) (c : Tr AO) (os : List (Tr AO)) (n : Ix) (k : KV) : FR := fev x T fun v => asBool v (k (.bool false) c os n) (k (.bool true) c os n)
theorem f_not_eq (x : Arg) : f_not x T c os n k = fbk (iop T ⟨c, os, n⟩ (.not x)) k := by
  unfold f_not; rw [fev_eq, asBool_eq]; simp only [iop]
  cases x.ev T with
  | bool b => cases b <;> rfl
  | _ => rfl
def f_conv (j : IntKind) (x : Arg) (T : TM) (c : Tr AO) (os : List (Tr AO)) (n : Ix) (k : KV) : FR := fev x T fun v => asInt v fun _ z => fwrap j z fun z => k (.int j z) c os n
theorem f_conv_eq (j : IntKind) (x : Arg) : f_conv j x T c os n k = fbk (iop T ⟨c, os, n⟩ (.conv j x)) k := by
  unfold f_conv; rw [fev_eq, asInt_eq]; simp only [iop]
  cases x.ev T with
  | int j' z => simp only; rw [fwrap_eq]; rfl
  | _ => rfl
def f_mkif (t : Nat) (x : Arg) (T : TM) (c : Tr AO) (os : List (Tr AO)) (n : Ix) (k : KV) : FR := fev x T fun v => k (.iface t v) c os n
theorem f_mkif_eq (t : Nat) (x : Arg) : f_mkif t x T c os n k = fbk (iop T ⟨c, os, n⟩ (.mkif t x)) k := by
  unfold f_mkif; rw [fev_eq]; rfl
def f_mkfn (f : Nat) (a b : List Arg) (T : TM) (c : Tr AO) (os : List (Tr AO)) (n : Ix) (k : KV) : FR := fevs a T fun a => fevs b T fun b => k (.func f a b) c os n
theorem f_mkfn_eq (f : Nat) (a b : List Arg) : f_mkfn f a b T c os n k = fbk (iop T ⟨c, os, n⟩ (.mkfn f a b)) k := by
  unfold f_mkfn; rw [fevs_eq, fevs_eq]; rfl
def f_mkmap (_ : TM) (c : Tr AO) (os : List (Tr AO)) (n : Ix) (k : KV) : FR := fnew (.map [] 0) c n fun c' n' => k (.map n) c' os n'
theorem f_mkmap_eq : f_mkmap T c os n k = fbk (iop T ⟨c, os, n⟩ .mkmap) k := by
  unfold f_mkmap; rw [fnew_eq (os := os)]; rfl
def f_faddr (d : Nat) (x : Arg) (T : TM) (c : Tr AO) (os : List (Tr AO)) (n : Ix) (k : KV) : FR := fev x T fun v => asPtr v fun a i => fnat (Nat.add i d) fun j => k (.ptr a j) c os n
theorem f_faddr_eq (d : Nat) (x : Arg) : f_faddr d x T c os n k = fbk (iop T ⟨c, os, n⟩ (.faddr d x)) k := by
  unfold f_faddr; rw [fev_eq, asPtr_eq]; simp only [iop]
  cases x.ev T with
  | ptr a i => simp only; rw [fnat_eq]; rfl
  | _ => rfl
def f_field (off : Nat) (m : Option Nat) (x : Arg) (T : TM) (c : Tr AO) (os : List (Tr AO)) (n : Ix) (k : KV) : FR := fev x T fun v => asAgg v fun cs =>
  Option.rec (motive := fun _ => FR) (flget cs off fun v => k v c os n) (fun m => fdrop cs off fun l => ftake m l fun vs => k (.agg vs) c os n) m
theorem f_field_eq (off : Nat) (m : Option Nat) (x : Arg) : f_field off m x T c os n k = fbk (iop T ⟨c, os, n⟩ (.field off m x)) k := by
  unfold f_field; rw [fev_eq, asAgg_eq]; simp only [iop]
  cases x.ev T with
  | agg cs =>
    cases m with
    | none => simp only; rw [flget_eq]; cases listGet cs off <;> rfl
    | some m => simp only; rw [fdrop_eq, ftake_eq]; cases takeN m (listDrop off cs) <;> rfl
  | _ => rfl
/-- a number that is not negative -/
def fpos : Int → (Nat → FR) → FR := Int.rec (motive := fun _ => (Nat → FR) → FR) (fun m k => k m) (fun _ _ => none)
theorem fpos_eq (z : Int) (k : Nat → FR) : fpos z k = (match z with | .ofNat m => k m | _ => none) := by cases z <;> rfl
def f_iaddr (esz : Nat) (x i : Arg) (T : TM) (c : Tr AO) (os : List (Tr AO)) (n : Ix) (k : KV) : FR := fev x T fun v => fev i T fun w => asS1 v fun a off len => asInt w fun _ z => fpos z fun m =>
  fif (Nat.blt m len) (fnat (Nat.add off (Nat.mul m esz)) fun j => k (.ptr a j) c os n) none
theorem f_iaddr_eq (esz : Nat) (x i : Arg) : f_iaddr esz x i T c os n k = fbk (iop T ⟨c, os, n⟩ (.iaddr esz x i)) k := by
  unfold f_iaddr; rw [fev_eq, fev_eq, asS1_eq]; simp only [iop]
  cases x.ev T with
  | slice a off len cap =>
    simp only; rw [asInt_eq]
    cases i.ev T with
    | int j z =>
      simp only; rw [fpos_eq]
      cases z with
      | ofNat m => simp only; rw [fif_eq, fnat_eq]; split <;> rfl
      | negSucc m => rfl
    | _ => rfl
  | _ => rfl
def f_idxs (x i : Arg) (T : TM) (c : Tr AO) (os : List (Tr AO)) (n : Ix) (k : KV) : FR := fev x T fun v => fev i T fun w => asStr v fun s => asInt w fun _ z => fpos z fun m => fbget s m fun b => k (.int .u8 (.ofNat b)) c os n
theorem f_idxs_eq (x i : Arg) : f_idxs x i T c os n k = fbk (iop T ⟨c, os, n⟩ (.idxs x i)) k := by
  unfold f_idxs; rw [fev_eq, fev_eq, asStr_eq]; simp only [iop]
  cases x.ev T with
  | str s =>
    simp only; rw [asInt_eq]
    cases i.ev T with
    | int j z =>
      simp only; rw [fpos_eq]
      cases z with
      | ofNat m => simp only; rw [fbget_eq]; cases listGet s m <;> rfl
      | negSucc m => rfl
    | _ => rfl
  | _ => rfl
/-! maps -/
def fieqI (a b : Int) (t e : FR) : FR := fnn a b (fun p q => fif (Nat.beq p q) t e) (fif (a == b) t e)
theorem fieqI_eq (a b : Int) (t e : FR) : fieqI a b t e = if a == b then t else e := by
  unfold fieqI
  rw [fnn_eq]
  split
  · rw [fif_eq, beq_dec]
  · rw [fif_eq]
def fc_b (v w : AV) (t e : FR) : FR := asB v fun a => asB w fun b => fif (beqB a b) t e
def fc_i (v w : AV) (t e : FR) : FR := asInt v fun j a => asInt w fun j' b => fif (Nat.beq (ikN j) (ikN j')) (fieqI a b t e) none
def fc_s (v w : AV) (t e : FR) : FR := asStr v fun l => asStr w fun m => fbeq l m t e
def fc_no (_ _ : AV) (_ _ : FR) : FR := none
def fcell : EqK → AV → AV → FR → FR → FR := EqK.rec (motive := fun _ => AV → AV → FR → FR → FR) fc_b fc_no fc_i fc_s fc_no fc_no
theorem fcell_eq (q : EqK) (v w : AV) (t e : FR) : fcell q v w t e = (match cellEq q v w with | some true => t | some false => e | none => none) := by
  cases q
  case b =>
    show fc_b v w t e = _
    unfold fc_b
    rw [asB_eq]
    cases v <;> try rfl
    simp only
    rw [asB_eq]
    cases w <;> try rfl
    rename_i a b
    cases a <;> cases b <;> rfl
  case i =>
    show fc_i v w t e = _
    unfold fc_i
    rw [asInt_eq]
    cases v <;> try rfl
    simp only
    rw [asInt_eq]
    cases w <;> try rfl
    rename_i j a j' b
    simp only [fif_eq, ikN_eq, fieqI_eq, cellEq, decide_eq_true_eq]
    by_cases hj : j = j'
    · simp only [hj, if_true]
      cases (a == b) <;> rfl
    · simp only [hj, if_false]
  case s =>
    show fc_s v w t e = _
    unfold fc_s
    rw [asStr_eq]
    cases v <;> try rfl
    simp only
    rw [asStr_eq]
    cases w <;> try rfl
    rename_i l m
    simp only [fbeq_eq, cellEq]
    cases bytesEq l m <;> rfl
  all_goals
    show none = _
    cases v <;> cases w <;> rfl
def ffind : List (AV × AV × Nat) → EqK → AV → (AV → FR) → FR → FR := List.rec (motive := fun _ => EqK → AV → (AV → FR) → FR → FR) (fun _ _ _ m => m) (fun p _ ih q key s m => fcell q key p.1 (s p.2.1) (ih q key s m))
theorem ffind_eq (q : EqK) (key : AV) (s : AV → FR) (m : FR) : ∀ (es : List (AV × AV × Nat)) (i : Nat), ffind es q key s m = (match findKey q key es i with | some (some (_, v, _)) => s v | some none => m | none => none)
  | [], i => rfl
  | (k', v, b) :: es, i => by
    show fcell q key k' (s v) (ffind es q key s m) = _
    rw [fcell_eq, ffind_eq q key s m es (i + 1)]
    simp only [findKey]
    cases cellEq q key k' with
    | none => rfl
    | some x => cases x <;> rfl
def f_lookup (kk : EqK) (zero : AV) (ok : Bool) (m x : Arg) (T : TM) (c : Tr AO) (os : List (Tr AO)) (n : Ix) (k : KV) : FR := fev m T fun v => asMap v (fif ok (k (.tup [zero, .bool false]) c os n) (k zero c os n)) fun a => fget a c os fun o => asOM o fun es _ => fev x T fun key =>
  ffind es kk key (fun v => fif ok (k (.tup [v, .bool true]) c os n) (k v c os n)) (fif ok (k (.tup [zero, .bool false]) c os n) (k zero c os n))
theorem f_lookup_eq (kk : EqK) (zero : AV) (ok : Bool) (m x : Arg) : f_lookup kk zero ok m x T c os n k = fbk (iop T ⟨c, os, n⟩ (.lookup kk zero ok m x)) k := by
  unfold f_lookup; rw [fev_eq, asMap_eq]; simp only [iop]
  cases m.ev T with
  | nilmap => cases ok <;> rfl
  | map a =>
    simp only; rw [fget_eq (n := n)]
    cases AW.get ⟨c, os, n⟩ a with
    | none => rfl
    | some o => simp only; rw [asOM_eq]; cases o with
      | map es clock =>
        simp only; rw [fev_eq, ffind_eq (i := 0)]
        cases findKey kk (x.ev T) es 0 with
        | none => rfl
        | some r => cases r with
          | none => cases ok <;> rfl
          | some p => obtain ⟨_, v, _⟩ := p; cases ok <;> rfl
      | _ => rfl
  | _ => rfl
def fupd : List (AV × AV × Nat) → EqK → AV → AV → (List (AV × AV × Nat) → FR) → FR → FR := List.rec (motive := fun _ => EqK → AV → AV → (List (AV × AV × Nat) → FR) → FR → FR) (fun _ _ _ _ m => m)
  (fun p l ih q key x s m => fcell q key p.1 (s ((key, x, p.2.2) :: l)) (ih q key x (fun r => s (p :: r)) m))
theorem findKey_ge {q : EqK} {key : AV} : ∀ {es : List (AV × AV × Nat)} {i : Nat} {r : Nat × AV × Nat}, findKey q key es i = some (some r) → i ≤ r.1
  | [], i, r, h => by simp [findKey] at h
  | (k', v, b) :: es, i, r, h => by
    simp only [findKey] at h
    split at h
    · cases h; exact Nat.le_refl _
    · have := findKey_ge h; omega
    · cases h
theorem fupd_eq (q : EqK) (key x : AV) (m : FR) : ∀ (es : List (AV × AV × Nat)) (s : List (AV × AV × Nat) → FR) (i : Nat), fupd es q key x s m = (match findKey q key es i with | some (some (j, _, b)) => s (listSet es (j - i) (key, x, b)) | some none => m | none => none)
  | [], s, i => rfl
  | (k', v, b) :: es, s, i => by
    show fcell q key k' (s ((key, x, b) :: es)) (fupd es q key x (fun r => s ((k', v, b) :: r)) m) = _
    rw [fcell_eq, fupd_eq q key x m es _ (i + 1)]
    simp only [findKey]
    cases cellEq q key k' with
    | none => rfl
    | some y => cases y with
      | true => simp only [Nat.sub_self]; rfl
      | false =>
        simp only
        cases hf : findKey q key es (i + 1) with
        | none => rfl
        | some r => cases r with
          | none => rfl
          | some p =>
            obtain ⟨j, w, d⟩ := p
            have := findKey_ge hf
            simp only at this ⊢
            have e : j - i = (j - (i + 1)) + 1 := by omega
            rw [e]; rfl
def fappM : List (AV × AV × Nat) → List (AV × AV × Nat) → (List (AV × AV × Nat) → FR) → FR := List.rec (motive := fun _ => List (AV × AV × Nat) → (List (AV × AV × Nat) → FR) → FR) (fun m k => k m) (fun x _ ih m k => ih m fun r => k (x :: r))
theorem fappM_eq : ∀ (l m : List (AV × AV × Nat)) (k : List (AV × AV × Nat) → FR), fappM l m k = k (l ++ m)
  | [], m, k => rfl
  | x :: l, m, k => fappM_eq l m _
def f_mupd (kk : EqK) (m x y : Arg) (T : TM) (c : Tr AO) (os : List (Tr AO)) (n : Ix) (k : KV) : FR := fev m T fun v => asMap v none fun a => fget a c os fun o => asOM o fun es clock => fev x T fun key => fev y T fun w =>
  fupd es kk key w (fun es' => fput a (.map es' clock) c fun c' => k .undef c' os n) (fappM es [(key, w, clock)] fun es' => fnat (Nat.add clock 1) fun cl => fput a (.map es' cl) c fun c' => k .undef c' os n)
theorem f_mupd_eq (kk : EqK) (m x y : Arg) : f_mupd kk m x y T c os n k = fbk (iop T ⟨c, os, n⟩ (.mupd kk m x y)) k := by
  unfold f_mupd; rw [fev_eq, asMap_eq]; simp only [iop]
  cases m.ev T with
  | map a =>
    simp only; rw [fget_eq (n := n)]
    cases AW.get ⟨c, os, n⟩ a with
    | none => rfl
    | some o => simp only; rw [asOM_eq]; cases o with
      | map es clock =>
        simp only; rw [fev_eq, fev_eq, fupd_eq (i := 0)]
        cases findKey kk (x.ev T) es 0 with
        | none => rfl
        | some r => cases r with
          | none => simp only; rw [fappM_eq, fnat_eq]; exact fput_bk c os n k a _ _
          | some p => obtain ⟨j, v, b⟩ := p; exact fput_bk c os n k a _ _
      | _ => rfl
  | _ => rfl
def f_tassert (t : Nat) (zero : AV) (ok : Bool) (x : Arg) (T : TM) (c : Tr AO) (os : List (Tr AO)) (n : Ix) (k : KV) : FR := fev x T fun v => asIface v (fif ok (k (.tup [zero, .bool false]) c os n) none) fun u w =>
  fif (Nat.beq u t) (fif ok (k (.tup [w, .bool true]) c os n) (k w c os n)) (fif ok (k (.tup [zero, .bool false]) c os n) none)
theorem f_tassert_eq (t : Nat) (zero : AV) (ok : Bool) (x : Arg) : f_tassert t zero ok x T c os n k = fbk (iop T ⟨c, os, n⟩ (.tassert t zero ok x)) k := by
  unfold f_tassert; rw [fev_eq, asIface_eq]; simp only [iop]
  cases x.ev T with
  | niliface => cases ok <;> rfl
  | iface u w => simp only; rw [fif_eq]; cases Nat.beq u t <;> cases ok <;> rfl
  | _ => rfl
def f_extract (i : Nat) (x : Arg) (T : TM) (c : Tr AO) (os : List (Tr AO)) (n : Ix) (k : KV) : FR := fev x T fun v => asTup v fun vs => flget vs i fun v => k v c os n
theorem f_extract_eq (i : Nat) (x : Arg) : f_extract i x T c os n k = fbk (iop T ⟨c, os, n⟩ (.extract i x)) k := by
  unfold f_extract; rw [fev_eq, asTup_eq]; simp only [iop]
  cases x.ev T with
  | tup vs => simp only; rw [flget_eq]; cases listGet vs i <;> rfl
  | _ => rfl
def fl_b (v : AV) (_ : Tr AO) (_ : List (Tr AO)) (k : Nat → FR) : FR := asStr v fun l => flenN l k
def fl_s (v : AV) (_ : Tr AO) (_ : List (Tr AO)) (k : Nat → FR) : FR := asSl v (k 0) (k 0) fun _ _ l _ => k l
def fl_m (v : AV) (c : Tr AO) (os : List (Tr AO)) (k : Nat → FR) : FR := asMap v (k 0) fun a => fget a c os fun o => asOM o fun es _ => flenM es k
def fl_no (_ : AV) (_ : Tr AO) (_ : List (Tr AO)) (_ : Nat → FR) : FR := none
def flen : EqK → AV → Tr AO → List (Tr AO) → (Nat → FR) → FR := EqK.rec (motive := fun _ => AV → Tr AO → List (Tr AO) → (Nat → FR) → FR) fl_b fl_no fl_no fl_s fl_m fl_no
def f_len (q : EqK) (x : Arg) (T : TM) (c : Tr AO) (os : List (Tr AO)) (n : Ix) (k : KV) : FR := fev x T fun v => flen q v c os fun m => k (.int .i64 (.ofNat m)) c os n
theorem f_len_eq (q : EqK) (x : Arg) : f_len q x T c os n k = fbk (iop T ⟨c, os, n⟩ (.len q x)) k := by
  unfold f_len; rw [fev_eq]; simp only [iop]
  cases q
  case b =>
    show fl_b (x.ev T) c os (fun m => k (.int .i64 (.ofNat m)) c os n) = _
    unfold fl_b
    rw [asStr_eq]
    cases x.ev T with
    | str l => simp only; rw [flenN_eq]; rfl
    | _ => rfl
  case s =>
    show fl_s (x.ev T) c os (fun m => k (.int .i64 (.ofNat m)) c os n) = _
    unfold fl_s
    rw [asSl_eq]
    cases x.ev T <;> rfl
  case m =>
    show fl_m (x.ev T) c os (fun m => k (.int .i64 (.ofNat m)) c os n) = _
    unfold fl_m
    rw [asMap_eq]
    cases x.ev T with
    | map a =>
      simp only; rw [fget_eq (n := n)]
      cases AW.get ⟨c, os, n⟩ a with
      | none => rfl
      | some o => simp only; rw [asOM_eq]; cases o with
        | map es clock => simp only; rw [flenM_eq]; rfl
        | _ => rfl
    | _ => rfl
  all_goals
    show none = _
    cases x.ev T <;> rfl
end
end Go.AE
namespace Go.AE
noncomputable section
variable (T : TM) (c : Tr AO) (os : List (Tr AO)) (n : Ix) (k : KV)
/-- away with an object -/
def fdW : Ix → Tr AO → (Tr AO → FR) → FR := Ix.rec (motive := fun _ => Tr AO → (Tr AO → FR) → FR)
  (fun t k => Tr.rec (motive := fun _ => (Tr AO → FR) → FR) (fun k => k .leaf) (fun l _ r _ _ k => k (.node l none r)) t k)
  (fun _ ih t k => Tr.rec (motive := fun _ => (Tr AO → (Tr AO → FR) → FR) → (Tr AO → FR) → FR) (fun _ k => k .leaf) (fun l v r _ _ ih k => ih l fun t => k (.node t v r)) t ih k)
  (fun _ ih t k => Tr.rec (motive := fun _ => (Tr AO → (Tr AO → FR) → FR) → (Tr AO → FR) → FR) (fun _ k => k .leaf) (fun l v r _ _ ih k => ih r fun t => k (.node l v t)) t ih k)
theorem fdW_eq (i : Ix) : ∀ (t : Tr AO) (k : Tr AO → FR), fdW i t k = k (t.del i) := by
  induction i with
  | h => intro t k; cases t <;> rfl
  | o p ih => intro t k; cases t with
    | leaf => rfl
    | node l v r => exact ih l _
  | i p ih => intro t k; cases t with
    | leaf => rfl
    | node l v r => exact ih r _
def fdropO (a : Ix) (c : Tr AO) (os : List (Tr AO)) (k : Tr AO → FR) : FR := fgW a c (fun _ => fold_get os a (fun _ => none) (fdW a c k)) none
theorem fdropO_eq (a : Ix) (k : Tr AO → FR) : fdropO a c os k = (match AW.drop ⟨c, os, n⟩ a with | some A => k A.cur | none => none) := by
  unfold fdropO AW.drop
  rw [fgW_eq, fold_get_eq, fdW_eq]
  cases c.get a with
  | none => rfl
  | some o => simp only; cases olds_get os a <;> rfl
theorem drop_rest {A A' : AW} {i : Ix} (h : A.drop i = some A') : A' = ⟨A'.cur, A.olds, A.nx⟩ := by
  unfold AW.drop at h
  split at h
  · split at h
    · cases h; rfl
    · cases h
  · cases h
def fsrc (esz : Nat) (x : AV) (c : Tr AO) (os : List (Tr AO)) (k : List AV → Nat → FR) : FR := asSrc x (k [] 0) (fun l => fif (Nat.beq esz 1) (k (ofBytes l) l.length) none)
  fun a off len => fget a c os fun o => asCells o fun l _ _ _ => fdrop l off fun l' => ftake (Nat.mul len esz) l' fun cs => k cs len
theorem fsrc_eq (esz : Nat) (x : AV) (k : List AV → Nat → FR) : fsrc esz x c os k = (match srcOf ⟨c, os, n⟩ esz x with | some (cs, m) => k cs m | none => none) := by
  unfold fsrc srcOf; rw [asSrc_eq]
  cases x with
  | str l => simp only; rw [fif_eq]; split <;> rfl
  | slice a off len cap =>
    simp only; rw [fget_eq (n := n)]
    cases AW.get ⟨c, os, n⟩ a with
    | none => rfl
    | some o => simp only; rw [asCells_eq]; cases o with
      | cells l e g z =>
        simp only; rw [fdrop_eq, ftake_eq]
        show (match takeN (len * esz) (listDrop off l) with | some r => k r len | none => none) = _
        cases takeN (len * esz) (listDrop off l) <;> rfl
      | _ => rfl
  | _ => rfl
/-- append to a slice whose array has grown -/
def fapG (et esz : Nat) (new : List AV) (m : Nat) (a : Ix) (off len z : Nat) (c : Tr AO) (os : List (Tr AO)) (n : Ix) (k : KV) : FR :=
  fget a c os fun o => asCells o fun l et' grown frz => fif frz none (fif grown (fif (Nat.beq z esz) (fif (Nat.beq et et') (fallOne new
    (fdrop l off fun l' => ftake (Nat.mul len esz) l' fun old => fdropO a c os fun c' => fapp old new fun l2 => fnew (.cells l2 et true false) c' n fun c2 n2 => fnat (Nat.add len m) fun len' => k (.slice n 0 len' (.g esz)) c2 os n2)
    none) none) none) none)
/-- append to a slice whose array's size is known -/
def fapK (et esz : Nat) (new : List AV) (m : Nat) (a : Ix) (off len cap : Nat) (c : Tr AO) (os : List (Tr AO)) (n : Ix) (k : KV) : FR :=
  fget a c os fun o => asCells o fun l et' grown frz => fif (Nat.ble (Nat.add len m) cap)
    (fif frz none (fallOne new (fnat (Nat.add off (Nat.mul len esz)) fun at' => fputFrom l at' new fun l' => fput a (.cells l' et' grown frz) c fun c' => fnat (Nat.add len m) fun len' => k (.slice a off len' (.k cap)) c' os n) none))
    (fdrop l off fun l' => ftake (Nat.mul len esz) l' fun old => fapp old new fun l2 => fnew (.cells l2 et true false) c n fun c2 n2 => fnat (Nat.add len m) fun len' => k (.slice n 0 len' (.g esz)) c2 os n2)
def fapC : Cap → Nat → Nat → List AV → Nat → Ix → Nat → Nat → Tr AO → List (Tr AO) → Ix → KV → FR := Cap.rec (motive := fun _ => Nat → Nat → List AV → Nat → Ix → Nat → Nat → Tr AO → List (Tr AO) → Ix → KV → FR)
  (fun cap et esz new m a off len c os n k => fif (Nat.beq m 0) (fif (Nat.ble len cap) (k (.slice a off len (.k cap)) c os n) none) (fif (Nat.ble (Nat.add len m) 1073741824) (fapK et esz new m a off len cap c os n k) none))
  (fun z et esz new m a off len c os n k => fif (Nat.beq m 0) (k (.slice a off len (.g z)) c os n) (fif (Nat.ble (Nat.add len m) 1073741824) (fapG et esz new m a off len z c os n k) none))
def fappend (et esz : Nat) (s : AV) (new : List AV) (m : Nat) (c : Tr AO) (os : List (Tr AO)) (n : Ix) (k : KV) : FR := asSl s none
  (fif (Nat.beq m 0) (k .nilslice c os n) (fif (Nat.ble m 1073741824) (fnew (.cells new et true false) c n fun c' n' => k (.slice n 0 m (.g esz)) c' os n') none))
  fun a off len cap => fapC cap et esz new m a off len c os n k
theorem p30 : (2 : Nat) ^ 30 = 1073741824 := rfl
theorem fappend_eq (et esz : Nat) (s : AV) (new : List AV) (m : Nat) : fappend et esz s new m c os n k = fbk (appendTo ⟨c, os, n⟩ et esz s new m) k := by
  unfold fappend; rw [asSl_eq]
  cases s with
  | nilslice =>
    simp only [fif_eq, appendTo, p30]
    split
    · rfl
    · split
      · rw [fnew_eq (os := os)]; rfl
      · rfl
  | slice a off len cap =>
    cases cap with
    | k cap =>
      show fif (Nat.beq m 0) (fif (Nat.ble len cap) (k (.slice a off len (.k cap)) c os n) none) (fif (Nat.ble (Nat.add len m) 1073741824) (fapK et esz new m a off len cap c os n k) none) = _
      simp only [fif_eq, appendTo, p30]
      split
      · split <;> rfl
      · show (if Nat.ble (len + m) 1073741824 = true then _ else _) = _
        split
        · unfold fapK
          rw [fget_eq (n := n)]
          cases AW.get ⟨c, os, n⟩ a with
          | none => rfl
          | some o => simp only; rw [asCells_eq]; cases o with
            | cells l e g z =>
              simp only [fif_eq]
              show (if Nat.ble (len + m) cap = true then _ else _) = _
              split
              · split
                · rfl
                · rw [fallOne_eq]
                  split
                  · rw [fnat_eq, fputFrom_eq]
                    show (match putFrom l (off + len * esz) new with | some r => _ | none => none) = _
                    cases putFrom l (off + len * esz) new with
                    | none => rfl
                    | some l' =>
                      simp only [fnat_eq]
                      exact fput_bk c os n k a _ _
                  · rfl
              · rw [fdrop_eq, ftake_eq]
                show (match takeN (len * esz) (listDrop off l) with | some r => _ | none => none) = _
                cases takeN (len * esz) (listDrop off l) with
                | none => rfl
                | some old =>
                  simp only; rw [fapp_eq, fnew_eq (os := os), fnat_eq]; rfl
            | _ => rfl
        · rfl
    | g z0 =>
      show fif (Nat.beq m 0) (k (.slice a off len (.g z0)) c os n) (fif (Nat.ble (Nat.add len m) 1073741824) (fapG et esz new m a off len z0 c os n k) none) = _
      simp only [fif_eq, appendTo, p30]
      split
      · rfl
      · show (if Nat.ble (len + m) 1073741824 = true then _ else _) = _
        split
        · unfold fapG
          rw [fget_eq (n := n)]
          cases AW.get ⟨c, os, n⟩ a with
          | none => rfl
          | some o => simp only; rw [asCells_eq]; cases o with
            | cells l e g z =>
              simp only [fif_eq, fallOne_eq]
              cases z
              · simp only [Bool.false_eq_true, if_false]
                cases g
                · rfl
                · cases Nat.beq z0 esz
                  · rfl
                  · cases Nat.beq et e
                    · rfl
                    · cases allOne new
                      · rfl
                      · simp only [if_true, Bool.and_self, Bool.true_and]
                        rw [fdrop_eq, ftake_eq]
                        show (match takeN (len * esz) (listDrop off l) with | some r => _ | none => none) = _
                        cases takeN (len * esz) (listDrop off l) with
                        | none => rfl
                        | some old =>
                          simp only; rw [fdropO_eq (n := n)]
                          cases hd : AW.drop ⟨c, os, n⟩ a with
                          | none => rfl
                          | some A' =>
                            have := drop_rest hd
                            simp only; rw [fapp_eq, fnew_eq (os := os), fnat_eq]
                            rw [this]; rfl
              · rfl
            | _ => rfl
        · rfl
  | _ => rfl
def f_append (et esz : Nat) (s x : Arg) (T : TM) (c : Tr AO) (os : List (Tr AO)) (n : Ix) (k : KV) : FR := fev x T fun v => fsrc esz v c os fun new m => fev s T fun w => fappend et esz w new m c os n k
theorem f_append_eq (et esz : Nat) (s x : Arg) : f_append et esz s x T c os n k = fbk (iop T ⟨c, os, n⟩ (.append et esz s x)) k := by
  unfold f_append; rw [fev_eq, fsrc_eq (n := n)]; simp only [iop]
  cases srcOf ⟨c, os, n⟩ esz (x.ev T) with
  | none => rfl
  | some p => obtain ⟨new, m⟩ := p; simp only; rw [fev_eq, fappend_eq]
/-- the others: as they are written -/
def f_fb (op : IOp) (T : TM) (c : Tr AO) (os : List (Tr AO)) (n : Ix) (k : KV) : FR := fbk (iop T ⟨c, os, n⟩ op) k
abbrev FOp := TM → Tr AO → List (Tr AO) → Ix → KV → FR
def fop : IOp → FOp := IOp.rec (motive := fun _ => FOp)
  f_mov f_mos f_mop f_pick f_box f_alloc f_build f_bslice f_load f_loadn f_store f_storen f_nilck f_bin f_eqv (fun ks neg x y => f_fb (.eqagg ks neg x y)) f_not (fun x => f_fb (.neg x)) (fun x => f_fb (.bnot x)) f_conv
  (fun et x => f_fb (.s2b et x)) (fun x => f_fb (.b2s x)) (fun x => f_fb (.i2s x)) f_mkif f_mkfn f_mkmap (fun et z b l cp => f_fb (.mkslice et z b l cp)) (fun x lo hi => f_fb (.slstr x lo hi)) (fun e x lo hi mx => f_fb (.slsl e x lo hi mx)) (fun m e x lo hi => f_fb (.slarr m e x lo hi))
  f_faddr f_field f_iaddr (fun m e x i => f_fb (.iaddra m e x i)) f_idxs (fun m e g x i => f_fb (.idxa m e g x i)) f_lookup f_mupd (fun kk z m x => f_fb (.mentry kk z m x)) (fun m s v => f_fb (.estore m s v)) (fun x => f_fb (.rangeS x)) (fun x => f_fb (.rangeM x)) (fun x => f_fb (.nexts x)) (fun x => f_fb (.nextm x))
  (fun x => f_fb (.entry x)) f_tassert f_extract f_len (fun x => f_fb (.cap x)) f_append (fun e d s => f_fb (.copy e d s)) (fun kk m x => f_fb (.del kk m x)) (fun m => f_fb (.clearm m)) (fun mx xs => f_fb (.maxmin mx xs)) (fun f xs => f_fb (.call f xs)) (fun x xs => f_fb (.callv x xs)) (fun t x xs => f_fb (.invoke t x xs))
  (fun et p m => f_fb (.ustr et p m)) (fun x => f_fb (.usd x)) (fun x => f_fb (.up2 x)) (fun u sz x => f_fb (.p2u u sz x)) (fun w => f_fb (.bad w))
theorem fop_eq (op : IOp) : fop op T c os n k = fbk (iop T ⟨c, os, n⟩ op) k := by
  cases op
  case mov x => exact f_mov_eq ..
  case mos x => exact f_mos_eq ..
  case mop x => exact f_mop_eq ..
  case pick => exact f_pick_eq ..
  case box => exact f_box_eq ..
  case alloc => exact f_alloc_eq ..
  case build => exact f_build_eq ..
  case bslice => exact f_bslice_eq ..
  case load => exact f_load_eq ..
  case loadn => exact f_loadn_eq ..
  case store => exact f_store_eq ..
  case storen => exact f_storen_eq ..
  case nilck => exact f_nilck_eq ..
  case bin => exact f_bin_eq ..
  case eqv => exact f_eqv_eq ..
  case not => exact f_not_eq ..
  case conv => exact f_conv_eq ..
  case mkif => exact f_mkif_eq ..
  case mkfn => exact f_mkfn_eq ..
  case mkmap => exact f_mkmap_eq ..
  case faddr => exact f_faddr_eq ..
  case field => exact f_field_eq ..
  case iaddr => exact f_iaddr_eq ..
  case idxs => exact f_idxs_eq ..
  case lookup => exact f_lookup_eq ..
  case mupd => exact f_mupd_eq ..
  case tassert => exact f_tassert_eq ..
  case extract => exact f_extract_eq ..
  case len => exact f_len_eq ..
  case append => exact f_append_eq ..
  all_goals rfl
end
end Go.AE
