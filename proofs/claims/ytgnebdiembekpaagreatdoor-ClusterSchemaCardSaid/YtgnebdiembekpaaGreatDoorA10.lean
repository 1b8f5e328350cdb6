import Derived.Test.YtgnebdiembekpaaGreatDoorA1
import Derived.Orders
/- Part of the proof: the abstract evaluator, its soundness, its runs: AeComp -/
set_option linter.unusedSectionVars false
set_option linter.unusedSimpArgs false
set_option linter.unusedVariables false
set_option linter.unnecessarySimpa false
namespace Go.AE
/-- an abstract value of a plain value (one that names no memory) -/
def absV : Nat → Value → Option AV
  | 0, _ => none
  | n + 1, v => match v with
    | .bool b => some (.bool b)
    | .int k m => some (.int k m)
    | .string s => some (.str (s.data.toList.map (·.toNat)))
    | .pointer none => some .nilptr
    | .slice none 0 0 => some .nilslice
    | .map none => some .nilmap
    | .nilFunc => some .nilfunc
    | .func (.func f) first captured => match first.toList.mapM (absV n), captured.toList.mapM (absV n) with
      | some a, some b => some (.func f a b)
      | _, _ => none
    | .iface t v => (absV n v).map (.iface t)
    | .nilIface => some .niliface
    | .agg cs => (cs.toList.mapM (absV n)).map .agg
    | .tuple vs => if vs.isEmpty then some .undef else (vs.toList.mapM (absV n)).map .tup
    | _ => none
def AV.nu : AV → Option AV
  | .undef => none
  | x => some x
theorem AV.nu_some {x y : AV} (h : x.nu = some y) : x = y ∧ y.isU = false := by
  cases x <;> simp [AV.nu] at h <;> subst h <;> exact ⟨rfl, rfl⟩
def zeroOf (P : Program) (t : TypeId) : Option AV := (((P.info? t).bind (·.zero)).bind (absV 4)).bind AV.nu
theorem zeroOf_spec {P : Program} {t : TypeId} {z : AV} (h : zeroOf P t = some z) : z.isU = false ∧ ∃ i v, P.info? t = some i ∧ i.zero = some v ∧ absV 4 v = some z := by
  simp only [zeroOf, Option.bind_eq_some_iff] at h
  obtain ⟨y, ⟨v, ⟨i, hi, hv⟩, ha⟩, hn⟩ := h
  obtain ⟨rfl, hu⟩ := AV.nu_some hn
  exact ⟨hu, i, v, hi, hv, ha⟩
def isAggT (P : Program) (t : TypeId) : Option Bool := match P.underlying t with
  | some (.struct _) | some (.array _ _) => some true
  | some _ => some false
  | none => none
def sizeT (P : Program) (t : TypeId) : Option Nat := (P.info? t).map (·.size)

/-- names of globals: object number of the g-th variable -/
def gIx (g : Nat) : Ix := Ix.ofTmp g
def argOf (P : Program) : Operand → Option Arg
  | .tmp t => some (.t (Ix.ofTmp t))
  | .const v => (absV 4 v).map .c
  | .global g => if g < P.globals.size then some (.c (.ptr (gIx g) 0)) else none
  | .func f => some (.c (.func f [] []))
def partsOf (P : Program) (t : TypeId) (parts : Array (Nat × Operand)) : Option (List (Nat × Nat × Arg)) :=
  match P.underlying t with
  | some (.struct fields) => do
      let places ← fields.toList.mapM fun f => (sizeT P f.type).map fun n => (f.offset, n)
      parts.toList.mapM fun (i, x) => do
        let (off, n) ← places[i]?
        let a ← argOf P x
        pure (off, n, a)
  | some (.array _ e) => do
      let n ← sizeT P e
      parts.toList.mapM fun (i, x) => do
        let a ← argOf P x
        pure (i * n, n, a)
  | some (.slice e) => do
      let n ← sizeT P e
      parts.toList.mapM fun (i, x) => do
        let a ← argOf P x
        pure (i * n, n, a)
  | _ => none
def AV.cellsO : AV → List AV
  | .agg l => l
  | v => [v]
def optArg (P : Program) : Option Operand → Option (Option Arg)
  | none => some none
  | some x => (argOf P x).map some
/-- types whose method of a name is a plain function of the value itself -/
def methodTbl (P : Program) (name : String) : List (Nat × Nat) :=
  (List.range P.types.size).filterMap fun t =>
    match P.info? t with
    | some i => match i.methods.find? (·.name == name) with
      | some m => if m.path.isEmpty then match m.func with
          | some (f, false) => match P.underlying t with
            | some (.pointer _) => none
            | some (.interface _) => none
            | some _ => some (t, f)
            | none => none
          | some (f, true) => match P.underlying t with
            | some (.pointer _) => some (t, f)
            | _ => none
          | none => none
        else none
      | none => none
    | none => none
def isIntT (P : Program) (t : TypeId) : Bool := match P.underlying t with | some (.int _) => true | _ => false
def isC : Operand → Bool
  | .const _ => true
  | _ => false
def eqKind (P : Program) : TypeDesc → Option EqK
  | .bool => some .b
  | .pointer e => match sizeT P e with
    | some n => if n = 0 then none else some .p
    | none => none
  | .interface _ => some .i
  | .slice _ => some .s
  | .map _ _ => some .m
  | .func _ _ _ => some .f
  | _ => none
/-- the cells of fields that lie one behind the other -/
def plainFs (g : TypeId → Option (List EqK)) : List Field → List EqK → Option (List EqK)
  | [], acc => some acc
  | f :: fs, acc => if f.name = "_" ∨ f.offset ≠ acc.length then none else match g f.type with
    | some k => plainFs g fs (acc ++ k)
    | none => none
/-- the cells of a type of numbers, texts, truths and structs of such -/
def plainT (P : Program) : Nat → TypeId → Option (List EqK)
  | 0, _ => none
  | n + 1, t => match P.underlying t with
    | some (.int _) => some [.i]
    | some .string => some [.s]
    | some .bool => some [.b]
    | some (.struct fs) => if P.stoodInHeld t then none else match plainFs (plainT P n) fs.toList [] with
      | some ks => if sizeT P t = some ks.length then some ks else none
      | none => none
    | _ => none
/-- the kind of a map's key -/
def keyK (P : Program) (t : TypeId) : Option EqK := match P.underlying t with
  | some (.int _) => some .i
  | some .string => some .s
  | some .bool => some .b
  | _ => none
def isU8 : Option TypeDesc → Bool
  | some (.int .u8) => true
  | _ => false
theorem isU8_eq {o : Option TypeDesc} (h : isU8 o = true) : o = some (.int .u8) := by
  unfold isU8 at h
  split at h
  · rfl
  · cases h
def compO (P : Program) (o : Oper) : Option IOp :=
  match o.op with
  | .move x | .assign x => do pure (.mov (← argOf P x))
  | .pick c a b => do pure (.pick (← argOf P c) (← argOf P a) (← argOf P b))
  | .alloc e => do pure (.alloc e (← zeroOf P e).cells)
  | .box e x => do pure (.box e (← argOf P x))
  | .build t ps => match P.underlying t with
    | some (.slice _) => none
    | _ => do pure (.build (← zeroOf P t).cells (← partsOf P t ps))
  | .buildSlice t len ps => match P.underlying t with
    | some (.slice e) => do
      let z ← zeroOf P e
      let n ← sizeT P e
      if len * n > 2 ^ 12 ∨ z.cells.length ≠ n then none else
      pure (.bslice e (repl len z.cells) len (← partsOf P t ps))
    | _ => none
  | .load t a => do
    if ← isAggT P t then pure (.loadn (← sizeT P t) (← argOf P a)) else pure (.load (← argOf P a))
  | .store t a x => do
    if ← isAggT P t then pure (.storen (← sizeT P t) (← argOf P a) (← argOf P x)) else if sizeT P t = some 1 then pure (.store (← argOf P a) (← argOf P x)) else none
  | .nilCheck x => do pure (.nilck (← argOf P x))
  | .binOp op t x y _ => match P.underlying t with
    | some (.int _) | some .string => do pure (.bin op (← argOf P x) (← argOf P y))
    | some (.struct _) => match plainT P 4 t with
      | some ks => if P.eqGuardType P.depth t then none else match op with
        | .eql => do pure (.eqagg ks false (← argOf P x) (← argOf P y))
        | .neq => do pure (.eqagg ks true (← argOf P x) (← argOf P y))
        | _ => none
      | none => none
    | some d => match eqKind P d, op with
      | some k, .eql => do pure (.eqv k false (isC x || isC y) (← argOf P x) (← argOf P y))
      | some k, .neq => do pure (.eqv k true (isC x || isC y) (← argOf P x) (← argOf P y))
      | _, _ => none
    | none => none
  | .unOp op _ x => match op with
    | .not => do pure (.not (← argOf P x))
    | .neg => do pure (.neg (← argOf P x))
    | .xor => do pure (.bnot (← argOf P x))
    | _ => none
  | .convert s d x => match P.underlying s, P.underlying d with
    | some (.int _), some (.int k) => do pure (.conv k (← argOf P x))
    | some .string, some .string => do pure (.mos (← argOf P x))
    | some .string, some (.slice e) => if isU8 (P.underlying e) then do pure (.s2b e (← argOf P x)) else none
    | some (.slice e), some .string => if isU8 (P.underlying e) then do pure (.b2s (← argOf P x)) else none
    | some (.int _), some .string => do pure (.i2s (← argOf P x))
    | some (.pointer t), some .unsafePointer => do
      if (← sizeT P t) = 0 then none else pure (.up2 (← argOf P x))
    | some .unsafePointer, some (.pointer u) => do
      let n ← sizeT P u
      if n = 0 then none else pure (.p2u u n (← argOf P x))
    | some .unsafePointer, some .unsafePointer => do pure (.mop (← argOf P x))
    | _, _ => none
  | .makeInterface t x => match P.underlying t with
    | some (.interface _) => none
    | some _ => do pure (.mkif t (← argOf P x))
    | none => none
  | .makeFunc fn first captured => match fn with
    | .func f => do pure (.mkfn f (← first.toList.mapM (argOf P)) (← captured.toList.mapM (argOf P)))
    | _ => none
  | .makeMap _ none => pure .mkmap
  | .makeMap _ (some _) => none
  | .makeSlice t l c => match P.underlying t with
    | some (.slice e) => do
      let i ← P.info? e
      let z ← zeroOf P e
      if z.cells.length = 0 ∨ sizeT P e ≠ some z.cells.length then none else pure (.mkslice e z.cells i.bytes (← argOf P l) (← argOf P c))
    | _ => none
  | .slice t x lo hi mx => match P.underlying t with
    | some .string => if mx.isSome then none else do pure (.slstr (← argOf P x) (← optArg P lo) (← optArg P hi))
    | some (.slice e) => if mx.isSome && hi.isNone then none else do pure (.slsl (← sizeT P e) (← argOf P x) (← optArg P lo) (← optArg P hi) (← optArg P mx))
    | some (.array n e) => if mx.isSome then none else do pure (.slarr n (← sizeT P e) (← argOf P x) (← optArg P lo) (← optArg P hi))
    | _ => none
  | .fieldAddr s x f => match P.underlying s with
    | some (.struct fs) => do
      let f ← fs[f]?
      if (← sizeT P f.type) = 0 then none else pure (.faddr f.offset (← argOf P x))
    | _ => none
  | .field t x f => match P.underlying t with
    | some (.struct fs) => do
      let f ← fs[f]?
      if ← isAggT P f.type then pure (.field f.offset (some (← sizeT P f.type)) (← argOf P x)) else pure (.field f.offset none (← argOf P x))
    | _ => none
  | .indexAddr t x i => match P.underlying t with
    | some (.slice e) => do pure (.iaddr (← sizeT P e) (← argOf P x) (← argOf P i))
    | some (.array n e) => do pure (.iaddra n (← sizeT P e) (← argOf P x) (← argOf P i))
    | _ => none
  | .index t x i => match P.underlying t with
    | some .string => do pure (.idxs (← argOf P x) (← argOf P i))
    | some (.array n e) => do pure (.idxa n (← sizeT P e) (← isAggT P e) (← argOf P x) (← argOf P i))
    | _ => none
  | .lookup t m k ok => match P.underlying t with
    | some (.map q e) => do pure (.lookup (← keyK P q) (← zeroOf P e) ok (← argOf P m) (← argOf P k))
    | _ => none
  | .mapUpdate t m k v | .insert t m k v => match P.underlying t with
    | some (.map q _) => do pure (.mupd (← keyK P q) (← argOf P m) (← argOf P k) (← argOf P v))
    | _ => none
  | .mapEntry t m k => match P.underlying t with
    | some (.map q e) => do pure (.mentry (← keyK P q) (← zeroOf P e) (← argOf P m) (← argOf P k))
    | _ => none
  | .entryStore _ m s v => do pure (.estore (← argOf P m) (← argOf P s) (← argOf P v))
  | .range t x => match P.underlying t with
    | some .string => do pure (.rangeS (← argOf P x))
    | some (.map _ _) => do pure (.rangeM (← argOf P x))
    | _ => none
  | .next it true => do pure (.nexts (← argOf P it))
  | .next it false => do pure (.nextm (← argOf P it))
  | .entry it => do pure (.entry (← argOf P it))
  | .typeAssert x _ a ok => match P.underlying a with
    | some (.interface _) => none
    | some _ => do pure (.tassert a (← (if ok then zeroOf P a else some .undef)) ok (← argOf P x))
    | none => none
  | .extract x i => do pure (.extract i (← argOf P x))
  | .call c => match c.callee with
    | .builtin b => match b, c.args.toList with
      | .len, [x] => match (c.argTypes[0]?).bind P.underlying with
        | some .string => do pure (.len .b (← argOf P x))
        | some (.slice _) => do pure (.len .s (← argOf P x))
        | some (.map _ _) => do pure (.len .m (← argOf P x))
        | _ => none
      | .cap, [x] => match (c.argTypes[0]?).bind P.underlying with
        | some (.slice _) => do pure (.cap (← argOf P x))
        | _ => none
      | .append, [s, x] => match (c.argTypes[0]?).bind P.underlying, (c.argTypes[1]?).bind P.underlying with
        | some (.slice e), some d => if d matches .int _ then none else do
          let n ← sizeT P e
          let z ← zeroOf P e
          let i ← P.info? e
          if n = 0 ∨ z.cells.length ≠ n ∨ i.bytes > 2 ^ 14 then none else pure (.append e n (← argOf P s) (← argOf P x))
        | _, _ => none
      | .copy, [d, s] => match (c.argTypes[0]?).bind P.underlying with
        | some (.slice e) => do
          let n ← sizeT P e
          if n = 0 then none else pure (.copy n (← argOf P d) (← argOf P s))
        | _ => none
      | .delete, [m, k] => match (c.argTypes[0]?).bind P.underlying with
        | some (.map q _) => do pure (.del (← keyK P q) (← argOf P m) (← argOf P k))
        | _ => none
      | .clear, [m] => match (c.argTypes[0]?).bind P.underlying with
        | some (.map _ _) => do pure (.clearm (← argOf P m))
        | _ => none
      | .max, [x, y] => do pure (.maxmin true [← argOf P x, ← argOf P y])
      | .min, [x, y] => do pure (.maxmin false [← argOf P x, ← argOf P y])
      | .unsafeString, [p, n] => match (c.argTypes[0]?).bind P.underlying with
        | some (.pointer e) => if sizeT P e = some 1 then do pure (.ustr e (← argOf P p) (← argOf P n)) else none
        | _ => none
      | .unsafeSliceData, [x] => do pure (.usd (← argOf P x))
      | _, _ => none
    | .value (.func f) => do pure (.call f (← c.args.toList.mapM (argOf P)))
    | .value x => do pure (.callv (← argOf P x) (← c.args.toList.mapM (argOf P)))
    | .invoke x name => do pure (.invoke (methodTbl P name) (← argOf P x) (← c.args.toList.mapM (argOf P)))
  | _ => none

inductive Cls where
  | P | L | A | E
  deriving DecidableEq, Repr
def IOp.cls : IOp → Cls
  | .box .. | .alloc .. | .bslice .. | .mkmap | .mkslice .. | .s2b .. => .A
  | .load _ | .loadn .. | .lookup .. | .b2s _ | .up2 _ => .L
  | .store .. | .storen .. | .mupd .. | .mentry .. | .estore .. | .rangeS _ | .rangeM _ | .nexts _ | .nextm _ | .entry _ | .append .. | .copy .. | .del .. | .clearm _
  | .call .. | .callv .. | .invoke .. | .ustr .. | .p2u .. | .bad _ => .E
  | .len .. => .L
  | _ => .P

def guardOf (ops : Array Oper) (o : Oper) : Option (Option (Ix × Bool)) :=
  match o.guard with
  | none => some none
  | some (j, want) => match (ops[j]?).bind (·.dst) with
    | some t => some (some (Ix.ofTmp t, want))
    | none => none
def stepOf (P : Program) (ops : Array Oper) (o : Oper) : IStep :=
  match guardOf ops o with
  | none => { d := none, g := none, op := .bad "guard" }
  | some g => { d := o.dst.map Ix.ofTmp, g, op := (compO P o).getD (.bad o.pos) }

/-- is operation j of a region to come ahead of operation i? (by at most n edges) -/
def reach (ops : Array Oper) : Nat → Nat → Nat → Bool
  | 0, _, _ => false
  | n + 1, j, i => match ops[i]? with
    | some o => o.after.any fun e => Region.binds .any e && (e.on == j || reach ops n j e.on)
    | none => false
/-- the canonical order of a region that draws: what reads and what is plain as early as it may, what makes memory as late -/
def canon (cl : Nat → Cls) (rd : List Nat → Nat → Bool) : Nat → List Nat → List Nat → List Nat
  | 0, _, acc => acc.reverse
  | f + 1, left, acc =>
    match left.find? (fun i => rd left i && (cl i == .P || cl i == .L)) with
    | some i => canon cl rd f (left.filter (· != i)) (i :: acc)
    | none =>
      match left.find? (fun i => rd left i && cl i == .E) with
      | some i => canon cl rd f (left.filter (· != i)) (i :: acc)
      | none => match left.find? (fun i => rd left i) with
        | some i => canon cl rd f (left.filter (· != i)) (i :: acc)
        | none => acc.reverse
def clsAt (P : Program) (ops : Array Oper) (i : Nat) : Cls := match ops[i]? with
  | some o => (stepOf P ops o).op.cls
  | none => .E
/-- the temporaries that an operation looks at, as places in the region's own list -/
def looksOps (ops : Array Oper) (i : Nat) : List Nat := match ops[i]? with
  | some o => (List.range ops.size).filter fun j => match (ops[j]?).bind (·.dst) with
    | some d => (o.looksAt ops).contains d
    | none => false
  | none => []
def pairs {α : Type} : List α → List (α × α)
  | [] => []
  | x :: l => l.map (fun y => (x, y)) ++ pairs l
/-- is an order one that the evaluator may take? -/
def okOrder (P : Program) (ops : Array Oper) (ord : List Nat) : Bool :=
  ord.length == ops.size && (List.range ops.size).all (fun i => ord.contains i) &&
  (pairs ord).all (fun (j, i) => j != i && !reach ops ops.size i j &&
    (match clsAt P ops j, clsAt P ops i with
      | .E, .E | .A, .E | .E, .L | .A, .L => reach ops ops.size j i
      | _, _ => true) &&
    (match (ops[j]?).bind (·.dst), (ops[i]?).bind (·.dst) with
      | some d, some e => d != e
      | _, _ => true)) &&
  ord.all (fun i => (looksOps ops i).all fun j => reach ops ops.size j i || (clsAt P ops i != .L && reach ops ops.size i j)) &&
  ord.all (fun i => match ops[i]? with
    | some o => (match o.op with | .select .. => false | _ => true) && (clsAt P ops i != .L || o.dst.isSome) && o.after.all (fun e => !Region.binds .any e || (decide (e.on < ops.size) && e.on != i))
    | none => false)
def drawSteps (P : Program) (ops : Array Oper) : List Nat → Nat → List Nat → List DStep
  | _, _, [] => []
  | done, k, i :: rest =>
    let s : IStep := match ops[i]? with | some o => stepOf P ops o | none => { d := none, g := none, op := .bad "" }
    let again := if clsAt P ops i == .E then
        (done.filter fun j => clsAt P ops j == .L && !reach ops ops.size j i).filterMap fun j =>
          match ops[j]? with
          | some o => o.dst.map fun d => (Ix.ofTmp d, (stepOf P ops o).g, (stepOf P ops o).op)
          | none => none
      else []
    { s, nm := if clsAt P ops i == .A then some k else none, again } :: drawSteps P ops (done ++ [i]) (if clsAt P ops i == .A then k + 1 else k) rest
def ordOf (P : Program) (ops : Array Oper) : List Nat :=
  canon (clsAt P ops) (fun left i => left.all fun j => !reach ops ops.size j i) ops.size (List.range ops.size) []
def drawOf (P : Program) (ops : Array Oper) : ICode :=
  let ord := ordOf P ops
  if okOrder P ops ord then .draw (ord.filter fun i => clsAt P ops i == .A).length (drawSteps P ops [] 0 ord) else .bad
def dstsC : ICode → List Ix
  | .reg l => l.filterMap (·.d)
  | .draw _ l => l.filterMap (·.s.d)
  | .seq a b => dstsC a ++ dstsC b
  | .cond _ a b => dstsC a ++ dstsC b
  | .block _ b | .loop b | .scope b => dstsC b
  | .mloop _ nx more _ b => nx :: more :: dstsC b
  | _ => []
/-- the temporaries that a text writes -/
def dstsN : Code → List Nat
  | .region _ ops _ => ops.toList.filterMap (·.dst)
  | .seq a b => dstsN a ++ dstsN b
  | .cond _ a b => dstsN a ++ dstsN b
  | .block _ b | .loop b | .scope b => dstsN b
  | .rangeFunc _ ps a b => ps.toList ++ dstsN a ++ dstsN b
  | _ => []
def isSeqNext (ops : Array Oper) : Option (Operand × Nat × Nat) :=
  match ops.toList with
  | [a, b] => match a.op, a.dst, b.op, b.dst with
    | .next it false, some nx, .extract (.tmp t) 0, some more => if t = nx ∧ nx ≠ more ∧ a.guard = none ∧ b.guard = none then some (it, nx, more) else none
    | _, _, _, _ => none
  | _ => none
def compC (P : Program) : Code → ICode
  | .skip => .skip
  | .region _ ops draw => if draw then drawOf P ops else .reg (ops.toList.map (stepOf P ops))
  | .seq a b => .seq (compC P a) (compC P b)
  | .cond c a b => match argOf P c with
    | some c => .cond c (compC P a) (compC P b)
    | none => .bad
  | .block id b => .block id (compC P b)
  | .loop b =>
    let plain := ICode.loop (compC P b)
    match b with
    | .seq (.region _ ops false) rest => match isSeqNext ops with
      | some (it, nx, more) => match argOf P it with
        | some it => .mloop it (Ix.ofTmp nx) (Ix.ofTmp more) ((dstsN rest).eraseDups.map Ix.ofTmp) (compC P rest)
        | none => .bad
      | none => plain
    | _ => plain
  | .rangeFunc .. => .bad
  | .exit id => .exit id
  | .scope b => .scope (compC P b)
  | .label l => .label l
  | .goto l => .goto l
  | .ret => .ret
  | .refuse _ => .bad
def resOf (P : Program) : ResultVar → Option RVar
  | .tmp t => some (RVar.t (Ix.ofTmp t))
  | .cell a t => do
    if ← isAggT P t then pure (RVar.c (Ix.ofTmp a) (some (← sizeT P t))) else pure (RVar.c (Ix.ofTmp a) none)
def compF (P : Program) (f : Func) : Option IFn :=
  match f.body with
  | some b => do
    let res ← f.results.toList.mapM (resOf P)
    pure (.go (f.params.size + f.nfree) res (compC P b))
  | none =>
    if f.name == "maps.clone" then some (.ext .clone)
    else if f.name == "internal/abi.NoEscape" then some (.ext .noesc)
    else if f.name == "internal/bytealg.IndexByteString" then some (.ext .idxb)
    else if f.name == "internal/bytealg.CountString" then some (.ext .cnt)
    else if f.name == "internal/bytealg.abigen_runtime_cmpstring" then some (.ext .cmps)
    else if f.name == "internal/bytealg.MakeNoZero" then match (f.resultTypes[0]?).bind P.underlying with
      | some (.slice e) => some (.ext (.mknz e))
      | _ => none
    else none
end Go.AE
