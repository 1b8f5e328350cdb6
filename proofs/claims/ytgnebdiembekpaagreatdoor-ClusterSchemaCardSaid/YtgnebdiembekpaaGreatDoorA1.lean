import GoSem.Step
/- Part of the proof: the abstract evaluator, its soundness, its runs: AeDefs, AeOps, AeEval -/
set_option linter.unusedSectionVars false
set_option linter.unusedSimpArgs false
set_option linter.unusedVariables false
set_option linter.unnecessarySimpa false
namespace Go.AE
/-- positive numbers in binary: the names of abstract objects and the places of temporaries -/
inductive Ix where
  | h
  | o (p : Ix)
  | i (p : Ix)
  deriving DecidableEq, Inhabited, Repr
def Ix.succ : Ix → Ix
  | .h => .o .h
  | .o p => .i p
  | .i p => .o p.succ
def Ix.toNat : Ix → Nat
  | .h => 1
  | .o p => 2 * p.toNat
  | .i p => 2 * p.toNat + 1
def Ix.ofNatF : Nat → Nat → Ix
  | 0, _ => .h
  | f + 1, n => if n ≤ 1 then .h else if n % 2 = 0 then .o (Ix.ofNatF f (n / 2)) else .i (Ix.ofNatF f (n / 2))
/-- the sum -/
def Ix.add : Ix → Ix → Ix
  | .h, q => q.succ
  | .o p, .h => .i p
  | .i p, .h => .o p.succ
  | .o p, .o q => .o (p.add q)
  | .o p, .i q => .i (p.add q)
  | .i p, .o q => .i (p.add q)
  | .i p, .i q => .o (p.add q).succ
/-- the place of temporary t -/
def Ix.ofTmp (t : Nat) : Ix := Ix.ofNatF (t + 1) (t + 1)

inductive Tr (α : Type) where
  | leaf
  | node (l : Tr α) (v : Option α) (r : Tr α)
  deriving Inhabited, Repr
def Tr.get {α : Type} : Tr α → Ix → Option α
  | .leaf, _ => none
  | .node _ v _, .h => v
  | .node l _ _, .o p => l.get p
  | .node _ _ r, .i p => r.get p
def Tr.set {α : Type} (x : α) : Tr α → Ix → Tr α
  | .leaf, .h => .node .leaf (some x) .leaf
  | .leaf, .o p => .node (Tr.set x .leaf p) none .leaf
  | .leaf, .i p => .node .leaf none (Tr.set x .leaf p)
  | .node l _ r, .h => .node l (some x) r
  | .node l v r, .o p => .node (Tr.set x l p) v r
  | .node l v r, .i p => .node l v (Tr.set x r p)
def Tr.del {α : Type} : Tr α → Ix → Tr α
  | .leaf, _ => .leaf
  | .node l _ r, .h => .node l none r
  | .node l v r, .o p => .node (l.del p) v r
  | .node l v r, .i p => .node l v (r.del p)

/-- a slice's capacity: known; or of an array that append has made: z cells an element -/
inductive Cap where
  | k (n : Nat)
  | g (z : Nat)
  deriving DecidableEq, Inhabited, Repr
inductive AV where
  | undef
  | bool (b : Bool)
  | int (k : IntKind) (n : Int)
  | str (l : List Nat)
  | ptr (a : Ix) (off : Nat)
  | nilptr
  | slice (a : Ix) (off len : Nat) (cap : Cap)
  | zslice
  | nilslice
  | map (a : Ix)
  | nilmap
  | func (f : Nat) (first captured : List AV)
  | yield (l : Ix)
  | nilfunc
  | iface (t : Nat) (v : AV)
  | niliface
  | agg (l : List AV)
  | tup (l : List AV)
  /-- an int that leaves k by m -/
  | cls (m k : Nat)
  deriving Inhabited, Repr

inductive Arg where
  | t (p : Ix)
  | c (v : AV)
  deriving Inhabited, Repr

inductive EqK where
  | b | p | i | s | m | f
  deriving DecidableEq, Inhabited, Repr
inductive IOp where
  | mov (x : Arg)
  | mos (x : Arg)
  | mop (x : Arg)
  | pick (c a b : Arg)
  | box (et : Nat) (x : Arg)
  | alloc (et : Nat) (z : List AV)
  | build (z : List AV) (ps : List (Nat × Nat × Arg))
  | bslice (et : Nat) (z : List AV) (len : Nat) (ps : List (Nat × Nat × Arg))
  | load (x : Arg)
  | loadn (n : Nat) (x : Arg)
  | store (x v : Arg)
  | storen (n : Nat) (x v : Arg)
  | nilck (x : Arg)
  | bin (op : BinOp) (x y : Arg)
  | eqv (k : EqK) (neg cst : Bool) (x y : Arg)
  | eqagg (ks : List EqK) (neg : Bool) (x y : Arg)
  | not (x : Arg)
  | neg (x : Arg)
  | bnot (x : Arg)
  | conv (k : IntKind) (x : Arg)
  | s2b (et : Nat) (x : Arg)
  | b2s (x : Arg)
  | i2s (x : Arg)
  | mkif (t : Nat) (x : Arg)
  | mkfn (f : Nat) (first captured : List Arg)
  | mkmap
  | mkslice (et : Nat) (z : List AV) (bytes : Nat) (len cap : Arg)
  | slstr (x : Arg) (lo hi : Option Arg)
  | slsl (esz : Nat) (x : Arg) (lo hi mx : Option Arg)
  | slarr (n esz : Nat) (x : Arg) (lo hi : Option Arg)
  | faddr (off : Nat) (x : Arg)
  | field (off : Nat) (n : Option Nat) (x : Arg)
  | iaddr (esz : Nat) (x i : Arg)
  | iaddra (n esz : Nat) (x i : Arg)
  | idxs (x i : Arg)
  | idxa (n esz : Nat) (agg : Bool) (x i : Arg)
  | lookup (kk : EqK) (zero : AV) (ok : Bool) (m k : Arg)
  | mupd (kk : EqK) (m k v : Arg)
  | mentry (kk : EqK) (zero : AV) (m k : Arg)
  | estore (m s v : Arg)
  | rangeS (x : Arg)
  | rangeM (x : Arg)
  | nexts (it : Arg)
  | nextm (it : Arg)
  | entry (it : Arg)
  | tassert (t : Nat) (zero : AV) (ok : Bool) (x : Arg)
  | extract (i : Nat) (x : Arg)
  | len (k : EqK) (x : Arg)
  | cap (x : Arg)
  | append (et esz : Nat) (s x : Arg)
  | copy (esz : Nat) (d s : Arg)
  | del (kk : EqK) (m k : Arg)
  | clearm (m : Arg)
  | maxmin (mx : Bool) (xs : List Arg)
  | call (f : Nat) (args : List Arg)
  | callv (x : Arg) (args : List Arg)
  | invoke (tbl : List (Nat × Nat)) (x : Arg) (args : List Arg)
  | ustr (et : Nat) (p n : Arg)
  | usd (x : Arg)
  | up2 (x : Arg)
  | p2u (u sz : Nat) (x : Arg)
  | bad (why : String)
  deriving Inhabited, Repr

structure IStep where
  d : Option Ix
  g : Option (Ix × Bool)
  op : IOp
  deriving Inhabited, Repr

/-- a step of a region that draws: the operation, and the loads that are looked at again behind it -/
structure DStep where
  s : IStep
  nm : Option Nat
  again : List (Ix × Option (Ix × Bool) × IOp)
  deriving Inhabited, Repr

inductive ICode where
  | skip
  | reg (l : List IStep)
  | draw (n : Nat) (l : List DStep)
  | seq (a b : ICode)
  | cond (c : Arg) (a b : ICode)
  | block (id : Nat) (b : ICode)
  | loop (b : ICode)
  | mloop (it : Arg) (nx more : Ix) (dead : List Ix) (b : ICode)
  | exit (id : Nat)
  | scope (b : ICode)
  | inscope (c b : ICode)
  | label (l : Nat)
  | goto (l : Nat)
  | ret
  | bad
  deriving Inhabited, Repr

inductive RVar where
  | t (p : Ix)
  | c (p : Ix) (n : Option Nat)
  deriving Inhabited, Repr

inductive AO where
  | cells (l : List AV) (et : Nat) (grown frz : Bool)
  | map (es : List (AV × AV × Nat)) (clock : Nat)
  | siter (s : List Nat) (pos : Nat)
  | miter (m : Ix) (since : Nat) (seen : List Nat) (last : Nat)
  | miternil
  | mitR (m : Ix) (born last : Nat)
  deriving Inhabited, Repr

inductive Ext where
  | clone
  | noesc
  | mknz (et : Nat)
  | idxb
  | cnt
  | cmps
  | sorted (i : Bool) (et : Nat) (keys : List Nat)
  | place
  | memo (gl : Ix) (l : List AV) (tbl : List (List Nat × Bool))
  | memg (gl : Ix) (l : List AV) (tbl : List (List Nat × AV × List AO))
  deriving Inhabited, Repr
inductive IFn where
  | go (np : Nat) (res : List RVar) (body : ICode)
  | ext (e : Ext)
  deriving Inhabited, Repr

abbrev TM := Tr AV
structure AW where
  cur : Tr AO
  olds : List (Tr AO)
  nx : Ix
  deriving Inhabited, Repr

def olds_get : List (Tr AO) → Ix → Option AO
  | [], _ => none
  | t :: ts, i => match t.get i with
    | some o => some o
    | none => olds_get ts i
def AW.get (A : AW) (i : Ix) : Option AO := match A.cur.get i with
  | some o => some o
  | none => olds_get A.olds i
def AW.put (A : AW) (i : Ix) (o : AO) : Option AW := match A.cur.get i with
  | some _ => some { A with cur := A.cur.set o i }
  | none => none
def AW.new (A : AW) (o : AO) : AW := { A with cur := A.cur.set o A.nx, nx := A.nx.succ }
def AW.drop (A : AW) (i : Ix) : Option AW := match A.cur.get i with
  | some _ => match olds_get A.olds i with
    | none => some { A with cur := A.cur.del i }
    | some _ => none
  | none => none

def Arg.ev (T : TM) : Arg → AV
  | .c v => v
  | .t p => match T.get p with
    | some v => v
    | none => .undef
end Go.AE
namespace Go.AE

def listGet {α : Type} : List α → Nat → Option α
  | [], _ => none
  | x :: _, 0 => some x
  | _ :: l, n + 1 => listGet l n
def listSet {α : Type} : List α → Nat → α → List α
  | [], _, _ => []
  | _ :: l, 0, y => y :: l
  | x :: l, n + 1, y => x :: listSet l n y
def listDrop {α : Type} : Nat → List α → List α
  | 0, l => l
  | _ + 1, [] => []
  | n + 1, _ :: l => listDrop n l
/-- the first n, if there are so many -/
def takeN {α : Type} : Nat → List α → Option (List α)
  | 0, _ => some []
  | _ + 1, [] => none
  | n + 1, x :: l => match takeN n l with
    | some r => some (x :: r)
    | none => none
/-- l with ys written from place n on, if there is room -/
def putFrom {α : Type} : List α → Nat → List α → Option (List α)
  | l, _, [] => some l
  | [], _, _ :: _ => none
  | _ :: l, 0, y :: ys => match putFrom l 0 ys with
    | some r => some (y :: r)
    | none => none
  | x :: l, n + 1, y :: ys => match putFrom l n (y :: ys) with
    | some r => some (x :: r)
    | none => none
def repl {α : Type} : Nat → List α → List α
  | 0, _ => []
  | n + 1, l => l ++ repl n l

/-- is nothing known of it? -/
def AV.isU : AV → Bool
  | .undef => true
  | _ => false
def AV.cells : AV → List AV
  | .agg l => l
  | v => [v]
/-- is a value one that fits one cell? -/
def AV.one : AV → Bool
  | .agg _ | .tup _ | .undef => false
  | _ => true

def placeParts (T : TM) : List AV → List (Nat × Nat × Arg) → Option (List AV)
  | z, [] => some z
  | z, (off, n, x) :: ps =>
    let cs := (x.ev T).cells
    if (x.ev T).isU then none else
    if cs.length = n ∧ n ≠ 0 then match putFrom z off cs with
      | some z' => placeParts T z' ps
      | none => none
    else none

def bytesEq : List Nat → List Nat → Bool
  | [], [] => true
  | a :: x, b :: y => if Nat.beq a b then bytesEq x y else false
  | _, _ => false
def bytesLt : List Nat → List Nat → Bool
  | _, [] => false
  | [], _ :: _ => true
  | a :: x, b :: y => if Nat.blt a b then true else if Nat.beq a b then bytesLt x y else false

def intBin (op : BinOp) (k : IntKind) (x y : Int) : Option AV :=
  match op with
  | .add => some (.int k (k.wrap (x + y)))
  | .sub => some (.int k (k.wrap (x - y)))
  | .mul => some (.int k (k.wrap (x * y)))
  | .quo => if y = 0 then none else some (.int k (k.wrap (x.tdiv y)))
  | .rem => if y = 0 then none else some (.int k (x.tmod y))
  | .and => some (.int k (k.wrap (BitVec.ofInt k.bits x &&& BitVec.ofInt k.bits y).toNat))
  | .or => some (.int k (k.wrap (BitVec.ofInt k.bits x ||| BitVec.ofInt k.bits y).toNat))
  | .xor => some (.int k (k.wrap (BitVec.ofInt k.bits x ^^^ BitVec.ofInt k.bits y).toNat))
  | .andNot => some (.int k (k.wrap (BitVec.ofInt k.bits x &&& ~~~ BitVec.ofInt k.bits y).toNat))
  | .shl => if y < 0 then none else some (.int k (k.wrap (x * 2 ^ (min y.toNat k.bits))))
  | .shr => if y < 0 then none else some (.int k (x.fdiv (2 ^ (min y.toNat k.bits))))
  | .eql => some (.bool (x == y))
  | .neq => some (.bool (x != y))
  | .lss => some (.bool (x < y))
  | .leq => some (.bool (x ≤ y))
  | .gtr => some (.bool (x > y))
  | .geq => some (.bool (x ≥ y))
def isShift : BinOp → Bool
  | .shl | .shr => true
  | _ => false
def strBin (op : BinOp) (x y : List Nat) : Option AV :=
  match op with
  | .add => if Nat.ble (x.length + y.length) (2 ^ 60) then some (.str (x ++ y)) else none
  | .eql => some (.bool (bytesEq x y))
  | .neq => some (.bool (!bytesEq x y))
  | .lss => some (.bool (bytesLt x y))
  | .leq => some (.bool (bytesLt x y || bytesEq x y))
  | .gtr => some (.bool (!(bytesLt x y || bytesEq x y)))
  | .geq => some (.bool (!bytesLt x y))
  | _ => none
def eqV : EqK → Bool → AV → AV → Option Bool
  | .b, _, .bool a, .bool b => some (a == b)
  | .p, _, .nilptr, .nilptr => some true
  | .p, _, .nilptr, .ptr _ _ => some false
  | .p, _, .ptr _ _, .nilptr => some false
  | .p, _, .ptr a i, .ptr b j => if a = b then some (Nat.beq i j) else none
  | .i, c, .niliface, .niliface => if c then some true else none
  | .i, _, .niliface, .iface _ _ => some false
  | .i, _, .iface _ _, .niliface => some false
  | .s, _, .nilslice, .nilslice => some true
  | .s, _, .nilslice, .slice _ _ _ _ => some false
  | .s, _, .slice _ _ _ _, .nilslice => some false
  | .s, _, .nilslice, .zslice => some false
  | .s, _, .zslice, .nilslice => some false
  | .m, _, .nilmap, .nilmap => some true
  | .m, _, .nilmap, .map _ => some false
  | .m, _, .map _, .nilmap => some false
  | .f, _, .nilfunc, .nilfunc => some true
  | .f, _, .nilfunc, .func _ _ _ => some false
  | .f, _, .func _ _ _, .nilfunc => some false
  | _, _, _, _ => none

/-- one cell against another: whole numbers (.i), texts (.s), truths (.b) -/
def cellEq : EqK → AV → AV → Option Bool
  | .i, .int j a, .int k b => if j = k then some (a == b) else none
  | .s, .str a, .str b => some (bytesEq a b)
  | .b, .bool a, .bool b => some (a == b)
  | _, _, _ => none
def cellsEq : List EqK → List AV → List AV → Option Bool
  | [], [], [] => some true
  | k :: ks, a :: x, b :: y => match cellEq k a b with
    | some true => cellsEq ks x y
    | some false => if x.length = ks.length ∧ y.length = ks.length then some false else none
    | none => none
  | _, _, _ => none
/-- the place of a key among a map's entries: none: the keys cannot be held against it -/
def findKey (kk : EqK) (k : AV) : List (AV × AV × Nat) → Nat → Option (Option (Nat × AV × Nat))
  | [], _ => some none
  | (k', v, b) :: es, i => match cellEq kk k k' with
    | some true => some (some (i, v, b))
    | some false => findKey kk k es (i + 1)
    | none => none
def delAt {α : Type} : List α → Nat → List α
  | [], _ => []
  | _ :: l, 0 => l
  | x :: l, n + 1 => x :: delAt l n
def unseen (seen : List Nat) : List (AV × AV × Nat) → List (AV × AV × Nat)
  | [] => []
  | (k, v, b) :: es => if seen.contains b then unseen seen es else (k, v, b) :: unseen seen es
def findBorn (b : Nat) : List (AV × AV × Nat) → Option (AV × AV)
  | [] => none
  | (k, v, b') :: es => if Nat.beq b b' then some (k, v) else findBorn b es
def setBorn (b : Nat) (x : AV) : List (AV × AV × Nat) → Option (List (AV × AV × Nat))
  | [] => none
  | (k, v, b') :: es => if Nat.beq b b' then some ((k, x, b') :: es) else match setBorn b x es with
    | some r => some ((k, v, b') :: r)
    | none => none

/-- a bound of a slice: none: it is out of range -/
def bnd (y : Nat) : AV → Option Nat
  | .int _ n => match n with
    | .ofNat m => if Nat.ble m y then some m else none
    | .negSucc _ => none
  | _ => none
def bndO (T : TM) (y dflt : Nat) : Option Arg → Option Nat
  | none => some dflt
  | some x => bnd y (x.ev T)

/-- the bytes of a list of byte cells -/
def toBytes : List AV → Option (List Nat)
  | [] => some []
  | .int .u8 (.ofNat n) :: l => match toBytes l with
    | some r => if Nat.blt n 256 then some (n :: r) else none
    | none => none
  | _ => none
def ofBytes : List Nat → List AV
  | [] => []
  | n :: l => .int .u8 (.ofNat n) :: ofBytes l

def allOne : List AV → Bool
  | [] => true
  | v :: l => if v.one then allOne l else false
/-- what append and copy take their elements from: the cells, how many elements -/
def srcOf (A : AW) (esz : Nat) (x : AV) : Option (List AV × Nat) :=
  match x with
  | .nilslice => some ([], 0)
  | .zslice => some ([], 0)
  | .str l => if Nat.beq esz 1 then some (ofBytes l, l.length) else none
  | .slice a off len _ => match A.get a with
    | some (.cells l _ _ _) => match takeN (len * esz) (listDrop off l) with
      | some c => some (c, len)
      | none => none
    | _ => none
  | _ => none
def appendTo (A : AW) (et esz : Nat) (s : AV) (new : List AV) (n : Nat) : Option (AV × AW) :=
  match s with
  | .nilslice => if Nat.beq n 0 then some (.nilslice, A) else if Nat.ble n (2 ^ 30) then some (.slice A.nx 0 n (.g esz), A.new (.cells new et true false)) else none
  | .slice a off len cap =>
    if Nat.beq n 0 then
      match cap with
      | .k c => if Nat.ble len c then some (s, A) else none
      | .g _ => some (s, A)
    else if Nat.ble (len + n) (2 ^ 30) then
      match A.get a with
      | some (.cells l et' grown frz) =>
        match cap with
        | .k c =>
          if Nat.ble (len + n) c then
            if frz then none else
            if allOne new then
              match putFrom l (off + len * esz) new with
              | some l' => match A.put a (.cells l' et' grown frz) with
                | some A' => some (.slice a off (len + n) cap, A')
                | none => none
              | none => none
            else none
          else match takeN (len * esz) (listDrop off l) with
            | some old => some (.slice A.nx 0 (len + n) (.g esz), A.new (.cells (old ++ new) et true false))
            | none => none
        | .g z =>
          if frz then none else
          if grown && Nat.beq z esz && Nat.beq et et' && allOne new then
            match takeN (len * esz) (listDrop off l) with
            | some old => match A.drop a with
              | some A' => some (.slice A'.nx 0 (len + n) (.g esz), A'.new (.cells (old ++ new) et true false))
              | none => none
            | none => none
          else none
      | _ => none
    else none
  | _ => none
def capOr (c : Cap) (len : Nat) : Nat := match c with
  | .k c => c
  | .g _ => len
/-- an operation that calls nothing -/
def iop (T : TM) (A : AW) : IOp → Option (AV × AW)
  | .mov x => some (x.ev T, A)
  | .mos x => match x.ev T with
    | .str l => some (.str l, A)
    | _ => none
  | .mop x => match x.ev T with
    | .nilptr => some (.nilptr, A)
    | .ptr a off => some (.ptr a off, A)
    | _ => none
  | .pick c a b => match c.ev T with
    | .bool true => some (a.ev T, A)
    | .bool false => some (b.ev T, A)
    | _ => none
  | .box et x => if (x.ev T).isU then none else some (.ptr A.nx 0, A.new (.cells (x.ev T).cells et false false))
  | .alloc et z => some (.ptr A.nx 0, A.new (.cells z et false false))
  | .build z ps => match placeParts T z ps with
    | some l => some (.agg l, A)
    | none => none
  | .bslice et z len ps => match placeParts T z ps with
    | some l => some (.slice A.nx 0 len (.k len), A.new (.cells l et false false))
    | none => none
  | .load x => match x.ev T with
    | .ptr a off => match A.get a with
      | some (.cells l _ _ _) => match listGet l off with
        | some v => some (v, A)
        | none => none
      | _ => none
    | _ => none
  | .loadn n x => match x.ev T with
    | .ptr a off => match A.get a with
      | some (.cells l _ _ _) => match takeN n (listDrop off l) with
        | some vs => some (.agg vs, A)
        | none => none
      | _ => none
    | _ => none
  | .store x v => match x.ev T with
    | .ptr a off => match A.get a with
      | some (.cells l et g frz) =>
        if frz then none else
        let y := v.ev T
        if y.one then
          match listGet l off with
          | some _ => match A.put a (.cells (listSet l off y) et g frz) with
            | some A' => some (.undef, A')
            | none => none
          | none => none
        else none
      | _ => none
    | _ => none
  | .storen n x v => match x.ev T with
    | .ptr a off => match A.get a with
      | some (.cells l et g frz) =>
        if frz then none else
        match v.ev T with
        | .agg vs =>
          if vs.length = n ∧ allOne vs = true then
            match putFrom l off vs with
            | some l' => match A.put a (.cells l' et g frz) with
              | some A' => some (.undef, A')
              | none => none
            | none => none
          else none
        | _ => none
      | _ => none
    | _ => none
  | .nilck x => match x.ev T with
    | .ptr a off => some (.ptr a off, A)
    | .func f a c => some (.func f a c, A)
    | .yield l => some (.yield l, A)
    | .iface t v => some (.iface t v, A)
    | _ => none
  | .bin op x y => match x.ev T, y.ev T with
    | .int k a, .int k' b =>
      if isShift op || decide (k = k') then match intBin op k a b with
        | some v => some (v, A)
        | none => none
      else none
    | .str a, .str b => match strBin op a b with
      | some v => some (v, A)
      | none => none
    | _, _ => none
  | .eqv k neg cst x y => match eqV k cst (x.ev T) (y.ev T) with
    | some b => some (.bool (if neg then !b else b), A)
    | none => none
  | .eqagg ks neg x y => match x.ev T, y.ev T with
    | .agg a, .agg b => match cellsEq ks a b with
      | some b => some (.bool (if neg then !b else b), A)
      | none => none
    | _, _ => none
  | .not x => match x.ev T with
    | .bool b => some (.bool (!b), A)
    | _ => none
  | .neg x => match x.ev T with
    | .int k n => some (.int k (k.wrap (0 - n)), A)
    | _ => none
  | .bnot x => match x.ev T with
    | .int k n => match intBin .xor k (if k.signed then -1 else k.max) n with
      | some v => some (v, A)
      | none => none
    | _ => none
  | .conv k x => match x.ev T with
    | .int _ n => some (.int k (k.wrap n), A)
    | _ => none
  | .s2b et x => match x.ev T with
    | .str l => some (.slice A.nx 0 l.length (.g 1), A.new (.cells (ofBytes l) et true false))
    | _ => none
  | .b2s x => match x.ev T with
    | .nilslice => some (.str [], A)
    | .zslice => some (.str [], A)
    | .slice a off len _ => match A.get a with
      | some (.cells l _ _ _) => match takeN len (listDrop off l) with
        | some vs => match toBytes vs with
          | some bs => some (.str bs, A)
          | none => none
        | none => none
      | _ => none
    | _ => none
  | .i2s x => match x.ev T with
    | .int _ (.ofNat n) => if Nat.blt n 0x80 then some (.str [n], A) else none
    | _ => none
  | .mkif t x => some (.iface t (x.ev T), A)
  | .mkfn f first captured => some (.func f (first.map (Arg.ev T)) (captured.map (Arg.ev T)), A)
  | .mkmap => some (.map A.nx, A.new (.map [] 0))
  | .mkslice et z bytes len cap => match len.ev T, cap.ev T with
    | .int _ (.ofNat n), .int _ (.ofNat c) =>
      if Nat.ble n c && Nat.ble c (2 ^ 30) && Nat.ble bytes (2 ^ 17) then some (.slice A.nx 0 n (.k c), A.new (.cells (repl c z) et false false)) else none
    | _, _ => none
  | .slstr x lo hi => match x.ev T with
    | .str s => match bndO T s.length s.length hi with
      | some h => match bndO T h 0 lo with
        | some l => match takeN (h - l) (listDrop l s) with
          | some r => some (.str r, A)
          | none => none
        | none => none
      | none => none
    | _ => none
  | .slsl esz x lo hi mx => match x.ev T with
    | .nilslice => match bndO T 0 0 mx, bndO T 0 0 hi, bndO T 0 0 lo with
      | some _, some _, some _ => some (.nilslice, A)
      | _, _, _ => none
    | .slice a off len cap =>
      match mx, cap with
      | none, .k c => match bndO T c len hi with
        | some h => match bndO T h 0 lo with
          | some l => if Nat.beq l c then (if Nat.beq h l then some (.zslice, A) else none) else some (.slice a (off + l * esz) (h - l) (.k (c - l)), A)
          | none => none
        | none => none
      | none, .g z => if Nat.beq z esz then match bndO T len len hi with
        | some h => match bndO T h 0 lo with
          | some l => if Nat.beq l 0 then some (.slice a off h cap, A) else if Nat.beq l len then some (.zslice, A) else some (.slice a (off + l * esz) (h - l) cap, A)
          | none => none
        | none => none
        else none
      | some m, cap => match bndO T (capOr cap len) 0 (some m) with
        | some m => match bndO T m len hi with
          | some h => match bndO T h 0 lo with
            | some l => if Nat.beq l m then some (.zslice, A) else some (.slice a (off + l * esz) (h - l) (.k (m - l)), A)
            | none => none
          | none => none
        | none => none
    | .zslice => match mx, bndO T 0 0 hi, bndO T 0 0 lo with
      | none, some _, some _ => some (.zslice, A)
      | _, _, _ => none
    | _ => none
  | .slarr n esz x lo hi => match x.ev T with
    | .ptr a off => match bndO T n n hi with
      | some h => match bndO T h 0 lo with
        | some l => if Nat.beq l n then some (.zslice, A) else some (.slice a (off + l * esz) (h - l) (.k (n - l)), A)
        | none => none
      | none => none
    | _ => none
  | .faddr d x => match x.ev T with
    | .ptr a off => some (.ptr a (off + d), A)
    | _ => none
  | .field off n x => match x.ev T with
    | .agg cs => match n with
      | some k => match takeN k (listDrop off cs) with
        | some vs => some (.agg vs, A)
        | none => none
      | none => match listGet cs off with
        | some v => some (v, A)
        | none => none
    | _ => none
  | .iaddr esz x i => match x.ev T, i.ev T with
    | .slice a off len _, .int _ (.ofNat n) => if Nat.blt n len then some (.ptr a (off + n * esz), A) else none
    | _, _ => none
  | .iaddra n esz x i => match x.ev T, i.ev T with
    | .ptr a off, .int _ (.ofNat k) => if Nat.blt k n then some (.ptr a (off + k * esz), A) else none
    | _, _ => none
  | .idxs x i => match x.ev T, i.ev T with
    | .str s, .int _ (.ofNat n) => match listGet s n with
      | some b => some (.int .u8 (.ofNat b), A)
      | none => none
    | _, _ => none
  | .idxa n esz agg x i => match x.ev T, i.ev T with
    | .agg cs, .int _ (.ofNat k) =>
      if Nat.blt k n then
        if agg then match takeN esz (listDrop (k * esz) cs) with
          | some vs => some (.agg vs, A)
          | none => none
        else match listGet cs (k * esz) with
          | some v => some (v, A)
          | none => none
      else none
    | _, _ => none
  | .lookup kk zero ok m k => match m.ev T with
    | .nilmap => some (if ok then .tup [zero, .bool false] else zero, A)
    | .map a => match A.get a with
      | some (.map es _) => match findKey kk (k.ev T) es 0 with
        | some (some (_, v, _)) => some (if ok then .tup [v, .bool true] else v, A)
        | some none => some (if ok then .tup [zero, .bool false] else zero, A)
        | none => none
      | _ => none
    | _ => none
  | .mupd kk m k v => match m.ev T with
    | .map a => match A.get a with
      | some (.map es clock) => match findKey kk (k.ev T) es 0 with
        | some (some (i, _, b)) => match A.put a (.map (listSet es i (k.ev T, v.ev T, b)) clock) with
          | some A' => some (.undef, A')
          | none => none
        | some none => match A.put a (.map (es ++ [(k.ev T, v.ev T, clock)]) (clock + 1)) with
          | some A' => some (.undef, A')
          | none => none
        | none => none
      | _ => none
    | _ => none
  | .mentry kk zero m k => match m.ev T with
    | .map a => match A.get a with
      | some (.map es clock) => match findKey kk (k.ev T) es 0 with
        | some (some (i, v, b)) => match A.put a (.map (listSet es i (k.ev T, v, b)) clock) with
          | some A' => some (.tup [v, .int .i64 (.ofNat b)], A')
          | none => none
        | some none => match A.put a (.map (es ++ [(k.ev T, zero, clock)]) (clock + 1)) with
          | some A' => some (.tup [zero, .int .i64 (.ofNat clock)], A')
          | none => none
        | none => none
      | _ => none
    | _ => none
  | .estore m s v => match m.ev T, s.ev T with
    | .map a, .int _ (.ofNat b) => match A.get a with
      | some (.map es clock) => match setBorn b (v.ev T) es with
        | some es' => match A.put a (.map es' clock) with
          | some A' => some (.undef, A')
          | none => none
        | none => none
      | _ => none
    | _, _ => none
  | .rangeS x => match x.ev T with
    | .str s => some (.ptr A.nx 0, A.new (.siter s 0))
    | _ => none
  | .rangeM x => match x.ev T with
    | .nilmap => some (.ptr A.nx 0, A.new .miternil)
    | .map a => match A.get a with
      | some (.map _ clock) => some (.ptr A.nx 0, A.new (.miter a clock [] clock))
      | _ => none
    | _ => none
  | .nexts it => match it.ev T with
    | .ptr a 0 => match A.get a with
      | some (.siter s pos) => match s with
        | [] => some (.tup [.bool false], A)
        | b :: rest =>
          if Nat.blt b 0x80 then
            match A.put a (.siter rest (pos + 1)) with
            | some A' => some (.tup [.bool true, .int .i64 (.ofNat pos), .int .i32 (.ofNat b)], A')
            | none => none
          else none
      | _ => none
    | _ => none
  | .nextm it => match it.ev T with
    | .ptr a 0 => match A.get a with
      | some .miternil => some (.tup [.bool false], A)
      | some (.miter m since seen last) => match A.get m with
        | some (.map es clock) =>
          if Nat.beq since clock && Nat.beq last clock then
            match unseen seen es with
            | [] => some (.tup [.bool false], A)
            | [(k, v, b)] => match A.put a (.miter m since (seen ++ [b]) clock) with
              | some A' => some (.tup [.bool true, k, v], A')
              | none => none
            | _ => none
          else none
        | _ => none
      | _ => none
    | _ => none
  | .entry it => match it.ev T with
    | .ptr a 0 => match A.get a with
      | some (.miter m _ seen last) => match seen.getLast?, A.get m with
        | some b, some (.map es clock) =>
          if Nat.beq last clock then
            match findBorn b es with
            | some (k, v) => some (.tup [k, v], A)
            | none => none
          else none
        | _, _ => none
      | some (.mitR m b last) => match A.get m with
        | some (.map es clock) =>
          if Nat.beq last clock then
            match findBorn b es with
            | some (k, v) => some (.tup [k, v], A)
            | none => none
          else none
        | _ => none
      | _ => none
    | _ => none
  | .tassert t zero ok x => match x.ev T with
    | .niliface => if ok then some (.tup [zero, .bool false], A) else none
    | .iface u v => if Nat.beq u t then some (if ok then .tup [v, .bool true] else v, A) else if ok then some (.tup [zero, .bool false], A) else none
    | _ => none
  | .extract i x => match x.ev T with
    | .tup vs => match listGet vs i with
      | some v => some (v, A)
      | none => none
    | _ => none
  | .len q x => match q, x.ev T with
    | .b, .str s => some (.int .i64 (.ofNat s.length), A)
    | .s, .slice _ _ n _ => some (.int .i64 (.ofNat n), A)
    | .s, .zslice => some (.int .i64 (.ofNat 0), A)
    | .s, .nilslice => some (.int .i64 (.ofNat 0), A)
    | .m, .nilmap => some (.int .i64 (.ofNat 0), A)
    | .m, .map a => match A.get a with
      | some (.map es _) => some (.int .i64 (.ofNat es.length), A)
      | _ => none
    | _, _ => none
  | .cap x => match x.ev T with
    | .slice _ _ _ (.k c) => some (.int .i64 (.ofNat c), A)
    | .nilslice => some (.int .i64 (.ofNat 0), A)
    | _ => none
  | .append et esz s x => match srcOf A esz (x.ev T) with
    | some (new, n) => appendTo A et esz (s.ev T) new n
    | none => none
  | .copy esz d s => match srcOf A esz (s.ev T) with
    | none => none
    | some (cs, n) => match d.ev T with
      | .nilslice => some (.int .i64 (.ofNat 0), A)
      | .zslice => some (.int .i64 (.ofNat 0), A)
      | .slice a off len _ =>
        let k := Nat.min n len
        if Nat.beq k 0 then some (.int .i64 (.ofNat 0), A) else
        match A.get a with
        | some (.cells l et g frz) =>
          if frz then none else
          match takeN (k * esz) cs with
          | some c => if allOne c then match putFrom l off c with
            | some l' => match A.put a (.cells l' et g frz) with
              | some A' => some (.int .i64 (.ofNat k), A')
              | none => none
            | none => none
            else none
          | none => none
        | _ => none
      | _ => none
  | .del kk m k => match m.ev T with
    | .nilmap => some (.tup [], A)
    | .map a => match A.get a with
      | some (.map es clock) => match findKey kk (k.ev T) es 0 with
        | some (some (i, _, _)) => match A.put a (.map (delAt es i) clock) with
          | some A' => some (.tup [], A')
          | none => none
        | some none => match A.put a (.map es clock) with
          | some A' => some (.tup [], A')
          | none => none
        | none => none
      | _ => none
    | _ => none
  | .clearm m => match m.ev T with
    | .nilmap => some (.tup [], A)
    | .map a => match A.get a with
      | some (.map _ clock) => match A.put a (.map [] clock) with
        | some A' => some (.tup [], A')
        | none => none
      | _ => none
    | _ => none
  | .maxmin mx xs => match xs.map (Arg.ev T) with
    | [AV.int k a, AV.int _ b] => some (.int k (if mx then (if b > a then b else a) else (if b < a then b else a)), A)
    | _ => none
  | .ustr et p n => match p.ev T, n.ev T with
    | .nilptr, .int _ (.ofNat 0) => some (.str [], A)
    | .ptr _ _, .int _ (.ofNat 0) => some (.str [], A)
    | .ptr a off, .int _ (.ofNat (k + 1)) => match A.get a with
      | some (.cells l et' g frz) =>
        if !g && frz then none else
        if Nat.beq et et' && Nat.ble (k + 1) (2 ^ 60) then
          match takeN (k + 1) (listDrop off l) with
          | some vs => match toBytes vs with
            | some bs => match A.put a (.cells l et' g true) with
              | some A' => some (.str bs, A')
              | none => none
            | none => none
          | none => none
        else none
      | _ => none
    | _, _ => none
  | .usd x => match x.ev T with
    | .nilslice => some (.nilptr, A)
    | .slice a off (_ + 1) (.g _) => some (.ptr a off, A)
    | .slice a off _ (.k (_ + 1)) => some (.ptr a off, A)
    | _ => none
  | .up2 x => match x.ev T with
    | .nilptr => some (.nilptr, A)
    | .ptr a off => match A.get a with
      | some (.cells l _ _ _) => if Nat.blt off l.length then some (.ptr a off, A) else none
      | _ => none
    | _ => none
  | .p2u u sz x => match x.ev T with
    | .nilptr => some (.nilptr, A)
    | .ptr a 0 => match A.get a with
      | some (.cells l et false _) => if Nat.beq et u && Nat.ble sz l.length then some (.ptr a 0, A) else none
      | _ => none
    | _ => none
  | .call .. | .callv .. | .invoke .. | .bad _ => none
end Go.AE
namespace Go.AE
inductive AX where
  | normal
  | exit (id : Nat)
  | goto (l : Nat)
  | ret
  deriving Inhabited, Repr, DecidableEq

/-- where a run of code comes out: how, the temporaries, the world -/
structure AR where
  x : AX
  T : TM
  A : AW
  deriving Inhabited

def addIx : Nat → Ix → Ix
  | 0, i => i
  | n + 1, i => (addIx n i).succ
def enterT : Nat → List AV → TM → TM
  | _, [], T => T
  | n, v :: vs, T => enterT (n + 1) vs (T.set v (Ix.ofTmp n))
def forget : List Ix → TM → TM
  | [], T => T
  | p :: ps, T => forget ps (T.set .undef p)
def putD (T : TM) (d : Option Ix) (v : AV) : TM := match d with
  | none => T
  | some p => T.set v p
def wantedS (T : TM) : Option (Ix × Bool) → Option Bool
  | none => some true
  | some (p, w) => match T.get p with
    | some (.bool b) => some (b == w)
    | some (.tup _) => some false
    | _ => none
def loadResult (A : AW) (T : TM) : RVar → Option AV
  | .t p => some (match T.get p with | some v => v | none => .undef)
  | .c p n => match T.get p with
    | some (.ptr a off) => match A.get a with
      | some (.cells l _ _ _) => match n with
        | none => listGet l off
        | some k => match takeN k (listDrop off l) with
          | some vs => some (.agg vs)
          | none => none
      | _ => none
    | _ => none
def loadResults (A : AW) (T : TM) : List RVar → Option (List AV)
  | [] => some []
  | r :: rs => match loadResult A T r with
    | some v => match loadResults A T rs with
      | some vs => some (v :: vs)
      | none => none
    | none => none
def resultOf : List AV → AV
  | [] => .undef
  | [v] => v
  | vs => .tup vs
def idxByte (c : Nat) : List Nat → Nat → Int
  | [], _ => -1
  | b :: l, i => if Nat.beq b c then .ofNat i else idxByte c l (i + 1)
def cntByte (c : Nat) : List Nat → Nat
  | [] => 0
  | b :: l => if Nat.beq b c then cntByte c l + 1 else cntByte c l
/-- the texts of a map's keys -/
def strKeys : List (AV × AV × Nat) → Option (List (List Nat))
  | [] => some []
  | (.str s, _, _) :: es => match strKeys es with
    | some r => some (s :: r)
    | none => none
  | _ => none
def insS (x : List Nat) : List (List Nat) → List (List Nat)
  | [] => [x]
  | y :: l => if bytesLt y x then y :: insS x l else x :: y :: l
def sortS : List (List Nat) → List (List Nat)
  | [] => []
  | x :: l => insS x (sortS l)
def intKeys : List (AV × AV × Nat) → Option (List Int)
  | [] => some []
  | (.int .i64 n, _, _) :: es => match intKeys es with
    | some r => some (n :: r)
    | none => none
  | _ => none
def insI (x : Int) : List Int → List Int
  | [] => [x]
  | y :: l => if y < x then y :: insI x l else x :: y :: l
def sortI : List Int → List Int
  | [] => []
  | x :: l => insI x (sortI l)
/-- each is less than the next -/
def upS : List (List Nat) → Bool
  | x :: y :: l => bytesLt x y && upS (y :: l)
  | _ => true
def upI : List Int → Bool
  | x :: y :: l => decide (x < y) && upI (y :: l)
  | _ => true
def shortS : List (List Nat) → Bool
  | [] => true
  | x :: l => Nat.ble x.length 1000000 && shortS l
def inI : List Int → Bool
  | [] => true
  | x :: l => decide (-9223372036854775808 ≤ x) && decide (x ≤ 9223372036854775807) && inI l
def sortedKeys (i : Bool) (es : List (AV × AV × Nat)) : Option (List AV) :=
  if Nat.ble es.length 1000000 then
    if i then (match intKeys es with
      | some l => if upI (sortI l) && inI l then some ((sortI l).map (AV.int .i64)) else none
      | none => none)
    else match strKeys es with
      | some l => if upS (sortS l) && shortS l then some ((sortS l).map AV.str) else none
      | none => none
  else none
def bornsOk : List (AV × AV × Nat) → Bool
  | [] => true
  | (_, _, b) :: l => if l.all (fun e => !(Nat.beq e.2.2 b)) then bornsOk l else false
/-- a byte, and one; else 0 -/
def u8N (v : AV) : Nat := match v with
  | .int k n => match k with
    | .u8 => match n with
      | .ofNat m => m + 1
      | _ => 0
    | _ => 0
  | _ => 0
/-- the same bytes? -/
def u8Eq : List AV → List AV → Bool
  | [], l => l.isEmpty
  | a :: x, l => match l with
    | [] => false
    | b :: y => if Nat.beq (u8N a) (u8N b) then (if Nat.blt 0 (u8N a) then u8Eq x y else false) else false
def memoFind : List (List Nat × Bool) → List Nat → Option Bool
  | [], _ => none
  | p :: l, s => if bytesEq p.1 s then some p.2 else memoFind l s
def memoRun (gl : Ix) (l : List AV) (tbl : List (List Nat × Bool)) (s : List Nat) (A : AW) : Option (AV × AW) :=
  match A.get gl with
  | some (.cells l' _ false true) => if u8Eq l l' then match memoFind tbl s with
    | some b => some (.bool b, A)
    | none => none
    else none
  | _ => none
/-! what a function made, under other names -/
mutual
def mapV (r : Ix → Ix) : AV → AV
  | .ptr a off => .ptr (r a) off
  | .slice a off len c => .slice (r a) off len c
  | .map a => .map (r a)
  | .yield a => .yield (r a)
  | .func f x y => .func f (mapVs r x) (mapVs r y)
  | .iface t v => .iface t (mapV r v)
  | .agg l => .agg (mapVs r l)
  | .tup l => .tup (mapVs r l)
  | v => v
def mapVs (r : Ix → Ix) : List AV → List AV
  | [] => []
  | x :: l => mapV r x :: mapVs r l
end
def mapO (r : Ix → Ix) : AO → AO
  | .cells l et g z => .cells (mapVs r l) et g z
  | o => o
def putAll (b : Ix) : List AO → Ix → AW → AW
  | [], _, A => A
  | o :: l, r, A => putAll b l r.succ { A with cur := A.cur.set (mapO (Ix.add b) o) (Ix.add b r) }
def cntIx : List AO → Ix
  | [] => .h
  | _ :: l => (cntIx l).succ
def memgFind : List (List Nat × AV × List AO) → List Nat → Option (AV × List AO)
  | [], _ => none
  | p :: l, s => if bytesEq p.1 s then some p.2 else memgFind l s
def memgRun (gl : Ix) (l : List AV) (tbl : List (List Nat × AV × List AO)) (s : List Nat) (A : AW) : Option (AV × AW) :=
  match A.get gl with
  | some (.cells l' _ false true) => if u8Eq l l' then match memgFind tbl s with
    | some (v, os) => some (mapV (Ix.add A.nx) v, { putAll A.nx os .h A with nx := Ix.add A.nx (cntIx os) })
    | none => none
    else none
  | _ => none
def extRun (e : Ext) (args : List AV) (A : AW) : Option (AV × AW) :=
  match e, args with
  | .clone, [.iface t (.map a)] => match A.get a with
    | some (.map es clock) => some (.iface t (.map A.nx), A.new (.map es clock))
    | _ => none
  | .noesc, [x] => some (x, A)
  | .mknz et, [.int .i64 (.ofNat n)] => if Nat.ble n (2 ^ 30) then some (.slice A.nx 0 n (.g 1), A.new (.cells [] et true false)) else none
  | .idxb, [.str s, .int .u8 (.ofNat c)] => if Nat.ble c 255 then some (.int .i64 (idxByte c s 0), A) else none
  | .cnt, [.str s, .int .u8 (.ofNat c)] => if Nat.ble c 255 then some (.int .i64 (.ofNat (cntByte c s)), A) else none
  | .place, [.cls m k, .int .i64 (.ofNat (d + 1))] => if Nat.beq (m % (d + 1)) 0 then (if Nat.ble d 1000000 then some (.int .i64 (.ofNat (k % (d + 1))), A) else none) else none
  | .memo gl l tbl, [.str s] => memoRun gl l tbl s A
  | .memg gl l tbl, [.str s] => memgRun gl l tbl s A
  | .place, [.int .i64 z, .int .i64 (.ofNat (d + 1))] => if Nat.ble d 1000000 then some (.int .i64 (z % (.ofNat (d + 1))), A) else none
  | .cmps, [.str a, .str b] => some (.int .i64 (if bytesLt a b then -1 else if bytesEq a b then 0 else 1), A)
  | .sorted i et ks, [.func g [] [.ptr c 0]] =>
    if ks.contains g then match A.get c with
      | some (.cells (.map m :: _) _ false _) => match A.get m with
        | some (.map es _) => if bornsOk es then match sortedKeys i es with
          | some [] => some (.nilslice, A)
          | some l => some (.slice A.nx 0 l.length (.g 1), A.new (.cells l et true false))
          | none => none
          else none
        | _ => none
      | _ => none
    else none
  | _, _ => none
def tblFind : List (Nat × Nat) → Nat → Option Nat
  | [], _ => none
  | (t, f) :: l, u => if Nat.beq t u then some f else tblFind l u
/-- the same plain value? -/
def avEq : AV → AV → Bool
  | .bool a, .bool b => a == b
  | .int j a, .int k b => j == k && a == b
  | .str a, .str b => bytesEq a b
  | .nilptr, .nilptr | .nilslice, .nilslice | .nilmap, .nilmap | .nilfunc, .nilfunc | .niliface, .niliface | .zslice, .zslice => true
  | .ptr a i, .ptr b j => a = b && i == j
  | .slice a i l c, .slice b j m d => a = b && i == j && l == m && c == d
  | .map a, .map b => a = b
  | .yield a, .yield b => a = b
  | _, _ => false
def avsEq : List AV → List AV → Bool
  | [], [] => true
  | a :: x, b :: y => avEq a b && avsEq x y
  | _, _ => false
/-- the same value, aggregates too -/
def avEqD : AV → AV → Bool
  | .agg a, .agg b => avsEq a b
  | .tup a, .tup b => avsEq a b
  | a, b => avEq a b
def plainV : AV → Bool
  | .bool _ | .int _ _ | .str _ => true
  | _ => false
/-- temporaries at which all ways out agree -/
def agree : List Ix → List TM → TM → TM
  | [], _, T => T
  | p :: ps, Ts, T =>
    let T' := match Ts with
      | T1 :: rest => match T1.get p with
        | some v => if plainV v && rest.all (fun U => match U.get p with | some u => avEq v u | none => false) then T.set v p else T
        | none => T
      | [] => T
    agree ps Ts T'

def findLab : ICode → Nat → Option ICode
  | .seq a b, l => match findLab a l with
    | some rest => some (.seq rest b)
    | none => findLab b l
  | .label l', l => if l' == l then some .skip else none
  | _, _ => none
/-- an operation that makes one new object, named n -/
def aop (T : TM) (n : Ix) : IOp → Option (AV × AO)
  | .box et x => if (x.ev T).isU then none else some (.ptr n 0, .cells (x.ev T).cells et false false)
  | .alloc et z => some (.ptr n 0, .cells z et false false)
  | .bslice et z len ps => match placeParts T z ps with
    | some l => some (.slice n 0 len (.k len), .cells l et false false)
    | none => none
  | .s2b et x => match x.ev T with
    | .str l => some (.slice n 0 l.length (.g 1), .cells (ofBytes l) et true false)
    | _ => none
  | .mkmap => some (.map n, .map [] 0)
  | .mkslice et z bytes len cap => match len.ev T, cap.ev T with
    | .int _ (.ofNat k), .int _ (.ofNat c) =>
      if Nat.ble k c && Nat.ble c (2 ^ 30) && Nat.ble bytes (2 ^ 17) then some (.slice n 0 k (.k c), .cells (repl c z) et false false) else none
    | _, _ => none
  | _ => none

section
variable (F : Tr IFn) (E : ICode → TM → AW → Option AR)

def callFn (f : Nat) (args : List AV) (A : AW) : Option (AV × AW) :=
  match F.get (Ix.ofTmp f) with
  | some (.go np res body) =>
    if args.length = np then
      match E body (enterT 0 args .leaf) A with
      | some r => match r.x with
        | .normal | .ret => match loadResults r.A r.T res with
          | some vs => some (resultOf vs, r.A)
          | none => none
        | _ => none
      | none => none
    else none
  | some (.ext e) => extRun e args A
  | none => none

def callV (x : AV) (args : List AV) (A : AW) : Option (AV × AW) :=
  match x with
  | .func f first captured => callFn F E f (first ++ args ++ captured) A
  | _ => none

def runOp (T : TM) (A : AW) (op : IOp) : Option (AV × AW) :=
  match op with
  | .call f args => callFn F E f (args.map (Arg.ev T)) A
  | .callv x args => callV F E (x.ev T) (args.map (Arg.ev T)) A
  | .invoke tbl x args => match x.ev T with
    | .iface t v => match tblFind tbl t with
      | some f => callFn F E f (v :: args.map (Arg.ev T)) A
      | none => none
    | _ => none
  | op => iop T A op

def runStep (T : TM) (A : AW) (s : IStep) : Option (TM × AW) :=
  match wantedS T s.g with
  | some true => match runOp F E T A s.op with
    | some (v, A') => some (putD T s.d v, A')
    | none => none
  | some false => some (putD T s.d (.tup []), A)
  | none => none
def runSteps : List IStep → TM → AW → Option (TM × AW)
  | [], T, A => some (T, A)
  | s :: l, T, A => match runStep F E T A s with
    | some (T', A') => runSteps l T' A'
    | none => none
def sameAgain (T : TM) (A : AW) : List (Ix × Option (Ix × Bool) × IOp) → Bool
  | [] => true
  | (p, g, op) :: l => match wantedS T g with
    | some false => sameAgain T A l
    | _ => match T.get p with
      | some u => (match iop T A op with
        | some (v, _) => avEqD u v && sameAgain T A l
        | none => false)
      | none => false
def runNamed (T : TM) (A : AW) (s : IStep) (n : Ix) : Option (TM × AW) :=
  match wantedS T s.g with
  | some true => match aop T n s.op with
    | some (v, o) => some (putD T s.d v, { A with cur := A.cur.set o n })
    | none => none
  | some false => some (putD T s.d (.tup []), A)
  | none => none
def runDraw (base : Ix) : List DStep → TM → AW → Option (TM × AW)
  | [], T, A => some (T, A)
  | s :: l, T, A => match (match s.nm with
      | some k => runNamed T A s.s (addIx k base)
      | none => runStep F E T A s.s) with
    | some (T', A') => if sameAgain T' A' s.again then runDraw base l T' A' else none
    | none => none

/-- the rounds of a loop over a map, each from the same state -/
def rounds (nx more : Ix) (i : Ix) (m : Ix) (last : Nat) (b : ICode) (T : TM) (A : AW) : List (AV × AV × Nat) → List (AX × TM) → Option (List (AX × TM))
  | [], outs => some outs
  | (k, v, born) :: es, outs =>
    let A1 : AW := { cur := Tr.set (.mitR m born last) .leaf i, olds := A.cur :: A.olds, nx := A.nx }
    match E b ((T.set (.tup [.bool true, k, v]) nx).set (.bool true) more) A1 with
    | some r =>
        match r.x with
        | .normal => (match r.A.get i with
          | some (.mitR _ _ _) => rounds nx more i m last b T A es outs
          | _ => none)
        | x => rounds nx more i m last b T A es (outs ++ [(x, r.T)])
    | none => none

def mrounds (it : Arg) (nx more : Ix) (i : Ix) (m : Ix) (last : Nat) (dead : List Ix) (b : ICode) (T : TM) (A : AW) (left : List (AV × AV × Nat)) : Option AR :=
  match it.ev (forget (nx :: more :: dead) T) with
  | .ptr i' 0 =>
    if i' = i ∧ bornsOk left = true then match A.drop i with
      | some A1 => match rounds E nx more i m last b (forget (nx :: more :: dead) T) A left [] with
        | some [] => match E b (((forget (nx :: more :: dead) T).set (.tup [.bool false]) nx).set (.bool false) more) A1 with
          | some r => match r.x with
            | .normal => none
            | _ => some r
          | none => none
        | some ((x, T1) :: outs) =>
          if outs.all (fun o => o.1 = x) then some ⟨x, agree dead (T1 :: outs.map (·.2)) (forget (nx :: more :: dead) T), A1⟩
          else none
        | none => none
      | none => none
    else none
  | _ => none

def evStep : ICode → TM → AW → Option AR
  | .skip, T, A => some ⟨.normal, T, A⟩
  | .label _, T, A => some ⟨.normal, T, A⟩
  | .ret, T, A => some ⟨.ret, T, A⟩
  | .exit id, T, A => some ⟨.exit id, T, A⟩
  | .goto l, T, A => some ⟨.goto l, T, A⟩
  | .reg l, T, A => match runSteps F E l T A with
    | some (T', A') => some ⟨.normal, T', A'⟩
    | none => none
  | .draw n l, T, A => match runDraw F E A.nx l T { A with nx := addIx n A.nx } with
    | some (T', A') => some ⟨.normal, T', A'⟩
    | none => none
  | .seq a b, T, A => match E a T A with
    | some r => match r.x with
      | .normal => E b r.T r.A
      | _ => some r
    | none => none
  | .cond c a b, T, A => match c.ev T with
    | .bool true => E a T A
    | .bool false => E b T A
    | _ => none
  | .block id b, T, A => match E b T A with
    | some r => match r.x with
      | .exit id' => if id' = id then some ⟨.normal, r.T, r.A⟩ else some r
      | _ => some r
    | none => none
  | .loop b, T, A => match E b T A with
    | some r => match r.x with
      | .normal => E (.loop b) r.T r.A
      | _ => some r
    | none => none
  | .mloop it nx more dead b, T, A =>
    match it.ev T with
    | .ptr i 0 =>
      let single : List IStep := [⟨some nx, none, .nextm it⟩, ⟨some more, none, .extract 0 (.t nx)⟩]
      let plain : Option AR := match runSteps F E single T A with
        | some (T', A') => match E b T' A' with
          | some r => match r.x with
            | .normal => E (.mloop it nx more dead b) r.T r.A
            | _ => some r
          | none => none
        | none => none
      match A.get i with
      | some (.miter m since seen last) => match A.get m with
        | some (.map es clock) =>
          if Nat.beq since clock && Nat.beq last clock then
            let left := unseen seen es
            match left with
            | _ :: _ :: _ => mrounds E it nx more i m last dead b T A left
            | _ => plain
          else none
        | _ => none
      | _ => plain
    | _ => none
  | .scope b, T, A => E (.inscope b b) T A
  | .inscope c b, T, A => match E c T A with
    | some r => match r.x with
      | .goto l => match findLab b l with
        | some rest => E (.inscope rest b) r.T r.A
        | none => some r
      | _ => some r
    | none => none
  | .bad, _, _ => none
end

def ev (F : Tr IFn) : Nat → ICode → TM → AW → Option AR
  | 0 => fun _ _ _ => none
  | n + 1 => evStep F (ev F n)
end Go.AE
