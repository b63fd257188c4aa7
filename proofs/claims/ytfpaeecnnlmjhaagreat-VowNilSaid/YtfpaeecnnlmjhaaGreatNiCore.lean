/- The nice interpreter: values, memory, operations, code. -/
import GoSem.Dispatch
import GoSem.Step
namespace Go.NI

inductive NCap where
  | exact (c : Nat)
  | opn (lb es : Nat)

structure NA where
  blk : Nat
  off : Nat
  gen : Nat

inductive NV where
  | bool (b : Bool)
  | int (k : IntKind) (n : Int)
  | str (s : List UInt8)
  | ptr (a : Option NA)
  | slice (a : Option NA) (len : Nat) (cap : NCap)
  | map (r : Option Nat)
  | func (fn : Fn) (first captured : List NV)
  | nilFunc
  | iface (t : TypeId) (v : NV)
  | nilIface
  | agg (l : List NV)
  | tuple (l : List NV)

def NV.undef : NV := .tuple []

def NV.cells : NV → List NV
  | .agg l => l
  | v => [v]

def NV.oneCell : NV → Bool
  | .agg _ | .tuple _ => false
  | _ => true

/-- A binary trie over Nat. -/
inductive Tr (α : Type) where
  | leaf
  | node (l : Tr α) (v : Option α) (r : Tr α)
  | all (x : α)
  | fn (g : Nat → Option α)

def Tr.get {α : Type} : Tr α → Nat → Option α
  | .leaf, _ => none
  | .node l v r, n => bif Nat.beq n 0 then v else bif Nat.beq (n % 2) 1 then l.get (n / 2) else r.get (n / 2 - 1)
  | .all x, _ => some x
  | .fn g, n => g n

def Tr.setF {α : Type} : Nat → Tr α → Nat → Option α → Tr α
  | 0, t, _, _ => t
  | k + 1, .leaf, n, x => bif Nat.beq n 0 then .node .leaf x .leaf
      else bif Nat.beq (n % 2) 1 then .node (Tr.setF k .leaf (n / 2) x) none .leaf else .node .leaf none (Tr.setF k .leaf (n / 2 - 1) x)
  | k + 1, .node l v r, n, x => bif Nat.beq n 0 then .node l x r
      else bif Nat.beq (n % 2) 1 then .node (Tr.setF k l (n / 2) x) v r else .node l v (Tr.setF k r (n / 2 - 1) x)
  | k + 1, .all y, n, x => bif Nat.beq n 0 then .node (.all y) x (.all y)
      else bif Nat.beq (n % 2) 1 then .node (Tr.setF k (.all y) (n / 2) x) (some y) (.all y) else .node (.all y) (some y) (Tr.setF k (.all y) (n / 2 - 1) x)
  | _ + 1, .fn g, n, x => .fn fun m => bif Nat.beq m n then x else g m

def Tr.set {α : Type} (t : Tr α) (n : Nat) (x : α) : Tr α := Tr.setF (n + 1) t n (some x)

structure Blk where
  t : Tr NV
  size : Nat
  dflt : List NV
  gen : Nat
  ro : Bool

def Blk.get (b : Blk) (j : Nat) : Option NV :=
  bif Nat.blt j b.size then
    match b.t.get j with
    | some v => some v
    | none => b.dflt[j % b.dflt.length]?
  else none

inductive NObj where
  | cells (b : Blk)
  | map (es : List (NV × NV))
  | iter (s : List UInt8) (pos : Nat)

structure Mem where
  heap : Tr NObj
  next : Nat

def View := Nat → Option NObj

def Mem.view (m : Mem) : View := fun b => m.heap.get b

/-- A constant of the program's text as a nice value. -/
def listM {α β : Type} (f : α → Option β) : List α → Option (List β)
  | [] => some []
  | x :: r => match f x with
    | none => none
    | some y => match listM f r with
      | none => none
      | some l => some (y :: l)

def NV.ofValueF : Nat → Value → Option NV
  | 0, _ => none
  | k + 1, v => match v with
    | .bool b => some (.bool b)
    | .int k n => some (.int k n)
    | .string s => some (.str s.data.toList)
    | .pointer none => some (.ptr none)
    | .slice none 0 0 => some (.slice none 0 (.exact 0))
    | .map none => some (.map none)
    | .nilFunc => some .nilFunc
    | .nilIface => some .nilIface
    | .func f a b => match a.toList, b.toList with
      | [], [] => some (.func f [] [])
      | _, _ => none
    | .iface t v => (NV.ofValueF k v).map (.iface t)
    | .agg cs => (listM (NV.ofValueF k) cs.toList).map .agg
    | _ => none

def NV.ofValue (v : Value) : Option NV := NV.ofValueF 3 v

/-- Lists of cells in a block. -/
def getRange (b : Blk) (off : Nat) : Nat → Option (List NV)
  | 0 => some []
  | n + 1 => match b.get off with
    | none => none
    | some v => match getRange b (off + 1) n with
      | none => none
      | some l => some (v :: l)

def setRange (t : Tr NV) (off : Nat) : List NV → Tr NV
  | [] => t
  | v :: l => setRange (t.set off v) (off + 1) l

def rdCells (vw : View) (a : NA) (n : Nat) : Option (List NV) :=
  match vw a.blk with
  | some (.cells b) => bif Nat.beq a.gen b.gen then getRange b a.off n else none
  | _ => none

def wrCells (m : Mem) (a : NA) (l : List NV) : Option Mem :=
  match m.heap.get a.blk with
  | some (.cells b) =>
    bif Nat.beq a.gen b.gen && !b.ro && Nat.ble (a.off + l.length) b.size && l.all NV.oneCell then
      some { m with heap := m.heap.set a.blk (.cells { b with t := setRange b.t a.off l }) }
    else none
  | _ => none

section
variable (P : Program)

def tyAgg (t : TypeId) : Option Bool :=
  match P.underlying t with
  | some (.struct _) | some (.array _ _) => some true
  | some _ => some false
  | none => none
def tySize (t : TypeId) : Option Nat := (P.info? t).map (·.size)
def tyBytes (t : TypeId) : Option Nat := (P.info? t).map (·.bytes)
def tyZero (t : TypeId) : Option NV := ((P.info? t).bind (·.zero)).bind NV.ofValue

/-- The element's zero value is known, and has so many cells. -/
def zeroOk (t : TypeId) (n : Nat) : Bool :=
  match (P.info? t).bind (·.zero) with
  | some v => Nat.beq v.cells.size n
  | none => false

def rdVar (vw : View) (t : TypeId) (a : NA) : Option NV :=
  match tyAgg P t with
  | some true => match tySize P t with
    | some n => (rdCells vw a n).map .agg
    | none => none
  | some false => match rdCells vw a 1 with
    | some [v] => some v
    | _ => none
  | none => none

def wrVar (m : Mem) (t : TypeId) (a : NA) (v : NV) : Option Mem :=
  match tySize P t with
  | some n => bif Nat.beq v.cells.length n then wrCells m a v.cells else none
  | none => none

def partV (t : TypeId) (cs : List NV) (off : Nat) : Option NV :=
  match tyAgg P t with
  | some true => match tySize P t with
    | some n => some (.agg ((cs.drop off).take n))
    | none => none
  | some false => cs[off]?
  | none => none

/-- An operand's value; of the package-level variables those below 'G' may be named. -/
def evO (G : Nat) (f : Tr NV) : Operand → Option NV
  | .tmp t => f.get t
  | .const v => NV.ofValue v
  | .global g => bif Nat.blt g G then some (.ptr (some ⟨g, 0, 0⟩)) else none
  | .func g => some (.func (.func g) [] [])

/-- Fast paths over naturals; else Int's own. -/
def wrapK (k : IntKind) (n : Int) : Int :=
  match n with
  | .ofNat m => match k with
    | .u8 => .ofNat (m % 256)
    | .u16 => .ofNat (m % 65536)
    | .u32 => .ofNat (m % 4294967296)
    | .u64 => .ofNat (m % 18446744073709551616)
    | .i64 => bif Nat.blt m 9223372036854775808 then .ofNat m else k.wrap n
    | _ => k.wrap n
  | _ => k.wrap n

def ltI (a b : Int) : Bool :=
  match a, b with
  | .ofNat m, .ofNat n => Nat.blt m n
  | .ofNat _, .negSucc _ => false
  | .negSucc _, .ofNat _ => true
  | .negSucc m, .negSucc n => Nat.blt n m

def eqI (a b : Int) : Bool :=
  match a, b with
  | .ofNat m, .ofNat n => Nat.beq m n
  | .negSucc m, .negSucc n => Nat.beq m n
  | _, _ => false

def subI (a b : Int) : Int :=
  match a, b with
  | .ofNat m, .ofNat n => bif Nat.ble n m then .ofNat (m - n) else a - b
  | _, _ => a - b

def bitsI (op : BinOp) (k : IntKind) (x y : Int) : Option Int :=
  match x, y with
  | .ofNat a, .ofNat b => match op with
    | .and => some (wrapK k (.ofNat (Nat.land a b)))
    | .or => some (wrapK k (.ofNat (Nat.lor a b)))
    | .xor => some (wrapK k (.ofNat (Nat.xor a b)))
    | .andNot => some (wrapK k (.ofNat (Nat.land a (Nat.xor (b % 2 ^ k.bits) (2 ^ k.bits - 1)))))
    | _ => none
  | x, y =>
    let a := BitVec.ofInt k.bits x
    let b := BitVec.ofInt k.bits y
    match op with
    | .and => some (k.wrap (a &&& b).toNat)
    | .or => some (k.wrap (a ||| b).toNat)
    | .xor => some (k.wrap (a ^^^ b).toNat)
    | .andNot => some (k.wrap (a &&& ~~~b).toNat)
    | _ => none

def shiftI (op : BinOp) (k : IntKind) (x y : Int) : Option Int :=
  match y with
  | .negSucc _ => none
  | .ofNat yn =>
    let n := bif Nat.ble yn k.bits then yn else k.bits
    match op, x with
    | .shl, .ofNat a => some (wrapK k (.ofNat (Nat.shiftLeft a n)))
    | .shl, x => some (k.wrap (x * 2 ^ n))
    | .shr, .ofNat a => some (.ofNat (Nat.shiftRight a n))
    | .shr, x => some (x.fdiv (2 ^ n))
    | _, _ => none

def divI (op : BinOp) (k : IntKind) (x y : Int) : Option Int :=
  match x, y with
  | _, .ofNat 0 => none
  | .ofNat a, .ofNat b => match op with
    | .quo => some (wrapK k (.ofNat (a / b)))
    | .rem => some (.ofNat (a % b))
    | _ => none
  | x, y => match op with
    | .quo => some (k.wrap (x.tdiv y))
    | .rem => some (x.tmod y)
    | _ => none

def intOp (op : BinOp) (k : IntKind) (a b : Int) : Option NV :=
  match op with
  | .add => some (.int k (wrapK k (a + b)))
  | .sub => some (.int k (wrapK k (subI a b)))
  | .mul => some (.int k (wrapK k (a * b)))
  | .quo | .rem => (divI op k a b).map (.int k)
  | .and | .or | .xor | .andNot => (bitsI op k a b).map (.int k)
  | .eql => some (.bool (eqI a b))
  | .neq => some (.bool (!eqI a b))
  | .lss => some (.bool (ltI a b))
  | .leq => some (.bool (!ltI b a))
  | .gtr => some (.bool (ltI b a))
  | .geq => some (.bool (!ltI a b))
  | .shl | .shr => none

def eqK (a b : IntKind) : Bool :=
  match a, b with
  | .i8, .i8 | .i16, .i16 | .i32, .i32 | .i64, .i64 | .u8, .u8 | .u16, .u16 | .u32, .u32 | .u64, .u64 => true
  | _, _ => false

def eqS : List UInt8 → List UInt8 → Bool
  | [], [] => true
  | a :: x, b :: y => Nat.beq a.toNat b.toNat && eqS x y
  | _, _ => false

def ltS : List UInt8 → List UInt8 → Bool
  | _, [] => false
  | [], _ :: _ => true
  | a :: x, b :: y => bif Nat.blt a.toNat b.toNat then true else Nat.beq a.toNat b.toNat && ltS x y

def strOp (op : BinOp) (a b : List UInt8) : Option NV :=
  match op with
  | .add => bif Nat.ble (a.length + b.length) 1099511627776 then some (.str (a ++ b)) else none
  | .eql => some (.bool (eqS a b))
  | .neq => some (.bool (!eqS a b))
  | .lss => some (.bool (ltS a b))
  | .leq => some (.bool (ltS a b || eqS a b))
  | .gtr => some (.bool (!(ltS a b || eqS a b)))
  | .geq => some (.bool (!ltS a b))
  | _ => none

def isNone {α : Type} : Option α → Bool
  | none => true
  | some _ => false

def eqFieldsV (eq : TypeId → NV → NV → Option Bool) (xs ys : List NV) : List Field → Option Bool
  | [] => some true
  | f :: fs =>
    match decide (f.name = "_") with
    | true => eqFieldsV eq xs ys fs
    | false => match partV P f.type xs f.offset, partV P f.type ys f.offset with
      | some u, some v => match eq f.type u v with
        | some true => eqFieldsV eq xs ys fs
        | r => r
      | _, _ => none

def eqArrV (eq : NV → NV → Option Bool) (e n : Nat) (xs ys : List NV) : Nat → Nat → Option Bool
  | 0, _ => some true
  | k + 1, i => match partV P e xs (i * n), partV P e ys (i * n) with
    | some u, some v => match eq u v with
      | some true => eqArrV eq e n xs ys k (i + 1)
      | r => r
    | _, _ => none

def eqBool (a b : Bool) : Bool :=
  match a, b with
  | true, true | false, false => true
  | _, _ => false

/-- Go's '=='. -/
def eqV : Nat → TypeId → NV → NV → Option Bool
  | 0, _, _, _ => none
  | d + 1, t, x, y =>
    match P.underlying t with
    | some .bool => match x, y with
      | .bool a, .bool b => some (eqBool a b)
      | _, _ => none
    | some (.int _) => match x, y with
      | .int k a, .int k' b => bif eqK k k' then some (eqI a b) else none
      | _, _ => none
    | some .string => match x, y with
      | .str a, .str b => some (eqS a b)
      | _, _ => none
    | some (.pointer _) => match x, y with
      | .ptr none, .ptr b => some (isNone b)
      | .ptr (some _), .ptr none => some false
      | _, _ => none
    | some (.interface _) => match x, y with
      | .nilIface, .nilIface => some true
      | .nilIface, .iface _ _ => some false
      | .iface _ _, .nilIface => some false
      | .iface tx vx, .iface ty vy =>
        bif Nat.beq tx ty then
          match (P.info? tx).map (·.comparable) with
          | some true => eqV d tx vx vy
          | _ => none
        else some false
      | _, _ => none
    | some (.struct fields) => match x, y with
      | .agg xs, .agg ys => bif P.stoodInHeld t then none else eqFieldsV P (eqV d) xs ys fields.toList
      | _, _ => none
    | some (.array len elem) => match x, y with
      | .agg xs, .agg ys => match tySize P elem with
        | none => none
        | some n => eqArrV P (eqV d elem) elem n xs ys len 0
      | _, _ => none
    | some (.slice _) => match x, y with
      | .slice none _ _, .slice b _ _ => some (isNone b)
      | .slice (some _) _ _, .slice none _ _ => some false
      | _, _ => none
    | some (.map _ _) => match x, y with
      | .map none, .map b => some (isNone b)
      | .map (some _), .map none => some false
      | _, _ => none
    | some (.func _ _ _) => match x, y with
      | .nilFunc, .nilFunc => some true
      | .nilFunc, .func _ _ _ => some false
      | .func _ _ _, .nilFunc => some false
      | _, _ => none
    | _ => none

def isConstO : Operand → Bool
  | .const _ => true
  | _ => false

def eqGuardOk (t : TypeId) (x y : Operand) (a b : NV) : Bool :=
  match a, b with
  | .nilIface, .nilIface => isConstO x || isConstO y
  | .agg _, .agg _ => !P.eqGuardType P.depth t
  | _, _ => true

def binV (op : BinOp) (t : TypeId) (xo yo : Operand) (x y : NV) : Option NV :=
  match op, x, y with
  | .shl, .int k a, .int _ b | .shr, .int k a, .int _ b => (shiftI op k a b).map (.int k)
  | _, .int k a, .int k' b => bif eqK k k' then intOp op k a b else none
  | _, .str a, .str b => strOp op a b
  | .eql, x, y => bif eqGuardOk P t xo yo x y then (eqV P 20 t x y).map .bool else none
  | .neq, x, y => bif eqGuardOk P t xo yo x y then (eqV P 20 t x y).map (fun b => .bool (!b)) else none
  | _, _, _ => none

def unV (op : UnOp) (x : NV) : Option NV :=
  match op, x with
  | .neg, .int k n => some (.int k (k.wrap (0 - n)))
  | .xor, .int k n => (bitsI .xor k (if k.signed then -1 else k.max) n).map (.int k)
  | .not, .bool b => some (.bool (!b))
  | _, _ => none

def NA.add (a : NA) (n : Nat) : NA := { a with off := a.off + n }

def natI : Int → Option Nat
  | .ofNat n => some n
  | _ => none

def boundOf (v : Option NV) (dflt top : Nat) : Option Nat :=
  match v with
  | none => some dflt
  | some (.int _ i) => match natI i with
    | some n => bif Nat.ble n top then some n else none
    | none => none
  | _ => none

def boundsV (len c : Nat) (lo hi mx : Option NV) : Option (Nat × Nat × Nat) :=
  match (match mx, hi with | some _, none => none | _, _ => boundOf mx c c) with
  | none => none
  | some m => match boundOf hi len m with
    | none => none
    | some h => match boundOf lo 0 h with
      | none => none
      | some l => some (l, h, m)

def cutV (a : NA) (sz : Nat) (b : Nat × Nat × Nat) : NV :=
  .slice (some (bif Nat.beq b.2.2 b.1 then a else a.add (b.1 * sz))) (b.2.1 - b.1) (.exact (b.2.2 - b.1))

/-- s[l:h:m]. -/
def sliceV (t : TypeId) (x : NV) (lo hi mx : Option NV) : Option NV :=
  match P.underlying t with
  | some .string => match x, mx with
    | .str s, none => match boundsV s.length s.length lo hi none with
      | none => none
      | some b => some (.str ((s.drop b.1).take (b.2.1 - b.1)))
    | _, _ => none
  | some (.slice e) => match tySize P e, x with
    | some sz, .slice (some a) len (.exact c) => (boundsV len c lo hi mx).map (cutV a sz)
    | some _, .slice none len (.exact c) => (boundsV len c lo hi mx).map fun b => .slice none (b.2.1 - b.1) (.exact (b.2.2 - b.1))
    | some sz, .slice (some a) len (.opn lb es) =>
      bif Nat.beq sz es then
        match boundsV len lb lo hi mx with
        | none => none
        | some b => match mx with
          | none => some (.slice (some (a.add (b.1 * sz))) (b.2.1 - b.1) (.opn (lb - b.1) es))
          | some _ => bif Nat.beq b.2.2 b.1 then none else some (.slice (some (a.add (b.1 * sz))) (b.2.1 - b.1) (.exact (b.2.2 - b.1)))
      else none
    | _, _ => none
  | some (.array n e) => match tySize P e, x with
    | some sz, .ptr (some a) => (boundsV n n lo hi mx).map (cutV a sz)
    | _, _ => none
  | some (.pointer arr) => match P.underlying arr, x with
    | some (.array n e), .ptr (some a) => match tySize P e with
      | some sz => (boundsV n n lo hi mx).map (cutV a sz)
      | none => none
    | _, _ => none
  | _ => none

def fillV (place : Nat → Option (Nat × Nat)) (cells : List NV) : List (Nat × NV) → Option (List NV)
  | [] => some cells
  | (i, v) :: rest =>
    match place i with
    | none => none
    | some (off, size) =>
      bif Nat.beq v.cells.length size && Nat.ble (off + size) cells.length then
        fillV place (cells.take off ++ v.cells ++ cells.drop (off + size)) rest
      else none

def placesOf (fs : List Field) : Option (List (Nat × Nat)) :=
  listM (fun f => (tySize P f.type).map fun s => (f.offset, s)) fs

def buildV (t : TypeId) (parts : List (Nat × NV)) : Option NV :=
  match tyZero P t with
  | none => none
  | some z =>
    match P.underlying t with
    | some (.struct fs) => match placesOf P fs.toList with
      | none => none
      | some pl => (fillV (fun i => pl[i]?) z.cells parts).map .agg
    | some (.array _ e) => match tySize P e with
      | none => none
      | some sz => (fillV (fun i => some (i * sz, sz)) z.cells parts).map .agg
    | _ => none

/-- Operations that neither read nor write memory. -/
def opT (o : Op) (ρ : Operand → Option NV) : Option NV :=
  match o with
  | .move x | .assign x => ρ x
  | .pick c a b => match ρ c with
    | some (.bool true) => ρ a
    | some (.bool false) => ρ b
    | _ => none
  | .build t parts => match listM (fun p => (ρ p.2).map fun v => (p.1, v)) parts.toList with
    | none => none
    | some l => buildV P t l
  | .nilCheck x => match ρ x with
    | some (.ptr none) | some .nilIface | some .nilFunc => none
    | some (.func (.func g) a b) => some (.func (.func g) a b)
    | some (.func _ _ _) => none
    | r => r
  | .binOp op t x y _ => match ρ x, ρ y with
    | some a, some b => binV P op t x y a b
    | _, _ => none
  | .unOp op _ x => match ρ x with
    | some a => unV op a
    | none => none
  | .convert s d x => match P.underlying s, P.underlying d, ρ x with
    | some _, some (.int k), some (.int _ n) => some (.int k (wrapK k n))
    | some _, some .string, some (.str l) => some (.str l)
    | _, _, _ => none
  | .makeInterface t x => match P.underlying t with
    | some (.interface _) => none
    | some _ => (ρ x).map (.iface t)
    | none => none
  | .makeFunc (.func g) first captured => match listM ρ first.toList, listM ρ captured.toList with
    | some a, some b => some (.func (.func g) a b)
    | _, _ => none
  | .slice t x lo hi mx => match ρ x with
    | none => none
    | some v =>
      let q := fun (o : Option Operand) => match o with
        | none => some (none : Option NV)
        | some x => (ρ x).map some
      match q lo, q hi, q mx with
      | some l, some h, some m => sliceV P t v l h m
      | _, _, _ => none
  | .fieldAddr s x i => match P.underlying s, ρ x with
    | some (.struct fs), some (.ptr (some a)) => match fs[i]? with
      | some f => match tySize P f.type with
        | some (_ + 1) => some (.ptr (some (a.add f.offset)))
        | _ => none
      | none => none
    | _, _ => none
  | .field t x i => match P.underlying t, ρ x with
    | some (.struct fs), some (.agg cs) => match fs[i]? with
      | some f => partV P f.type cs f.offset
      | none => none
    | _, _ => none
  | .indexAddr t x i => match ρ i with
    | some (.int _ n) => match natI n with
      | none => none
      | some j => match P.underlying t, ρ x with
        | some (.array len e), some (.ptr (some a)) => match tySize P e with
          | some sz => bif Nat.blt j len then some (.ptr (some (a.add (j * sz)))) else none
          | none => none
        | some (.slice e), some (.slice (some a) len _) => match tySize P e with
          | some sz => bif Nat.blt j len then some (.ptr (some (a.add (j * sz)))) else none
          | none => none
        | _, _ => none
    | _ => none
  | .index t x i => match ρ i with
    | some (.int _ n) => match natI n with
      | none => none
      | some j => match P.underlying t, ρ x with
        | some (.array len e), some (.agg cs) => match tySize P e with
          | some sz => bif Nat.blt j len then partV P e cs (j * sz) else none
          | none => none
        | some .string, some (.str s) => match s[j]? with
          | some b => some (.int .u8 b.toNat)
          | none => none
        | _, _ => none
    | _ => none
  | .extract t i => match ρ t with
    | some (.tuple vs) => vs[i]?
    | _ => none
  | .call c => match c.callee, c.args.toList, c.argTypes[0]? with
    | .builtin .len, [x], some t => match P.underlying t, ρ x with
      | some .string, some (.str s) => some (.int .i64 s.length)
      | some (.array n _), some _ => some (.int .i64 n)
      | some (.slice _), some (.slice _ n _) => some (.int .i64 n)
      | some (.pointer arr), some _ => match P.underlying arr with
        | some (.array n _) => some (.int .i64 n)
        | _ => none
      | some (.map _ _), some (.map none) => some (.int .i64 0)
      | _, _ => none
    | .builtin .cap, [x], some t => match P.underlying t, ρ x with
      | some (.slice _), some (.slice _ _ (.exact c)) => some (.int .i64 c)
      | _, _ => none
    | .builtin .max, x :: rest, _ => match ρ x, listM ρ rest with
      | some x, some l => l.foldl (fun acc y => match acc, y with
        | some (.int k a), .int k' b => bif eqK k k' then some (.int k (bif ltI a b then b else a)) else none
        | _, _ => none) (some x)
      | _, _ => none
    | .builtin .min, x :: rest, _ => match ρ x, listM ρ rest with
      | some x, some l => l.foldl (fun acc y => match acc, y with
        | some (.int k a), .int k' b => bif eqK k k' then some (.int k (bif ltI b a then b else a)) else none
        | _, _ => none) (some x)
      | _, _ => none
    | _, _, _ => none
  | _ => none

def keyOk (d : TypeDesc) (k : NV) : Bool :=
  match d, k with
  | .int _, .int _ _ | .string, .str _ => true
  | _, _ => false

def eqKey (a b : NV) : Option Bool :=
  match a, b with
  | .int k x, .int k' y => bif eqK k k' then some (eqI x y) else none
  | .str x, .str y => some (eqS x y)
  | _, _ => none

def findKeyN (k : NV) : List (NV × NV) → Option (Option NV)
  | [] => some none
  | (k', v) :: es => match eqKey k k' with
    | some true => some (some v)
    | some false => findKeyN k es
    | none => none

def putKey (k v : NV) : List (NV × NV) → Option (List (NV × NV))
  | [] => some [(k, v)]
  | (k', v') :: es => match eqKey k k' with
    | some true => some ((k, v) :: es)
    | some false => (putKey k v es).map ((k', v') :: ·)
    | none => none

def delKey (k : NV) : List (NV × NV) → Option (List (NV × NV))
  | [] => some []
  | (k', v') :: es => match eqKey k k' with
    | some true => some es
    | some false => (delKey k es).map ((k', v') :: ·)
    | none => none

def bytesOf : List NV → Option (List UInt8)
  | [] => some []
  | .int .u8 n :: l => match bytesOf l with
    | some r => some (UInt8.ofNat n.toNat :: r)
    | none => none
  | _ :: _ => none

def mapOf (vw : View) (r : Option Nat) : Option (List (NV × NV)) :=
  match r with
  | none => some []
  | some b => match vw b with
    | some (.map es) => some es
    | _ => none

/-- Operations that read memory. -/
def opR (o : Op) (vw : View) (ρ : Operand → Option NV) : Option NV :=
  match o with
  | .load t x => match ρ x with
    | some (.ptr (some a)) => rdVar P vw t a
    | _ => none
  | .lookup t x i commaOk => match P.underlying t, ρ x, ρ i with
    | some (.map kt et), some (.map r), some k =>
      match P.underlying kt with
      | none => none
      | some kd => bif keyOk kd k then
          match mapOf vw r with
          | none => none
          | some es => match findKeyN k es with
            | none => none
            | some (some v) => some (if commaOk then .tuple [v, .bool true] else v)
            | some none => match tyZero P et with
              | none => none
              | some z => some (if commaOk then .tuple [z, .bool false] else z)
        else none
    | _, _, _ => none
  | .convert s d x => match P.underlying s, P.underlying d, ρ x with
    | some (.slice e), some .string, some (.slice a len _) => match P.underlying e with
      | some (.int .u8) => match a with
        | none => some (.str [])
        | some a => match rdCells vw a len with
          | none => none
          | some l => (bytesOf l).map .str
      | _ => none
    | _, _, _ => none
  | .call c => match c.callee, c.args.toList, c.argTypes[0]? with
    | .builtin .len, [x], some t => match P.underlying t, ρ x with
      | some (.map _ _), some (.map (some r)) => match vw r with
        | some (.map es) => some (.int .i64 es.length)
        | _ => none
      | _, _ => none
    | _, _, _ => none
  | _ => none

def newBlk (cells : List NV) : NObj := .cells { t := setRange .leaf 0 cells, size := cells.length, dflt := [], gen := 0, ro := false }

/-- Operations that make a new object. -/
def opA (o : Op) (ρ : Operand → Option NV) : Option (NObj × (Nat → NV)) :=
  match o with
  | .alloc t => match tyZero P t with
    | some z => some (newBlk z.cells, fun id => .ptr (some ⟨id, 0, 0⟩))
    | none => none
  | .box _ x => match ρ x with
    | some v => bif v.cells.all NV.oneCell then some (newBlk v.cells, fun id => .ptr (some ⟨id, 0, 0⟩)) else none
    | none => none
  | .buildSlice t len parts => match P.underlying t with
    | some (.slice e) => match len, parts.toList with
      | 0, [] => match tySize P e with
        | some _ => some (newBlk [], fun id => .slice (some ⟨id, 0, 0⟩) 0 (.exact 0))
        | none => none
      | len + 1, parts => match tySize P e, tyZero P e, listM (fun p => (ρ p.2).map fun v => (p.1, v)) parts with
        | some sz, some z, some l =>
          bif Nat.ble ((len + 1) * sz) 1048576 && Nat.beq z.cells.length sz && Nat.blt 0 sz then
            match fillV (fun i => some (i * sz, sz)) ((List.replicate (len + 1) z.cells).flatten) l with
            | some cs => some (newBlk cs, fun id => .slice (some ⟨id, 0, 0⟩) (len + 1) (.exact (len + 1)))
            | none => none
          else none
        | _, _, _ => none
      | _, _ => none
    | _ => none
  | .makeSlice t l c => match P.underlying t, ρ l, ρ c with
    | some (.slice e), some (.int .i64 (.ofNat l)), some (.int .i64 (.ofNat c)) => match tySize P e, tyBytes P e, tyZero P e with
      | some sz, some by_, some z =>
        bif Nat.ble l c && Nat.ble (c * by_) 1099511627776 && Nat.blt 0 by_ && Nat.beq z.cells.length sz then
          some (.cells { t := .leaf, size := c * sz, dflt := z.cells, gen := 0, ro := false }, fun id => .slice (some ⟨id, 0, 0⟩) l (.exact c))
        else none
      | _, _, _ => none
    | _, _, _ => none
  | .makeMap _ none => some (.map [], fun id => .map (some id))
  | .makeMap t (some r) => match P.underlying t, ρ r with
    | some (.map _ _), some (.int _ _) => some (.map [], fun id => .map (some id))
    | _, _ => none
  | .convert s d x => match P.underlying s, P.underlying d, ρ x with
    | some _, some (.slice e), some (.str l) => match P.underlying e with
      | some (.int .u8) => some (.cells { t := setRange .leaf 0 (l.map fun b => .int .u8 b.toNat), size := l.length, dflt := [], gen := 0, ro := false },
          fun id => .slice (some ⟨id, 0, 0⟩) l.length (.opn l.length 1))
      | _ => none
    | _, _, _ => none
  | .range t x => match P.underlying t, ρ x with
    | some .string, some (.str s) => some (.iter s 0, fun id => .ptr (some ⟨id, 0, 0⟩))
    | _, _ => none
  | _ => none

def Mem.new (m : Mem) (o : NObj) : Mem := { heap := m.heap.set m.next o, next := m.next + 1 }

/-- What is appended: a slice's elements or a string's bytes. -/
def srcCells (m : Mem) (sz : Nat) : NV → Option (Nat × List NV)
  | .slice none 0 _ => some (0, [])
  | .slice (some a) n _ => match rdCells m.view a (n * sz) with
    | some l => some (n, l)
    | none => none
  | .str s => bif Nat.beq sz 1 then some (s.length, s.map fun b => .int .u8 b.toNat) else none
  | _ => none

def appendNew (m : Mem) (sz tot : Nat) (cells : List NV) : NV × Mem :=
  (.slice (some ⟨m.next, 0, 0⟩) tot (.opn tot sz),
    m.new (.cells { t := setRange .leaf 0 cells, size := tot * sz, dflt := [], gen := 0, ro := false }))

def appendTip (m : Mem) (a : NA) (b : Blk) (sz n k : Nat) (new : List NV) : NV × Mem :=
  (.slice (some { a with gen := b.gen + 1 }) (n + k) (.opn (n + k) sz),
    { m with heap := m.heap.set a.blk (.cells { b with t := setRange b.t b.size new, size := b.size + k * sz, gen := b.gen + 1 }) })

def appendGo (sz n k : Nat) (new : List NV) (base : Option NA) (cap : NCap) (m : Mem) : Option (NV × Mem) :=
  match base with
  | none => match cap with
    | .exact 0 => match n with
      | 0 => some (appendNew m sz k new)
      | _ => none
    | _ => none
  | some a => match cap with
    | .exact c =>
      bif Nat.ble (n + k) c then
        (wrCells m (a.add (n * sz)) new).map fun m' => (.slice (some a) (n + k) (.exact c), m')
      else match rdCells m.view a (n * sz) with
        | none => none
        | some old => some (appendNew m sz (n + k) (old ++ new))
    | .opn lb es =>
      bif Nat.beq es sz then
        bif Nat.ble (n + k) lb then
          (wrCells m (a.add (n * sz)) new).map fun m' => (.slice (some a) (n + k) (.opn lb es), m')
        else match m.heap.get a.blk with
          | some (.cells b) =>
            bif Nat.beq a.gen b.gen && !b.ro && Nat.beq (a.off + n * sz) b.size then some (appendTip m a b sz n k new)
            else none
          | _ => none
      else none

def capOk (n : Nat) : NCap → Bool
  | .exact c => Nat.ble n c
  | .opn _ _ => true

def appendV (st : TypeId) (x y : NV) (m : Mem) : Option (NV × Mem) :=
  match P.underlying st, x with
  | some (.slice e), .slice base n cap =>
    match tySize P e, tyBytes P e with
    | some sz, some by_ =>
      bif Nat.beq sz 0 then none else
      match srcCells m sz y with
      | none => none
      | some (k, new) =>
        bif Nat.beq k 0 then (bif capOk n cap then some (x, m) else none) else
        bif Nat.ble ((n + k) * by_) 1099511627776 && Nat.blt 0 by_ && new.all NV.oneCell && zeroOk P e sz then
          appendGo sz n k new base cap m
        else none
    | _, _ => none
  | _, _ => none

def copyV (dt : TypeId) (x y : NV) (m : Mem) : Option (NV × Mem) :=
  match P.underlying dt, x with
  | some (.slice e), .slice base dn _ =>
    match tySize P e with
    | none => none
    | some sz =>
      let len := match y with | .slice _ n _ => some n | .str s => some s.length | _ => none
      match len with
      | none => none
      | some sn =>
        let n := bif Nat.ble sn dn then sn else dn
        bif Nat.beq n 0 then some (.int .i64 0, m) else
        let src := match y with
          | .slice (some a) _ _ => rdCells m.view a (n * sz)
          | .str s => some ((s.take n).map fun b => .int .u8 b.toNat)
          | _ => none
        match base, src with
        | some a, some l => (wrCells m a l).map fun m' => (.int .i64 n, m')
        | _, _ => none
  | _, _ => none

def decodeAt (s : List UInt8) (pos : Nat) : Nat × Nat := Utf8.decode ⟨s.toArray⟩ pos

def nextV (v : NV) (isString : Bool) (m : Mem) : Option (NV × Mem) :=
  match v, isString with
  | .ptr (some ⟨r, 0, 0⟩), true => match m.heap.get r with
    | some (.iter s pos) =>
      bif Nat.blt pos s.length then
        let cw := decodeAt s pos
        some (.tuple [.bool true, .int .i64 pos, .int .i32 (cw.1 : Nat)], { m with heap := m.heap.set r (.iter s (pos + cw.2)) })
      else some (.tuple [.bool false], m)
    | _ => none
  | _, _ => none

def mapUpdateV (t : TypeId) (mp k v : NV) (m : Mem) : Option Mem :=
  match P.underlying t, mp with
  | some (.map kt _), .map (some r) => match P.underlying kt, m.heap.get r with
    | some kd, some (.map es) =>
      bif keyOk kd k then match putKey k v es with
        | some es' => some { m with heap := m.heap.set r (.map es') }
        | none => none
      else none
    | _, _ => none
  | _, _ => none

def clearV (t : TypeId) (x : NV) (m : Mem) : Option (NV × Mem) :=
  match P.underlying t, x with
  | some (.slice e), .slice a n _ => match tyZero P e with
    | none => none
    | some z => match z.cells with
      | [] => none
      | c :: cs => bif Nat.beq n 0 then some (.undef, m) else match a with
        | none => some (.undef, m)
        | some a => (wrCells m a ((List.replicate n (c :: cs)).flatten)).map fun m' => (.undef, m')
  | _, _ => none

def deleteV (t : TypeId) (x k : NV) (m : Mem) : Option (NV × Mem) :=
  match P.underlying t, x with
  | some (.map kt _), .map (some r) => match P.underlying kt, m.heap.get r with
    | some kd, some (.map es) => bif keyOk kd k then
        match delKey k es with
        | some es' => some (.undef, { m with heap := m.heap.set r (.map es') })
        | none => none
      else none
    | _, _ => none
  | _, _ => none

abbrev CallF := FuncId → List NV → Mem → Option (NV × Mem)

/-- Operations that write memory, and calls. -/
def opW (call : CallF) (o : Op) (ρ : Operand → Option NV) (m : Mem) : Option (NV × Mem) :=
  match o with
  | .store t a x => match ρ a, ρ x with
    | some (.ptr (some a)), some v => (wrVar P m t a v).map fun m' => (.undef, m')
    | _, _ => none
  | .mapUpdate t mp k x | .insert t mp k x => match ρ mp, ρ k, ρ x with
    | some mp, some k, some v => (mapUpdateV P t mp k v m).map fun m' => (.undef, m')
    | _, _, _ => none
  | .next it isString => match ρ it with
    | some v => nextV v isString m
    | none => none
  | .call c => match c.callee with
    | .value f => match ρ f, listM ρ c.args.toList with
      | some (.func (.func g) first captured), some args => call g (first ++ args ++ captured) m
      | _, _ => none
    | .builtin .append => match listM ρ c.args.toList, c.argTypes[0]?, c.argTypes[1]? with
      | some [x, y], some st, some yt => match P.underlying yt with
        | some (.int _) => none
        | some _ => appendV P st x y m
        | none => none
      | _, _, _ => none
    | .builtin .copy => match listM ρ c.args.toList, c.argTypes[0]? with
      | some [x, y], some dt => copyV P dt x y m
      | _, _ => none
    | .builtin .clear => match listM ρ c.args.toList, c.argTypes[0]? with
      | some [x], some t => clearV P t x m
      | _, _ => none
    | .builtin .delete => match listM ρ c.args.toList, c.argTypes[0]? with
      | some [x, k], some t => deleteV P t x k m
      | _, _ => none
    | _ => none
  | _ => none

inductive Cls where | T | R | A | W

def clsOf (o : Op) : Cls :=
  match o with
  | .move _ | .assign _ | .pick .. | .build .. | .nilCheck _ | .binOp .. | .unOp .. | .makeInterface .. | .makeFunc .. | .slice .. | .fieldAddr .. | .field .. | .indexAddr .. | .index .. | .extract .. => .T
  | .convert s d _ => match P.underlying s, P.underlying d with
    | some (.slice _), some .string => .R
    | some .string, some (.slice _) => .A
    | _, _ => .T
  | .load .. | .lookup .. => .R
  | .alloc _ | .box .. | .buildSlice .. | .makeSlice .. | .makeMap .. | .range .. => .A
  | .call c => match c.callee, c.argTypes[0]? with
    | .builtin .len, some t => match P.underlying t with
      | some (.map _ _) => .R
      | _ => .T
    | .builtin .cap, _ | .builtin .max, _ | .builtin .min, _ => .T
    | _, _ => .W
  | _ => .W

def putD (f : Tr NV) (dst : Option Tmp) (v : NV) : Tr NV :=
  match dst with
  | some d => f.set d v
  | none => f

def wantedN (ops : Array Oper) (o : Oper) (f : Tr NV) : Option Bool :=
  match o.guard with
  | none => some true
  | some (j, want) => match (ops[j]?).bind (·.dst) with
    | none => some false
    | some d => match f.get d with
      | some (.bool b) => some (match b, want with | true, true | false, false => true | _, _ => false)
      | some _ => some false
      | none => none

variable (G : Nat)

/-- One operation, in a region whose order is given. -/
def opN (call : CallF) (o : Oper) (f : Tr NV) (m : Mem) : Option (NV × Mem) :=
  match clsOf P o.op with
  | .T => (opT P o.op (evO G f)).map fun v => (v, m)
  | .R => (opR P o.op m.view (evO G f)).map fun v => (v, m)
  | .A => (opA P o.op (evO G f)).map fun x => (x.2 m.next, m.new x.1)
  | .W => opW P call o.op (evO G f) m

def runOps (call : CallF) (ops : Array Oper) : List Oper → Tr NV → Mem → Option (Tr NV × Mem)
  | [], f, m => some (f, m)
  | o :: r, f, m =>
    match wantedN ops o f with
    | some true => match opN P G call o f m with
      | some (v, m') => runOps call ops r (putD f o.dst v) m'
      | none => none
    | some false => runOps call ops r (putD f o.dst .undef) m
    | none => none

/-- The same value, sign by sign. -/
def eqNA : Option NA → Option NA → Bool
  | none, none => true
  | some a, some b => Nat.beq a.blk b.blk && Nat.beq a.off b.off && Nat.beq a.gen b.gen
  | _, _ => false
def eqCap : NCap → NCap → Bool
  | .exact a, .exact b => Nat.beq a b
  | .opn a c, .opn b d => Nat.beq a b && Nat.beq c d
  | _, _ => false
def eqB : Bool → Bool → Bool
  | true, true | false, false => true
  | _, _ => false
def eqON : Option Nat → Option Nat → Bool
  | none, none => true
  | some a, some b => Nat.beq a b
  | _, _ => false
mutual
def eqNV : NV → NV → Bool
  | .bool a, .bool b => eqB a b
  | .int k a, .int k' b => eqK k k' && eqI a b
  | .str a, .str b => eqS a b
  | .ptr a, .ptr b => eqNA a b
  | .slice a n c, .slice a' n' c' => eqNA a a' && Nat.beq n n' && eqCap c c'
  | .map a, .map b => eqON a b
  | .func (.func f) a b, .func (.func g) c d => Nat.beq f g && eqNVs a c && eqNVs b d
  | .nilFunc, .nilFunc => true
  | .iface t v, .iface u w => Nat.beq t u && eqNV v w
  | .nilIface, .nilIface => true
  | .agg a, .agg b => eqNVs a b
  | .tuple a, .tuple b => eqNVs a b
  | _, _ => false
def eqNVs : List NV → List NV → Bool
  | [], [] => true
  | a :: x, b :: y => eqNV a b && eqNVs x y
  | _, _ => false
end

/-- Regions that draw their order. Which operation writes a slot. -/
def writersGo : Nat → List Oper → Tr Nat → Option (Tr Nat)
  | _, [], acc => some acc
  | i, o :: r, acc => match o.dst with
    | none => writersGo (i + 1) r acc
    | some d => match acc.get d with
      | none => writersGo (i + 1) r (acc.set d i)
      | some _ => none

/-- What must come before each. -/
def maskAdd (acc : Tr Nat) (s : Nat) (e : Edge) : Nat :=
  bif Region.binds .any e then Nat.lor s (Nat.lor (Nat.pow 2 e.on) ((acc.get e.on).getD 0)) else s

def masksGo : Nat → List Oper → Tr Nat → Tr Nat
  | _, [], acc => acc
  | i, o :: r, acc => masksGo (i + 1) r (acc.set i (o.after.toList.foldl (maskAdd acc) 0))

def maskOf (bf : Tr Nat) (i : Nat) : Nat := (bf.get i).getD 0

/-- A slot's value for operation 'i': new if its writer must come first, old if its writer must come later. -/
def evL (G : Nat) (wr bf : Tr Nat) (i : Nat) (f0 f : Tr NV) (x : Operand) : Option NV :=
  match x with
  | .tmp t => match wr.get t with
    | none => evO G f0 x
    | some j => bif Nat.testBit (maskOf bf i) j then evO G f x else bif Nat.beq j i || Nat.testBit (maskOf bf j) i then evO G f0 x else none
  | _ => evO G f0 x

def wantedL (ops : Array Oper) (mask : Nat) (o : Oper) (f : Tr NV) : Option Bool :=
  match o.guard with
  | none => some true
  | some (j, _) => bif Nat.testBit mask j then wantedN ops o f else none

structure Rd where
  i : Nat
  op : Op
  v : NV

structure DSt where
  f : Tr NV
  m : Mem
  made : List (Nat × NObj)
  states : List (Nat × Mem)
  reads : List Rd

def getA : List (Nat × NObj) → Nat → Option NObj
  | [], _ => none
  | (i, o) :: r, n => bif Nat.beq i n then some o else getA r n

def viewP (n0 : Nat) (p : Nat → Bool) (made : List (Nat × NObj)) (m : Mem) : View := fun b =>
  match m.heap.get b with
  | some o => some o
  | none => bif Nat.ble n0 b && p (b - n0) then getA made (b - n0) else none

def commit (n0 mask : Nat) : List (Nat × NObj) → Mem → Mem
  | [], m => m
  | (i, o) :: r, m => commit n0 mask r (bif Nat.testBit mask i then (match m.heap.get (n0 + i) with
    | some _ => m
    | none => { m with heap := m.heap.set (n0 + i) o }) else m)

def drawStep (call : CallF) (n0 : Nat) (ops : Array Oper) (wr bf : Tr Nat) (f0 : Tr NV) (i : Nat) (o : Oper) (s : DSt) : Option DSt :=
  match wantedL ops (maskOf bf i) o s.f with
  | some true =>
    match clsOf P o.op with
    | .T => match opT P o.op (evL G wr bf i f0 s.f) with
      | some v => some { s with f := putD s.f o.dst v }
      | none => none
    | .A => match opA P o.op (evL G wr bf i f0 s.f) with
      | some (ob, mk) => some { s with f := putD s.f o.dst (mk (n0 + i)), made := (i, ob) :: s.made }
      | none => none
    | .R => match opR P o.op (viewP n0 (Nat.testBit (maskOf bf i)) s.made s.m) (evL G wr bf i f0 s.f) with
      | some v => some { s with f := putD s.f o.dst v, reads := ⟨i, o.op, v⟩ :: s.reads }
      | none => none
    | .W => match opW P call o.op (evL G wr bf i f0 s.f) (commit n0 (maskOf bf i) s.made s.m) with
      | some (v, m') => some { s with f := putD s.f o.dst v, m := m', states := (i, m') :: s.states }
      | none => none
  | some false => some { s with f := putD s.f o.dst .undef }
  | none => none

def drawAll (call : CallF) (n0 : Nat) (ops : Array Oper) (wr bf : Tr Nat) (f0 : Tr NV) : Nat → List Oper → DSt → Option DSt
  | _, [], s => some s
  | i, o :: r, s => match drawStep P G call n0 ops wr bf f0 i o s with
    | some s' => drawAll call n0 ops wr bf f0 (i + 1) r s'
    | none => none

def readNow (n0 : Nat) (wr bf : Tr Nat) (made : List (Nat × NObj)) (f0 F : Tr NV) (r : Rd) (m : Mem) : Bool :=
  match opR P r.op (viewP n0 (Nat.testBit (maskOf bf r.i)) made m) (evL G wr bf r.i f0 F) with
  | some v => eqNV v r.v
  | none => false

/-- Is read 'r' the same in each state in which it may be made? The later states first. -/
def readOk (n0 : Nat) (wr bf : Tr Nat) (made : List (Nat × NObj)) (m0 : Mem) (f0 F : Tr NV) (r : Rd) : List (Nat × Mem) → Bool
  | [] => readNow P G n0 wr bf made f0 F r m0
  | (w, m) :: older =>
    bif Nat.testBit (maskOf bf w) r.i then readOk n0 wr bf made m0 f0 F r older
    else readNow P G n0 wr bf made f0 F r m && (bif Nat.testBit (maskOf bf r.i) w then true else readOk n0 wr bf made m0 f0 F r older)

def isW (o : Oper) : Bool := match clsOf P o.op with | .W => true | _ => false

def edgesOk (i : Nat) : List Oper → Bool
  | [] => true
  | o :: r => o.after.toList.all (fun e => bif Region.binds .any e then Nat.blt e.on i else true) && edgesOk (i + 1) r

/-- Operations that write are all ordered: 'm' has the places of those so far. -/
def wOrdered (bf : Tr Nat) : Nat → Nat → List Oper → Bool
  | _, _, [] => true
  | i, m, o :: r => bif isW P o then Nat.beq (Nat.land (maskOf bf i) m) m && wOrdered bf (i + 1) (Nat.lor m (Nat.pow 2 i)) r else wOrdered bf (i + 1) m r

def runDraw (call : CallF) (ops : Array Oper) (f : Tr NV) (m : Mem) : Option (Tr NV × Mem) :=
  match writersGo 0 ops.toList .leaf with
  | none => none
  | some wr =>
    let bf := masksGo 0 ops.toList .leaf
    bif edgesOk 0 ops.toList && wOrdered P bf 0 0 ops.toList then
      let m0 : Mem := { m with next := m.next + ops.size }
      match drawAll P G call m.next ops wr bf f 0 ops.toList { f := f, m := m0, made := [], states := [], reads := [] } with
      | none => none
      | some s =>
        bif s.reads.all fun r => readOk P G m.next wr bf s.made m0 f s.f r s.states then
          some (s.f, commit m.next (Nat.pow 2 ops.size - 1) s.made s.m)
        else none
    else none

inductive Ex where
  | normal
  | exit (id : Nat)
  | ret

def iter (g : Tr NV → Mem → Option (Ex × Tr NV × Mem)) : Nat → Tr NV → Mem → Option (Ex × Tr NV × Mem)
  | 0, _, _ => none
  | k + 1, f, m => match g f m with
    | some (.normal, f', m') => iter g k f' m'
    | r => r

def exec (call : CallF) (fuel : Nat) : Code → Tr NV → Mem → Option (Ex × Tr NV × Mem)
  | .skip, f, m | .label _, f, m => some (.normal, f, m)
  | .region _ ops false, f, m => match runOps P G call ops ops.toList f m with
    | some (f', m') => some (.normal, f', m')
    | none => none
  | .region _ ops true, f, m => match runDraw P G call ops f m with
    | some (f', m') => some (.normal, f', m')
    | none => none
  | .seq a b, f, m => match exec call fuel a f m with
    | some (.normal, f', m') => exec call fuel b f' m'
    | r => r
  | .cond c a b, f, m => match evO G f c with
    | some (.bool true) => exec call fuel a f m
    | some (.bool false) => exec call fuel b f m
    | _ => none
  | .block id c, f, m => match exec call fuel c f m with
    | some (.exit id', f', m') => bif Nat.beq id' id then some (.normal, f', m') else some (.exit id', f', m')
    | r => r
  | .loop c, f, m => iter (exec call fuel c) fuel f m
  | .exit id, f, m => some (.exit id, f, m)
  | .scope c, f, m => exec call fuel c f m
  | .ret, f, m => some (.ret, f, m)
  | _, _, _ => none

def resultOf (f : Tr NV) (m : Mem) : ResultVar → Option NV
  | .tmp t => f.get t
  | .cell a t => match f.get a with
    | some (.ptr (some a)) => rdVar P m.view t a
    | _ => none

def resultsOf (fn : Func) (f : Tr NV) (m : Mem) : Option NV :=
  match listM (resultOf P f m) fn.results.toList with
  | some [v] => some v
  | some l => some (.tuple l)
  | none => none

def dstOk (n : Nat) (o : Oper) : Bool :=
  match o.dst with
  | none => true
  | some d => Nat.blt d n

/-- Each slot that the code writes is there. -/
def codeOk (n : Nat) : Code → Bool
  | .region _ ops _ => ops.toList.all (dstOk n)
  | .seq a b => codeOk n a && codeOk n b
  | .cond _ a b => codeOk n a && codeOk n b
  | .block _ c | .loop c | .scope c => codeOk n c
  | .rangeFunc _ _ _ _ => false
  | _ => true

def callN (ov : CallF → FuncId → Option (List NV → Mem → Option (NV × Mem))) : Nat → CallF
  | 0, _, _, _ => none
  | k + 1, g, args, m => match ov (callN ov k) g with
    | some h => h args m
    | none => match P.funcs[g]? with
      | none => none
      | some fn => match fn.body with
        | none => none
        | some c =>
          bif Nat.ble args.length fn.ntmps && codeOk fn.ntmps c && !(fn.name == "runtime.NumGoroutine") then
            match exec P G (callN ov k) k c (setRange (.all .undef) 0 args) m with
            | some (.normal, f, m') | some (.ret, f, m') => (resultsOf P fn f m').map fun v => (v, m')
            | _ => none
          else none

end
end Go.NI
