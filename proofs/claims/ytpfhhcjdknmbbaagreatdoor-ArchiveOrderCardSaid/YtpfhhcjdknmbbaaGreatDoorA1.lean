/-
  The deterministic evaluator D of the model's Code: values, heap, operations, execution. Definitions alone. How the evaluator's values and heap stand to the model's values and world. Reading and writing variables and elements: the evaluator's step against the model's. Writing: the evaluator's store against the model's. Operations that leave the heap alone: the evaluator's answer against the model's.
-/
import Derived.Calls
import Derived.Laws.AppendOwn
import Derived.KernelRfl
import Derived.Lib.Bytealg
import Derived.Below
import Derived.Laws.CopyRow
import Derived.Laws.Rows
import Derived.Laws.Strings
import Derived.Lib.Strings
set_option linter.all false
set_option linter.unusedSimpArgs false
set_option linter.unusedVariables false
namespace Go.DM

/-- Values of the evaluator. A frozen slice is its elements; own arrays and captured variables have numbers; 'lptr' and 'box' stand in slots alone. -/
inductive V where
  | int (k : IntKind) (n : Int)
  | bool (b : Bool)
  | str (s : List UInt8)
  | nilp | nils | nilfn | any
  | lptr (s off : Nat)
  | box (v : V)
  | ptr (id off : Nat)
  | aptr (id ver i off : Nat)
  | fptr (e : V) (off : Nat)
  | fl (tag tight : Bool) (elems : List V)
  | sl (id ver off len : Nat) (cap : Option Nat)
  | fn (f : Nat) (caps : List V)
  | agg (l : List V)
  | tuple (l : List V)
  deriving Inhabited

structure Arr where
  elems : List V
  ver : Nat
  opn : Bool
  sz : Nat
  deriving Inhabited

structure Heap where
  vars : List V
  arrs : List Arr
  deriving Inhabited

structure St where
  s : List V
  h : Heap
  deriving Inhabited

inductive Mode where
  | pure | shared | raw
  deriving DecidableEq, Inhabited

/-- The kind of a cell that can be compared. -/
inductive LK where
  | int (k : IntKind)
  | bool
  | str
  deriving DecidableEq, Inhabited

/-- What the evaluator is told of a program beside its text; none of it is trusted. -/
structure Env where
  P : Program
  mode : Nat → Mode
  esc : Nat → Nat → Bool
  own : Nat → Nat → Bool
  ann : Nat → Nat → List (Nat × Nat × Bool)
  ok : Nat → Bool
  eqOk : Nat → Option (List LK)
  ext : Nat → Option Nat

structure Ctx where
  fn : Nat
  nv : Nat
  na : Nat

abbrev Oracle := Nat × Nat → Nat → List V → Heap → Option (V × Heap)

def undefV : V := .tuple []

mutual
/-- Are two values written alike? -/
def veq : V → V → Bool
  | .int k n, y => match y with | .int k' n' => decide (k = k') && decide (n = n') | _ => false
  | .bool b, y => match y with | .bool b' => b == b' | _ => false
  | .str s, y => match y with | .str s' => s == s' | _ => false
  | .nilp, y => match y with | .nilp => true | _ => false
  | .nils, y => match y with | .nils => true | _ => false
  | .nilfn, y => match y with | .nilfn => true | _ => false
  | .any, y => match y with | .any => true | _ => false
  | .lptr r o, y => match y with | .lptr r' o' => Nat.beq r r' && Nat.beq o o' | _ => false
  | .box v, y => match y with | .box v' => veq v v' | _ => false
  | .ptr i o, y => match y with | .ptr i' o' => Nat.beq i i' && Nat.beq o o' | _ => false
  | .aptr a b c d, y => match y with | .aptr a' b' c' d' => Nat.beq a a' && (Nat.beq b b' && (Nat.beq c c' && Nat.beq d d')) | _ => false
  | .fptr e o, y => match y with | .fptr e' o' => veq e e' && Nat.beq o o' | _ => false
  | .fl t g l, y => match y with | .fl t' g' l' => (t == t') && ((g == g') && veqs l l') | _ => false
  | .sl a b c d k, y => match y with | .sl a' b' c' d' k' => Nat.beq a a' && (Nat.beq b b' && (Nat.beq c c' && (Nat.beq d d' && decide (k = k')))) | _ => false
  | .fn f l, y => match y with | .fn f' l' => Nat.beq f f' && veqs l l' | _ => false
  | .agg l, y => match y with | .agg l' => veqs l l' | _ => false
  | .tuple l, y => match y with | .tuple l' => veqs l l' | _ => false
def veqs : List V → List V → Bool
  | [], y => match y with | [] => true | _ => false
  | x :: l, y => match y with | x' :: l' => veq x x' && veqs l l' | _ => false
end

def arrsEq : List Arr → List Arr → Bool
  | [], [] => true
  | a :: l, b :: m => veqs a.elems b.elems && (Nat.beq a.ver b.ver && ((a.opn == b.opn) && (Nat.beq a.sz b.sz && arrsEq l m)))
  | _, _ => false
def heapEq (h h' : Heap) : Bool := veqs h.vars h'.vars && arrsEq h.arrs h'.arrs

def V.cells : V → List V
  | .agg l => l
  | v => [v]

/-- May it be handed on or laid into memory? -/
def V.storable : V → Bool
  | .lptr _ _ | .box _ | .tuple _ | .any | .fptr _ _ => false
  | _ => true

/-- May it come back from a call? -/
def resOk : V → Bool
  | .tuple l => l.all V.storable
  | .any => true
  | v => v.storable

def V.isLptr : V → Bool
  | .lptr _ _ => true
  | _ => false

/-- A cell that leads to nothing of the evaluator's own. -/
def V.gnd : V → Bool
  | .int _ _ | .bool _ | .str _ | .nilp | .nils | .nilfn | .fl _ _ _ => true
  | .fn _ caps => caps.isEmpty
  | _ => false

def lowC0 (nv na : Nat) : V → Bool
  | .ptr id _ => Nat.blt id nv
  | .aptr id _ _ _ => Nat.blt id na
  | .sl id _ _ _ _ => Nat.blt id na
  | .fn _ caps => caps.isEmpty
  | _ => true

def lowC (nv na : Nat) : V → Bool
  | .fn _ caps => caps.all (lowC0 nv na)
  | v => lowC0 nv na v

def low (nv na : Nat) (v : V) : Bool := v.cells.all (lowC nv na)

def ofCell? : Value → Option V
  | .bool b => some (.bool b)
  | .int k n => some (.int k n)
  | .string s => some (.str s.data.toList)
  | .pointer none => some .nilp
  | .slice none 0 0 => some .nils
  | .nilFunc => some .nilfn
  | _ => none

def mapO {α β : Type} (f : α → Option β) : List α → Option (List β)
  | [] => some []
  | x :: l => (f x).bind fun y => (mapO f l).bind fun ys => some (y :: ys)

def ofVal : Value → V
  | .agg cs => match mapO ofCell? cs.toList with
    | some l => .agg l
    | none => .any
  | v => match ofCell? v with
    | some x => x
    | none => .any

def ev (s : List V) : Operand → V
  | .tmp t => match s[t]? with
    | some (.box _) => .lptr t 0
    | some v => v
    | none => undefV
  | .const v => ofVal v
  | .func f => .fn f []
  | .global _ => .any

/-! types -/
def tAgg (P : Program) (t : TypeId) : Option Bool :=
  match P.underlying t with
  | some (.struct _) | some (.array _ _) => some true
  | some _ => some false
  | none => none
def tZero (P : Program) (t : TypeId) : Option V := ((P.info? t).bind (·.zero)).map ofVal
def tField (P : Program) (t : TypeId) (f : Nat) : Option (Nat × TypeId) :=
  match P.underlying t with
  | some (.struct fs) => (fs[f]?).map fun x => (x.offset, x.type)
  | _ => none
def tElem (P : Program) (t : TypeId) : Option TypeId :=
  match P.underlying t with
  | some (.slice e) => bif (P.info? e).isSome then some e else none
  | _ => none

/-! memory -/
def getAt (agg : Bool) (n off : Nat) (v : V) : Option V :=
  let c := (v.cells.drop off).take n
  bif c.length == n then (bif agg then some (.agg c) else match c with | [x] => some x | _ => none) else none

def setAt (off : Nat) (x : List V) (v : V) : Option V :=
  bif Nat.ble (off + x.length) v.cells.length then
    let c := v.cells.take off ++ (x ++ v.cells.drop (off + x.length))
    match v with
    | .agg _ => some (.agg c)
    | _ => match c with | [y] => some y | _ => none
  else none

def rdMem (st : St) : V → Option (V × Nat)
  | .lptr r o => match st.s[r]? with
    | some (.box v) => some (v, o)
    | _ => none
  | .ptr id o => (st.h.vars[id]?).map fun v => (v, o)
  | .aptr id ver i o => (st.h.arrs[id]?).bind fun A => bif A.ver == ver then (A.elems[i]?).map fun v => (v, o) else none
  | .fptr e o => some (e, o)
  | _ => none

def loadV (P : Program) (st : St) (t : TypeId) (p : V) : Option V :=
  (tAgg P t).bind fun g => (rdMem st p).bind fun r => getAt g (P.cellsOf t) r.2 r.1

def wrMem (C : Ctx) (st : St) (p : V) (x : List V) : Option St :=
  match p with
  | .lptr r o => match st.s[r]? with
    | some (.box v) => (setAt o x v).map fun v' => { st with s := st.s.set r (.box v') }
    | _ => none
  | .ptr id o => (st.h.vars[id]?).bind fun v => (setAt o x v).bind fun v' =>
      bif !(Nat.blt id C.nv) || x.all (lowC C.nv C.na) then some { st with h := { st.h with vars := st.h.vars.set id v' } } else none
  | .aptr id ver i o => (st.h.arrs[id]?).bind fun A => bif A.ver == ver then
      (A.elems[i]?).bind fun v => (setAt o x v).bind fun v' =>
        bif !(Nat.blt id C.na) || x.all (lowC C.nv C.na) then some { st with h := { st.h with arrs := st.h.arrs.set id { A with elems := A.elems.set i v' } } } else none
    else none
  | _ => none

def storeV (P : Program) (C : Ctx) (st : St) (t : TypeId) (p x : V) : Option St :=
  bif (tAgg P t).isSome && (x.storable && x.cells.length == P.cellsOf t) then wrMem C st p x.cells else none

/-- The elements of a slice. -/
def elemsOf (h : Heap) : V → Option (List V)
  | .nils => some []
  | .fl _ _ es => some es
  | .sl id ver off len _ => (h.arrs[id]?).bind fun A =>
      bif A.ver == ver && Nat.ble (off + len) A.elems.length then some ((A.elems.drop off).take len) else none
  | _ => none

/-! scalar operations -/
def intBin (op : BinOp) (k : IntKind) (a b : Int) : Option V :=
  match op with
  | .add => some (.int k (k.wrap (a + b)))
  | .sub => some (.int k (k.wrap (a - b)))
  | .mul => some (.int k (k.wrap (a * b)))
  | .quo => bif decide (b = 0) then none else some (.int k (k.wrap (a.tdiv b)))
  | .rem => bif decide (b = 0) then none else some (.int k (a.tmod b))
  | .and => some (.int k (k.wrap (BitVec.ofInt k.bits a &&& BitVec.ofInt k.bits b).toNat))
  | .or => some (.int k (k.wrap (BitVec.ofInt k.bits a ||| BitVec.ofInt k.bits b).toNat))
  | .xor => some (.int k (k.wrap (BitVec.ofInt k.bits a ^^^ BitVec.ofInt k.bits b).toNat))
  | .andNot => some (.int k (k.wrap (BitVec.ofInt k.bits a &&& ~~~ BitVec.ofInt k.bits b).toNat))
  | .eql => some (.bool (a == b))
  | .neq => some (.bool (a != b))
  | .lss => some (.bool (decide (a < b)))
  | .leq => some (.bool (decide (a ≤ b)))
  | .gtr => some (.bool (decide (a > b)))
  | .geq => some (.bool (decide (a ≥ b)))
  | _ => none

def strBin (op : BinOp) (a b : List UInt8) : Option V :=
  match op with
  | .add => bif Nat.ble (a.length + b.length) 9223372036854775807 then some (.str (a ++ b)) else none
  | .eql => some (.bool (a == b))
  | .neq => some (.bool (!(a == b)))
  | .lss => some (.bool (Op.bytesLess a b))
  | .leq => some (.bool (Op.bytesLess a b || a == b))
  | .gtr => some (.bool (!(Op.bytesLess a b || a == b)))
  | .geq => some (.bool (!(Op.bytesLess a b)))
  | _ => none

def eqCell : LK → V → V → Option Bool
  | .int k, .int k1 a, .int k2 b => bif decide (k1 = k) && decide (k2 = k) then some (a == b) else none
  | .bool, .bool a, .bool b => some (a == b)
  | .str, .str a, .str b => some (a == b)
  | _, _, _ => none

def eqCells : List LK → List V → List V → Option Bool
  | [], [], [] => some true
  | k :: ks, x :: xs, y :: ys => (eqCell k x y).bind fun b => (eqCells ks xs ys).bind fun c => some (b && c)
  | _, _, _ => none

def nilEq (P : Program) (t : TypeId) : V → V → Option Bool
  | .nilp, .nilp => match P.underlying t with | some (.pointer _) => some true | _ => none
  | .nilp, .ptr _ _ | .ptr _ _, .nilp => match P.underlying t with | some (.pointer _) => some false | _ => none
  | .nils, .nils => match P.underlying t with | some (.slice _) => some true | _ => none
  | .nils, .fl _ _ _ | .fl _ _ _, .nils | .nils, .sl _ _ _ _ _ | .sl _ _ _ _ _, .nils => match P.underlying t with | some (.slice _) => some false | _ => none
  | .nilfn, .nilfn => match P.underlying t with | some (.func _ _ _) => some true | _ => none
  | .nilfn, .fn _ _ | .fn _ _, .nilfn => match P.underlying t with | some (.func _ _ _) => some false | _ => none
  | .bool a, .bool b => match P.underlying t with | some .bool => some (a == b) | _ => none
  | _, _ => none

def isEqOp : BinOp → Option Bool
  | .eql => some true
  | .neq => some false
  | _ => none

def isShift : BinOp → Option Bool
  | .shl => some true
  | .shr => some false
  | _ => none

def shiftV (left : Bool) (k : IntKind) (a b : Int) : Option V :=
  bif decide (b < 0) then none
  else bif left then some (.int k (k.wrap (a * 2 ^ (min b.toNat k.bits)))) else some (.int k (a.fdiv (2 ^ (min b.toNat k.bits))))

def binV (E : Env) (op : BinOp) (t : TypeId) (x y : V) : Option V :=
  match x, y with
  | .int k a, .int k' b => match isShift op with
    | some l => shiftV l k a b
    | none => bif decide (k = k') then intBin op k a b else none
  | .str a, .str b => strBin op a b
  | .agg a, .agg b => (E.eqOk t).bind fun ks => (isEqOp op).bind fun e => (eqCells ks a b).map fun r => .bool (r == e)
  | x, y => (isEqOp op).bind fun e => (nilEq E.P t x y).map fun r => .bool (r == e)

/-! aggregates -/
def fillV (place : Nat → Option (Nat × Nat)) (cells : List V) : List (Nat × V) → Option (List V)
  | [] => some cells
  | (i, v) :: rest => (place i).bind fun (off, size) =>
      bif v.storable && (v.cells.length == size && Nat.ble (off + v.cells.length) cells.length) then
        fillV place (cells.take off ++ (v.cells ++ cells.drop (off + v.cells.length))) rest
      else none

def placeOf (P : Program) (t : TypeId) : Nat → Option (Nat × Nat) := fun i =>
  match P.underlying t with
  | some (.struct fs) => (fs[i]?).map fun f => (f.offset, P.cellsOf f.type)
  | some (.array _ e) => some (i * P.cellsOf e, P.cellsOf e)
  | _ => none

/-- Are the sizes of the parts known? -/
def buildOk (P : Program) (t : TypeId) : Bool :=
  match P.underlying t with
  | some (.struct fs) => fs.toList.all fun f => (P.info? f.type).isSome
  | some (.array _ e) => (P.info? e).isSome
  | _ => false

def setPart (sz : Nat) (es : List V) : List (Nat × V) → Option (List V)
  | [] => some es
  | (i, v) :: rest => bif v.storable && (v.cells.length == sz && Nat.blt i es.length) then setPart sz (es.set i v) rest else none

def V.atomic : V → Bool
  | .ptr _ _ | .aptr _ _ _ _ | .sl _ _ _ _ _ => true
  | v => v.gnd

/-! freezing -/
def frz (h : Heap) (nv na : Nat) : Nat → V → Option V
  | 0, _ => none
  | d + 1, .agg l => (mapO (frz h nv na d) l).map .agg
  | d + 1, .tuple l => (mapO (frz h nv na d) l).map .tuple
  | d + 1, .sl id ver off len cap => bif Nat.blt id na then some (.sl id ver off len cap) else
      (elemsOf h (.sl id ver off len cap)).bind fun es => (mapO (frz h nv na d) es).bind fun es' =>
        bif es'.all (fun e => e.cells.all V.gnd) then some (.fl true false es') else none
  | _ + 1, .ptr id o => bif Nat.blt id nv then some (.ptr id o) else none
  | _ + 1, .aptr id ver i o => bif Nat.blt id na then some (.aptr id ver i o) else none
  | _ + 1, .fn f caps => bif caps.all (lowC0 nv na) then some (.fn f caps) else none
  | _ + 1, .lptr _ _ | _ + 1, .box _ | _ + 1, .any | _ + 1, .fptr _ _ => none
  | _ + 1, v => some v

/-- Nothing borrowed is in it, and nothing of the evaluator's own. -/
def clean : Nat → V → Bool
  | 0, _ => false
  | d + 1, .agg l => l.all (clean d)
  | d + 1, .tuple l => l.all (clean d)
  | d + 1, .fl tag _ es => tag && es.all (clean d)
  | _ + 1, .fn _ caps => caps.isEmpty
  | _ + 1, .int _ _ | _ + 1, .bool _ | _ + 1, .str _ | _ + 1, .nilp | _ + 1, .nils | _ + 1, .nilfn => true
  | _ + 1, _ => false

def tightOf (cap : Option Nat) (len : Nat) : Bool :=
  match cap with
  | some c => c == len
  | none => false

def brwC (h : Heap) : V → Option V
  | .sl id ver off len cap => (elemsOf h (.sl id ver off len cap)).bind fun es =>
      bif es.all (fun e => e.cells.all V.gnd) then some (.fl false (tightOf cap len) es) else none
  | v => bif v.gnd then some v else none

def brw (h : Heap) : V → Option V
  | .agg l => (mapO (brwC h) l).map .agg
  | v => brwC h v

/-- Are the elements as wide as the type says? -/
def wideOk (P : Program) (h : Heap) (t : TypeId) : V → Bool
  | .fl _ _ es => match tElem P t with
    | some e => (match es with | [] => true | x :: _ => x.cells.length == P.cellsOf e)
    | none => false
  | .sl id _ _ _ _ => match tElem P t, h.arrs[id]? with
    | some e, some A => A.sz == P.cellsOf e
    | _, _ => false
  | .nils => (tElem P t).isSome
  | _ => false

/-! built-ins -/
def lenV (P : Program) (t : TypeId) (x : V) : Option V :=
  match P.underlying t with
  | some .string => match x with
    | .str s => some (.int .i64 s.length)
    | _ => none
  | some (.slice _) => match x with
    | .nils => some (.int .i64 0)
    | .fl _ _ es => some (.int .i64 es.length)
    | .sl _ _ _ len _ => some (.int .i64 len)
    | _ => none
  | some (.array n _) => some (.int .i64 n)
  | _ => none

def capV : V → Option V
  | .nils => some (.int .i64 0)
  | .fl _ true es => some (.int .i64 es.length)
  | .sl _ _ _ _ (some c) => some (.int .i64 c)
  | _ => none

/-- The zero value of a type, if it is of the right width and leads to nothing. -/
def zOk (P : Program) (e : TypeId) : Option V :=
  (tZero P e).bind fun z => bif z.storable && (z.cells.length == P.cellsOf e && z.cells.all V.gnd) then some z else none

/-- A new array behind the others. -/
def grow (P : Program) (h : Heap) (es : List V) (e : TypeId) : Option (V × Heap) :=
  bif Nat.ble (es.length * P.bytesOf e) 140737488355328 && (!(Nat.beq (P.bytesOf e) 0) && (zOk P e).isSome) then
    some (.sl h.arrs.length 0 0 es.length none, { h with arrs := h.arrs ++ [⟨es, 0, true, P.cellsOf e⟩] })
  else none

def lowAll (C : Ctx) (id : Nat) (es : List V) : Bool := !(Nat.blt id C.na) || es.all (low C.nv C.na)

def roomV (cap : Option Nat) (off len m n : Nat) : Bool :=
  match cap with
  | some c => Nat.ble (len + m) c
  | none => Nat.ble (off + len + m) n

def appendV (P : Program) (C : Ctx) (h : Heap) (t : TypeId) (x y : V) : Option (V × Heap) :=
  (tElem P t).bind fun e => (elemsOf h y).bind fun ys =>
  bif wideOk P h t x && (ys.all V.storable && ys.all (fun v => v.cells.length == P.cellsOf e)) then
    match x with
    | .nils => bif ys.isEmpty then some (.nils, h) else grow P h ys e
    | .fl _ true es => bif ys.isEmpty then some (x, h) else grow P h (es ++ ys) e
    | .sl id ver off len cap => bif ys.isEmpty then some (x, h) else
      (h.arrs[id]?).bind fun A => bif A.ver == ver && (Nat.ble (off + len) A.elems.length && lowAll C id ys) then
        bif roomV cap off len ys.length A.elems.length then
          some (.sl id ver off (len + ys.length) cap, { h with arrs := h.arrs.set id { A with elems := A.elems.take (off + len) ++ (ys ++ A.elems.drop (off + len + ys.length)) } })
        else match cap with
          | some _ => grow P h ((A.elems.drop off).take len ++ ys) e
          | none => bif Nat.beq (off + len) A.elems.length && (Nat.ble ((len + ys.length) * P.bytesOf e) 140737488355328 && (!(Nat.beq (P.bytesOf e) 0) && (zOk P e).isSome)) then
              some (.sl id (ver + 1) 0 (len + ys.length) none, { h with arrs := h.arrs.set id { A with elems := A.elems.drop off ++ ys, ver := ver + 1, opn := true } })
            else none
      else none
    | _ => none
  else none

def copyV (P : Program) (C : Ctx) (h : Heap) (t : TypeId) (x y : V) : Option (V × Heap) :=
  (tElem P t).bind fun e => (elemsOf h y).bind fun ys =>
  bif wideOk P h t x && (ys.all V.storable && ys.all (fun v => v.cells.length == P.cellsOf e)) then
    match x with
    | .nils => some (.int .i64 0, h)
    | .sl id ver off len _ => (h.arrs[id]?).bind fun A => bif A.ver == ver && Nat.ble (off + len) A.elems.length then
        let n := min ys.length len
        bif lowAll C id (ys.take n) then
          some (.int .i64 n, { h with arrs := h.arrs.set id { A with elems := A.elems.take off ++ (ys.take n ++ A.elems.drop (off + n)) } })
        else none
      else none
    | _ => none
  else none

def clearV (P : Program) (h : Heap) (t : TypeId) (x : V) : Option (V × Heap) :=
  (tElem P t).bind fun e => (zOk P e).bind fun z => bif !(wideOk P h t x) then none else
    match x with
    | .nils => some (.tuple [], h)
    | .sl id ver off len _ => (h.arrs[id]?).bind fun A => bif A.ver == ver && Nat.ble (off + len) A.elems.length then
        some (.tuple [], { h with arrs := h.arrs.set id { A with elems := A.elems.take off ++ (List.replicate len z ++ A.elems.drop (off + len)) } })
      else none
    | _ => none

def foldMM (mx : Bool) : Int → List V → IntKind → Option V
  | a, [], k => some (.int k a)
  | a, .int k' b :: l, k => bif decide (k = k') then foldMM mx (bif mx then (if b > a then b else a) else (if b < a then b else a)) l k else none
  | _, _ :: _, _ => none

def mmV (mx : Bool) : List V → Option V
  | .int k a :: l => foldMM mx a l k
  | _ => none

/-! slicing -/
def boundV : Option V → Nat → Option Nat
  | none, d => some d
  | some (.int _ n), _ => bif decide (0 ≤ n) then some n.toNat else none
  | some _, _ => none

def isStrT (P : Program) (t : TypeId) : Bool :=
  match P.underlying t with
  | some .string => true
  | _ => false
def capGe (cap : Option Nat) (len m : Nat) : Bool :=
  match cap with
  | some c => Nat.ble m c
  | none => Nat.ble m len

def sliceV (P : Program) (hp : Heap) (t : TypeId) (x : V) (lo hi mx : Option V) : Option V :=
  match x with
  | .str s => (boundV lo 0).bind fun l => (boundV hi s.length).bind fun h =>
      bif Nat.ble l h && (Nat.ble h s.length && mx.isNone) && isStrT P t then some (.str ((s.take h).drop l)) else none
  | .nils => bif wideOk P hp t x then (boundV lo 0).bind fun l => (boundV hi 0).bind fun h => (boundV mx 0).bind fun m =>
      bif Nat.beq l 0 && (Nat.beq h 0 && Nat.beq m 0) && (mx.isNone || hi.isSome) then some .nils else none else none
  | .fl tag tight es => bif wideOk P hp t x then (boundV lo 0).bind fun l => (boundV hi es.length).bind fun h => (boundV mx es.length).bind fun m =>
      bif Nat.ble l h && (Nat.ble h m && Nat.ble m es.length) && (mx.isNone || hi.isSome) then
        some (.fl tag ((mx.isSome && Nat.beq m h) || (mx.isNone && (tight && Nat.beq h es.length))) ((es.take h).drop l)) else none else none
  | .sl id ver off len cap => bif wideOk P hp t x then (boundV lo 0).bind fun l => (boundV hi len).bind fun h =>
      match mx with
      | none => match cap with
        | some c => bif Nat.ble l h && Nat.ble h c then some (.sl id ver (off + l) (h - l) (some (c - l))) else none
        | none => bif Nat.ble l h && Nat.ble h len then some (.sl id ver (off + l) (h - l) none) else none
      | some _ => (boundV mx 0).bind fun m =>
        bif Nat.ble l h && (Nat.ble h m && capGe cap len m) && hi.isSome then some (.sl id ver (off + l) (h - l) (some (m - l))) else none
    else none
  | _ => none

def idxOf : V → Option Nat
  | .int _ n => bif decide (0 ≤ n) then some n.toNat else none
  | _ => none

/-- An address moved on. -/
def moveBy (n : Nat) : V → Option V
  | .lptr s o => some (.lptr s (o + n))
  | .ptr id o => some (.ptr id (o + n))
  | .aptr id ver i o => some (.aptr id ver i (o + n))
  | .fptr v o => some (.fptr v (o + n))
  | _ => none

def indexAddrV (P : Program) (h : Heap) (t : TypeId) (x i : V) : Option V :=
  (idxOf i).bind fun j =>
    match x with
    | .fl _ _ es => bif wideOk P h t x then (es[j]?).map fun e => .fptr e 0 else none
    | .sl id ver off len _ => bif wideOk P h t x && Nat.blt j len then some (.aptr id ver (off + j) 0) else none
    | x => match P.underlying t with
      | some (.array n e) => bif Nat.blt j n && (P.info? e).isSome then
          moveBy (j * P.cellsOf e) x else none
      | _ => none

def fieldAddrV (P : Program) (t : TypeId) (x : V) (f : Nat) : Option V :=
  (tField P t f).bind fun (off, ty) => bif Nat.beq (P.cellsOf ty) 0 then none else moveBy off x

def indexV (P : Program) (t : TypeId) (x i : V) : Option V :=
  (idxOf i).bind fun j =>
    match x with
    | .str s => bif isStrT P t then (s[j]?).map fun b => .int .u8 b.toNat else none
    | .agg cs => match P.underlying t with
      | some (.array n e) => bif Nat.blt j n then (tAgg P e).bind fun g => getAt g (P.cellsOf e) (j * P.cellsOf e) (.agg cs) else none
      | _ => none
    | _ => none

def makeSliceV (P : Program) (h : Heap) (t : TypeId) (l c : V) : Option (V × Heap) :=
  (tElem P t).bind fun e => (zOk P e).bind fun z => (idxOf l).bind fun n => (idxOf c).bind fun m =>
    bif Nat.ble n m && (Nat.ble (m * P.bytesOf e) 281474976710656 && Nat.ble m 281474976710656) then
      some (.sl h.arrs.length 0 0 n (some m), { h with arrs := h.arrs ++ [⟨List.replicate m z, 0, false, P.cellsOf e⟩] })
    else none

/-! one operation: its value, and the state behind it (the destination is set by the caller) -/
def opX (E : Env) (C : Ctx) (Φ : Oracle) (o : Oper) (st : St) : Option (V × St) :=
  let e := ev st.s
  match o.op with
  | .move x => some (e x, st)
  | .assign x => bif (e x).isLptr then none else some (e x, st)
  | .pick c a b => match e c with
    | .bool t => some (bif t then e a else e b, st)
    | _ => none
  | .alloc t => (tZero E.P t).bind fun z => bif z.storable && z.cells.length == E.P.cellsOf t then
      (match o.dst with
      | some d => bif E.esc C.fn d then some (.ptr st.h.vars.length 0, { st with h := { st.h with vars := st.h.vars ++ [z] } }) else some (.box z, st)
      | none => none) else none
  | .box t x => bif (e x).storable && (e x).cells.length == E.P.cellsOf t then
      (match o.dst with
      | some d => bif E.esc C.fn d then some (.ptr st.h.vars.length 0, { st with h := { st.h with vars := st.h.vars ++ [e x] } }) else some (.box (e x), st)
      | none => none) else none
  | .build t parts => (tZero E.P t).bind fun z => bif buildOk E.P t && (z.storable && z.cells.length == E.P.cellsOf t) then
      (fillV (placeOf E.P t) z.cells (parts.toList.map fun p => (p.1, e p.2))).map fun l => (.agg l, st) else none
  | .buildSlice t len parts => (tElem E.P t).bind fun et =>
      bif Nat.ble (len * E.P.cellsOf et) 16777216 && Nat.blt 0 (E.P.cellsOf et) then
      (bif Nat.beq len 0 then some undefV else zOk E.P et).bind fun z =>
      (setPart (E.P.cellsOf et) (List.replicate len z) (parts.toList.map fun p => (p.1, e p.2))).bind fun es =>
          match o.dst with
          | some d => bif E.own C.fn d then
              some (.sl st.h.arrs.length 0 0 len (some len), { st with h := { st.h with arrs := st.h.arrs ++ [⟨es, 0, false, E.P.cellsOf et⟩] } })
            else bif es.all (fun v => v.cells.all V.gnd) then some (.fl true true es, st) else none
          | none => none
      else none
  | .load t p => (loadV E.P st t (e p)).map fun v => (v, st)
  | .store t p x => (storeV E.P C st t (e p) (e x)).map fun st' => (undefV, st')
  | .nilCheck x => match e x with
    | .lptr s o => some (.lptr s o, st)
    | .ptr i o => some (.ptr i o, st)
    | .aptr i v j o => some (.aptr i v j o, st)
    | .fptr v o => some (.fptr v o, st)
    | .fn f cs => some (.fn f cs, st)
    | _ => none
  | .binOp op t x y _ => (binV E op t (e x) (e y)).map fun v => (v, st)
  | .unOp op _ x => match op, e x with
    | .not, .bool b => some (.bool (!b), st)
    | .neg, .int k n => some (.int k (k.wrap (0 - n)), st)
    | _, _ => none
  | .convert s d x => match E.P.underlying s, E.P.underlying d, e x with
    | some _, some (.int k), .int _ n => some (.int k (k.wrap n), st)
    | some .string, some .string, .str l => some (.str l, st)
    | _, _, _ => none
  | .makeFunc fn first caps => match fn with
    | .func f => bif first.isEmpty && (caps.toList.map e).all V.atomic then some (.fn f (caps.toList.map e), st) else none
    | _ => none
  | .makeSlice t l c => (makeSliceV E.P st.h t (e l) (e c)).map fun (v, h) => (v, { st with h := h })
  | .slice t x lo hi mx => (sliceV E.P st.h t (e x) (lo.map e) (hi.map e) (mx.map e)).map fun v => (v, st)
  | .fieldAddr t x f => (fieldAddrV E.P t (e x) f).map fun v => (v, st)
  | .indexAddr t x i => (indexAddrV E.P st.h t (e x) (e i)).map fun v => (v, st)
  | .index t x i => (indexV E.P t (e x) (e i)).map fun v => (v, st)
  | .extract x i => match e x with
    | .tuple l => (l[i]?).map fun v => (v, st)
    | _ => none
  | .call c =>
    let args := c.args.toList.map e
    match c.callee with
    | .value f => match e f with
      | .fn g caps => bif args.all V.storable then (Φ (C.nv, C.na) g (args ++ caps) st.h).bind fun r => bif resOk r.1 then some (r.1, { st with h := r.2 }) else none else none
      | _ => none
    | .builtin b => match b, args, c.argTypes.toList with
      | .len, [x], [t] => (lenV E.P t x).map fun v => (v, st)
      | .cap, [x], [t] => bif (tElem E.P t).isSome then (capV x).map fun v => (v, st) else none
      | .append, [x, y], [t, u] => bif (tElem E.P u).isSome then (appendV E.P C st.h t x y).map fun (v, h) => (v, { st with h := h }) else none
      | .copy, [x, y], [t, _] => (copyV E.P C st.h t x y).map fun (v, h) => (v, { st with h := h })
      | .clear, [x], [t] => (clearV E.P st.h t x).map fun (v, h) => (v, { st with h := h })
      | .max, l, _ => (mmV true l).map fun v => (v, st)
      | .min, l, _ => (mmV false l).map fun v => (v, st)
      | _, _, _ => none
    | _ => none
  | _ => none

def putV (s : List V) (d : Option Nat) (v : V) : List V :=
  match d with
  | some d => s.set d v
  | none => s

/-- Is an operation wanted? none: not told. -/
def wantedV (ops : Array Oper) (o : Oper) (s : List V) : Option Bool :=
  match o.guard with
  | none => some true
  | some (j, want) => match ((ops[j]?).bind (·.dst)).bind (s[·]?) with
    | some (.bool b) => some (b == want)
    | some .any => none
    | _ => some false

/-- In a region that draws: an address that is a variable of the frame is the one that the annotation names; where it says so, no heap is read. -/
def annOk (ann : List (Nat × Nat × Bool)) (i : Nat) (p : V) : Bool :=
  match ann.find? (·.1 == i) with
  | some (_, r, loc) => (match p with
    | .lptr s _ => Nat.beq s r
    | .fptr _ _ => true
    | .ptr id _ => !loc && (!(Nat.beq r 8003) || !(Nat.beq id 0))
    | _ => !loc)
  | none => false

def addrOf : Op → Option Operand
  | .load _ p | .store _ p _ => some p
  | _ => none

def annLoc (ann : List (Nat × Nat × Bool)) (i : Nat) : Bool :=
  match ann.find? (·.1 == i) with | some (_, _, l) => l | none => false

/-- A call of which it is said that it changes no variable but the one with number 0. -/
def annV0 (ann : List (Nat × Nat × Bool)) (i : Nat) : Bool :=
  match ann.find? (·.1 == i) with | some (_, r, _) => Nat.beq r 8001 | none => false
/-- A load of which it is said that it is not of the variable with number 0. -/
def annN0 (ann : List (Nat × Nat × Bool)) (i : Nat) : Bool :=
  match ann.find? (·.1 == i) with | some (_, r, _) => Nat.beq r 8003 | none => false
/-- The heaps are the same but for the variable with number 0. -/
def heapEq0 (h h' : Heap) : Bool := veqs (h.vars.drop 1) (h'.vars.drop 1) && arrsEq h.arrs h'.arrs

def V.isSl : V → Bool
  | .sl _ _ _ _ _ => true
  | _ => false

/-- What an annotation asks before an operation .. -/
def preOk (ann : Option (List (Nat × Nat × Bool))) (i : Nat) (o : Oper) (s : List V) : Bool :=
  match ann with
  | none => true
  | some l => match addrOf o.op with
    | some p => annOk l i (ev s p)
    | none => match o.op with
      | .slice _ x _ _ _ | .indexAddr _ x _ => !(annLoc l i) || !(ev s x).isSl
      | _ => true
def isCall : Op → Bool
  | .call _ => true
  | _ => false
/-- .. and behind it. -/
def postOk (ann : Option (List (Nat × Nat × Bool))) (i : Nat) (o : Oper) (h h' : Heap) : Bool :=
  match ann with
  | none => true
  | some l => bif isCall o.op && annLoc l i then heapEq h h' else bif isCall o.op && annV0 l i then heapEq0 h h' else true

def opStep (E : Env) (C : Ctx) (Φ : Oracle) (ann : Option (List (Nat × Nat × Bool))) (ops : Array Oper) (i : Nat) (st : St) : Option St :=
  match ops[i]? with
  | none => some st
  | some o => (wantedV ops o st.s).bind fun w =>
    bif w then
      bif preOk ann i o st.s then
        (opX E C Φ o st).bind fun r => bif postOk ann i o st.h r.2.h then some { r.2 with s := putV r.2.s o.dst r.1 } else none
      else none
    else some { st with s := putV st.s o.dst undefV }

def opsRun (E : Env) (C : Ctx) (Φ : Oracle) (ann : Option (List (Nat × Nat × Bool))) (ops : Array Oper) : List Nat → St → Option St
  | [], st => some st
  | i :: l, st => (opStep E C Φ ann ops i st).bind fun st' => opsRun E C Φ ann ops l st'

/-- Behind a region no slot holds the address of a variable of the frame, but for the variable's own. -/
def tidy (ops : Array Oper) (s : List V) : List V :=
  ops.toList.foldl (fun s o => match o.dst with
    | some d => match s[d]? with
      | some (.lptr _ _) => s.set d .any
      | _ => s
    | none => s) s

inductive Ex where
  | normal
  | exit (id : Nat)
  | ret
  deriving Inhabited

def iter (f : St → Option (Ex × St)) : Nat → St → Option (Ex × St)
  | 0, _ => none
  | n + 1, st => (f st).bind fun r => match r.1 with
    | .normal => iter f n r.2
    | _ => some r

def exec (E : Env) (C : Ctx) (Φ : Oracle) (k : Nat) : Code → St → Option (Ex × St)
  | .skip, st => some (.normal, st)
  | .region id ops draw, st =>
      (opsRun E C Φ (bif draw then some (E.ann C.fn id) else none) ops (List.range ops.size) st).map fun st' => (.normal, { st' with s := tidy ops st'.s })
  | .seq a b, st => (exec E C Φ k a st).bind fun r => match r.1 with
    | .normal => exec E C Φ k b r.2
    | _ => some r
  | .cond c a b, st => match ev st.s c with
    | .bool t => bif t then exec E C Φ k a st else exec E C Φ k b st
    | _ => none
  | .block id c, st => (exec E C Φ k c st).map fun r => match r.1 with
    | .exit j => bif Nat.beq j id then (.normal, r.2) else r
    | _ => r
  | .loop c, st => iter (exec E C Φ k c) k st
  | .exit id, st => some (.exit id, st)
  | .label _, st => some (.normal, st)
  | .ret, st => some (.ret, st)
  | _, _ => none

def resV (P : Program) (st : St) : ResultVar → Option V
  | .tmp t => match ev st.s (.tmp t) with
    | .lptr _ _ => none
    | v => some v
  | .cell a t => loadV P st t (ev st.s (.tmp a))

def resultsV (P : Program) (fn : Func) (st : St) : Option V :=
  (mapO (resV P st) fn.results.toList).bind fun l => match l with
    | [v] => bif resOk v then some v else none
    | l => bif l.all V.storable then some (.tuple l) else none

def callBody (E : Env) (Φ : Oracle) (k : Nat) (lim : Nat × Nat) (f : Nat) (args : List V) (h : Heap) : Option (V × Heap) :=
  bif E.ok f then
    (E.P.funcs[f]?).bind fun fn => (fn.body).bind fun c =>
      (exec E ⟨f, lim.1, lim.2⟩ Φ k c ⟨args ++ List.replicate (fn.ntmps - args.length) undefV, h⟩).bind fun r =>
        match r.1 with
        | .exit _ => none
        | _ => (resultsV E.P fn r.2).map fun v => (v, r.2.h)
  else none

/-- Does no entry lead beyond the first nv variables and na arrays? -/
def lowHeap (nv na : Nat) (h : Heap) : Bool := h.vars.all (low nv na) && h.arrs.all fun a => a.elems.all (low nv na)

/-- Functions without a body: 0: how often a byte stands in a string; 1: where it stands first. -/
def extV (kd : Nat) (args : List V) : Option V :=
  match args with
  | [.str s, .int .u8 c] => bif Nat.beq kd 0 then some (.int .i64 (Lib.countByte s c.toNat.toUInt8)) else bif Nat.beq kd 1 then some (.int .i64 (Lib.indexByte s c.toNat.toUInt8)) else none
  | _ => none

/-- slices.Insert of one element (a slice of the type t): the new row, in place or not. -/
def insH (P : Program) (t : TypeId) (args : List V) (h : Heap) : Option (V × Heap) :=
  match args with
  | [x, .int .i64 i, .fl tag tight [e]] => (elemsOf h x).bind fun xs =>
    bif decide (i = xs.length) then appendV P ⟨0, 0, 0⟩ h t x (.fl tag tight [e]) else
    match x with
    | .sl id ver off len none => (h.arrs[id]?).bind fun A => (tElem P t).bind fun et =>
      bif decide (0 ≤ i) && (decide (i < len) && (Nat.beq (off + len) A.elems.length && (wideOk P h t x && (e.storable && (e.cells.length == P.cellsOf et &&
          (Nat.ble ((len + 1) * P.bytesOf et) 140737488355328 && (!(Nat.beq (P.bytesOf et) 0) && (zOk P et).isSome))))))) then
        some (.sl id (ver + 1) 0 (len + 1) none, { h with arrs := h.arrs.set id { A with elems := (A.elems.drop off).take i.toNat ++ e :: (A.elems.drop off).drop i.toNat, ver := ver + 1, opn := true } })
      else none
    | _ => none
  | _ => none

/-- The functions that are answered for without a look at their text: 0, 1: extV; else: Insert at the slice type with this number. -/
def extH (P : Program) (kd : Nat) (args : List V) (h : Heap) : Option (V × Heap) :=
  bif Nat.ble kd 1 then (extV kd args).map fun v => (v, h) else insH P kd args h

/-- A function that is called with an empty heap. -/
def pureF (E : Env) (f : Nat) : Bool := match E.mode f with
  | .pure => (E.ext f).isNone
  | _ => false

def callN (E : Env) : Nat → Oracle
  | 0 => fun _ _ _ _ => none
  | n + 1 => fun _ f args h => match E.ext f with
    | some kd => extH E.P kd args h
    | none => match E.mode f with
    | .pure => (mapO (brw h) args).bind fun args' => (callBody E (callN E n) n (0, 0) f args' ⟨[], []⟩).bind fun r =>
        (frz r.2 0 0 9 r.1).bind fun v => bif clean 9 v then some (v, h) else none
    | .shared => (callBody E (callN E n) n (0, 0) f args h).bind fun r =>
        (frz r.2 h.vars.length h.arrs.length 9 r.1).bind fun v =>
          bif lowHeap h.vars.length h.arrs.length ⟨r.2.vars.take h.vars.length, r.2.arrs.take h.arrs.length⟩ then
            some (v, ⟨r.2.vars.take h.vars.length, r.2.arrs.take h.arrs.length⟩) else none
    | .raw => callBody E (callN E n) n (0, 0) f args h

end Go.DM
namespace Go.DM

inductive Ow where
  | var (i : Nat)
  | arr (j : Nat)
  | loc (t : Nat)
  deriving DecidableEq

/-- Where an own array lies: its block, where it begins, how many elements fit, its version, cells an element, elements known. -/
structure AI where
  block : Nat
  base : Nat
  lim : Nat
  ver : Nat
  sz : Nat
  n : Nat

structure Mu where
  vb : List Nat
  ab : List AI
  lam : Nat → Option Nat

def Mu.at (M : Mu) : Ow → Option Nat
  | .var i => M.vb[i]?
  | .arr j => (M.ab[j]?).map (·.block)
  | .loc t => M.lam t
def Mu.own (M : Mu) (b : Nat) : Prop := ∃ o, M.at o = some b

def cellAt (es : List V) (i k : Nat) : V := ((es.getD i undefV).cells).getD k undefV

/-- Ground cells: they lead to nothing of the evaluator's own. O: blocks that are the evaluator's own; F: those of frames that wait. -/
inductive RG (F : Bool → Nat → Prop) (O : Nat → Prop) (w : World) : V → Value → Prop
  | int (k : IntKind) (n : Int) : RG F O w (.int k n) (.int k n)
  | bool (b : Bool) : RG F O w (.bool b) (.bool b)
  | str (s : ByteArray) (l : List UInt8) (h : l = s.data.toList) : RG F O w (.str l) (.string s)
  | nilp : RG F O w .nilp (.pointer none)
  | nils : RG F O w .nils (.slice none 0 0)
  | nilfn : RG F O w .nilfn .nilFunc
  | fn (f : Nat) : RG F O w (.fn f []) (.func (.func f) #[] #[])
  | fl (tag tight : Bool) (es : List V) (b o cap sz : Nat) (c : Nat → Nat → Value)
      (hcap : es.length ≤ cap) (ht : tight = true → cap = es.length)
      (hlen : ∀ i, i < es.length → ((es.getD i undefV).cells).length = sz)
      (hmem : ∀ i k, i < es.length → k < sz → w.cell? ⟨b, o + (i * sz + k), none⟩ = some (c i k))
      (hone : ∀ i k, i < es.length → k < sz → (c i k).oneCell' = true)
      (hrel : ∀ i k, i < es.length → k < sz → RG F O w (cellAt es i k) (c i k))
      (hb : es ≠ [] → b < w.heap.size ∧ ¬ O b ∧ ¬ F tag b) :
      RG F O w (.fl tag tight es) (.slice (some ⟨b, o, none⟩) es.length cap)

theorem RG.mono {F F' : Bool → Nat → Prop} {O O' : Nat → Prop} {w w' : World} (hcell : ∀ b o v, b < w.heap.size → ¬ O b → w.cell? ⟨b, o, none⟩ = some v → w'.cell? ⟨b, o, none⟩ = some v)
    (hs : w.heap.size ≤ w'.heap.size) (hO : ∀ b, b < w.heap.size → O' b → O b) (hF : ∀ g b, F' g b → F g b) {v : V} {c : Value} (h : RG F O w v c) : RG F' O' w' v c := by
  induction h with
  | int k n => exact .int k n
  | bool b => exact .bool b
  | str s l h => exact .str s l h
  | nilp => exact .nilp
  | nils => exact .nils
  | nilfn => exact .nilfn
  | fn f => exact .fn f
  | fl tag tight es b o cap sz c hcap ht hlen hmem hone hrel hb ih =>
    refine .fl tag tight es b o cap sz c hcap ht hlen (fun i k hi hk => ?_) hone ih (fun hne => ?_)
    · have hne : es ≠ [] := by intro h0; subst h0; simp at hi
      obtain ⟨h1, h2, _⟩ := hb hne
      exact hcell _ _ _ h1 h2 (hmem i k hi hk)
    · obtain ⟨h1, h2, h3⟩ := hb hne
      exact ⟨Nat.lt_of_lt_of_le h1 hs, fun h => h2 (hO b h1 h), fun hf => h3 (hF tag b hf)⟩

/-- Where a slice of an own array lies, if it isn't stale. -/
structure SlAt (a : AI) (b o off len : Nat) (cap : Option Nat) (cap' : Nat) : Prop where
  known : off + len ≤ a.n
  at_ : 0 < cap' → b = a.block ∧ o = a.base + off * a.sz
  fits : off + cap' ≤ a.lim
  cut : ∀ k, cap = some k → off + k ≤ a.n
  whole : cap = none → off + cap' = a.lim

def RList (R : V → Value → Prop) (l : List V) (cs : Array Value) : Prop :=
  l.length = cs.size ∧ ∀ (i : Nat) x y, l[i]? = some x → cs[i]? = some y → R x y

section
variable (F : Bool → Nat → Prop) (M : Mu) (w : World)

def RA (v : V) (c : Value) : Prop :=
  match v with
  | .ptr id off => ∃ b, M.vb[id]? = some b ∧ c = .pointer (some ⟨b, off, none⟩)
  | .aptr id ver i off => ∃ a ad, M.ab[id]? = some a ∧ ver ≤ a.ver ∧ c = .pointer (some ad) ∧ (ver = a.ver → ad = ⟨a.block, a.base + (i * a.sz + off), none⟩)
  | .sl id ver off len cap => ∃ a b o cap', M.ab[id]? = some a ∧ ver ≤ a.ver ∧ c = .slice (some ⟨b, o, none⟩) len cap' ∧ len ≤ cap' ∧ (∀ k, cap = some k → cap' = k) ∧ (ver = a.ver → SlAt a b o off len cap cap')
  | v => RG F M.own w v c

def RS (v : V) (c : Value) : Prop :=
  match v with
  | .fn f caps => ∃ cs, c = .func (.func f) #[] cs ∧ RList (RA F M w) caps cs
  | v => RA F M w v c

def RCell (v : V) (c : Value) : Prop := RS F M w v c ∧ c.oneCell' = true

def RFp (e : V) (off : Nat) (c : Value) : Prop :=
  ∃ b o, c = .pointer (some ⟨b, o + off, none⟩) ∧ ∀ (k : Nat) x, e.cells[k]? = some x → b < w.heap.size ∧ ¬ M.own b ∧ ∃ y, w.cell? ⟨b, o + k, none⟩ = some y ∧ RG F M.own w x y ∧ y.oneCell' = true

def RX (v : V) (c : Value) : Prop :=
  match v with
  | .agg l => ∃ cs, c = .agg cs ∧ RList (RCell F M w) l cs
  | .fptr e off => RFp F M w e off c
  | v => RS F M w v c

def RV (v : V) (c : Value) : Prop :=
  match v with
  | .tuple l => ∃ cs, c = .tuple cs ∧ RList (RX F M w) l cs
  | .any => True
  | v => RX F M w v c

/-- A variable's block. -/
def VarAt (b : Nat) (v : V) : Prop := ∃ cs t, w.heap[b]? = some (.cells cs t (0, 0)) ∧ RList (RCell F M w) v.cells cs

structure ArrAt (a : AI) (A : Arr) : Prop where
  ver : a.ver = A.ver
  sz : a.sz = A.sz
  n : a.n = A.elems.length
  le : a.n ≤ a.lim
  exact_ : A.opn = false → a.lim = a.n
  mem : ∃ cs t, w.heap[a.block]? = some (.cells cs t (0, 0)) ∧ a.base + a.lim * a.sz ≤ cs.size ∧
    ∀ (i : Nat) e, A.elems[i]? = some e → e.cells.length = a.sz ∧ ∀ (k : Nat) x, e.cells[k]? = some x → ∃ y, cs[a.base + (i * a.sz + k)]? = some y ∧ RCell F M w x y

structure SimH (H : Heap) : Prop where
  vlen : M.vb.length = H.vars.length
  alen : M.ab.length = H.arrs.length
  vmem : ∀ (i : Nat) b v, M.vb[i]? = some b → H.vars[i]? = some v → VarAt F M w b v
  amem : ∀ (j : Nat) a A, M.ab[j]? = some a → H.arrs[j]? = some A → ArrAt F M w a A
  inj : ∀ o o' b, M.at o = some b → M.at o' = some b → o = o'
  bound : ∀ b, M.own b → b < w.heap.size
  apart : ∀ g b, M.own b → ¬ F g b
  fbound : ∀ g b, F g b → b < w.heap.size

/-- A slot of a frame. -/
def RSlot (t : Nat) (v : V) (c : Value) : Prop :=
  match v with
  | .lptr r o => ∃ b, M.lam r = some b ∧ c = .pointer (some ⟨b, o, none⟩)
  | .box v => ∃ b, M.lam t = some b ∧ c = .pointer (some ⟨b, 0, none⟩) ∧ VarAt F M w b v
  | v => RV F M w v c

structure SimS (s : List V) (a : Act) : Prop where
  len : s.length = a.tmps.size
  slot : ∀ (t : Nat) v c, s[t]? = some v → a.tmps[t]? = some c → RSlot F M w t v c
  defers : a.defers = []
end

/-- How a step moves world and places on. -/
structure Fr (M M' : Mu) (w w' : World) : Prop where
  os : w'.os = w.os
  tape : w'.tape = w.tape
  output : w'.output = w.output
  size : w.heap.size ≤ w'.heap.size
  keep : ∀ b, b < w.heap.size → ¬ M.own b → w'.heap[b]? = w.heap[b]?
  fresh : ∀ b, M'.own b → M.own b ∨ w.heap.size ≤ b
  vb : ∀ (i : Nat) b, M.vb[i]? = some b → M'.vb[i]? = some b
  ab : ∀ (j : Nat) a, M.ab[j]? = some a → ∃ a', M'.ab[j]? = some a' ∧ a.ver ≤ a'.ver ∧ (a'.ver = a.ver → a' = a)

theorem Fr.refl (M : Mu) (w : World) : Fr M M w w :=
  ⟨rfl, rfl, rfl, Nat.le_refl _, fun _ _ _ => rfl, fun _ h => .inl h, fun _ _ h => h, fun _ a h => ⟨a, h, Nat.le_refl _, fun _ => rfl⟩⟩

theorem Fr.trans {M1 M2 M3 : Mu} {w1 w2 w3 : World} (h : Fr M1 M2 w1 w2) (k : Fr M2 M3 w2 w3) : Fr M1 M3 w1 w3 := by
  refine ⟨k.os.trans h.os, k.tape.trans h.tape, k.output.trans h.output, Nat.le_trans h.size k.size, fun b hb hn => ?_, fun b hb => ?_, fun i b hb => k.vb i b (h.vb i b hb), fun j a ha => ?_⟩
  · rw [k.keep b (Nat.lt_of_lt_of_le hb h.size) (fun ho => ?_), h.keep b hb hn]
    rcases h.fresh b ho with h1 | h1
    · exact hn h1
    · omega
  · rcases k.fresh b hb with h1 | h1
    · exact h.fresh b h1
    · exact .inr (Nat.le_trans h.size h1)
  · obtain ⟨a2, h1, h2, h3⟩ := h.ab j a ha
    obtain ⟨a3, k1, k2, k3⟩ := k.ab j a2 h1
    refine ⟨a3, k1, Nat.le_trans h2 k2, fun he => ?_⟩
    have e2 : a2.ver = a.ver := by omega
    have e3 : a3.ver = a2.ver := by omega
    rw [k3 e3, h3 e2]

theorem Fr.cell {M M' : Mu} {w w' : World} (h : Fr M M' w w') (b o : Nat) (v : Value) (hb : b < w.heap.size) (hn : ¬ M.own b) (hc : w.cell? ⟨b, o, none⟩ = some v) :
    w'.cell? ⟨b, o, none⟩ = some v := by
  rw [World.cell?_of_block (w := w) (h.keep b hb hn)]
  exact hc

section
variable {F : Bool → Nat → Prop} {M M' : Mu} {w w' : World}

theorem RList.imp {R R' : V → Value → Prop} {l : List V} {cs : Array Value} (h : RList R l cs) (hr : ∀ x y, R x y → R' x y) : RList R' l cs :=
  ⟨h.1, fun i x y hx hy => hr _ _ (h.2 i x y hx hy)⟩

theorem RG.fr (f : Fr M M' w w') {v : V} {c : Value} (h : RG F M.own w v c) : RG F M'.own w' v c :=
  h.mono (fun b o v => f.cell b o v) f.size (fun b hb h => (f.fresh b h).resolve_right (by omega)) (fun _ _ h => h)

theorem RA.fr (f : Fr M M' w w') {v : V} {c : Value} (h : RA F M w v c) : RA F M' w' v c := by
  cases v with
  | ptr id off => obtain ⟨b, h1, h2⟩ := h; exact ⟨b, f.vb _ _ h1, h2⟩
  | aptr id ver i off =>
    obtain ⟨a, ad, h1, h2, h3, h4⟩ := h
    obtain ⟨a', k1, k2, k3⟩ := f.ab _ _ h1
    refine ⟨a', ad, k1, by omega, h3, fun he => ?_⟩
    have e : a' = a := k3 (by omega)
    subst e; exact h4 he
  | sl id ver off len cap =>
    obtain ⟨a, b, o, cap', h1, h2, h3, h4, h5, h6⟩ := h
    obtain ⟨a', k1, k2, k3⟩ := f.ab _ _ h1
    refine ⟨a', b, o, cap', k1, by omega, h3, h4, h5, fun he => ?_⟩
    have e : a' = a := k3 (by omega)
    subst e; exact h6 he
  | int x0 x1 => exact RG.fr (F := F) (v := .int x0 x1) (c := c) f h
  | bool x0 => exact RG.fr (F := F) (v := .bool x0) (c := c) f h
  | str x0 => exact RG.fr (F := F) (v := .str x0) (c := c) f h
  | nilp => exact RG.fr (F := F) (v := .nilp) (c := c) f h
  | nils => exact RG.fr (F := F) (v := .nils) (c := c) f h
  | nilfn => exact RG.fr (F := F) (v := .nilfn) (c := c) f h
  | any => exact RG.fr (F := F) (v := .any) (c := c) f h
  | lptr x0 x1 => exact RG.fr (F := F) (v := .lptr x0 x1) (c := c) f h
  | box x0 => exact RG.fr (F := F) (v := .box x0) (c := c) f h
  | fptr x0 x1 => exact RG.fr (F := F) (v := .fptr x0 x1) (c := c) f h
  | fl x0 x1 x2 => exact RG.fr (F := F) (v := .fl x0 x1 x2) (c := c) f h
  | fn x0 x1 => exact RG.fr (F := F) (v := .fn x0 x1) (c := c) f h
  | agg x0 => exact RG.fr (F := F) (v := .agg x0) (c := c) f h
  | tuple x0 => exact RG.fr (F := F) (v := .tuple x0) (c := c) f h

theorem RS.fr (f : Fr M M' w w') {v : V} {c : Value} (h : RS F M w v c) : RS F M' w' v c := by
  cases v with
  | fn g caps => obtain ⟨cs, h1, h2⟩ := h; exact ⟨cs, h1, h2.imp fun _ _ => RA.fr f⟩
  | int x0 x1 => exact RA.fr (F := F) (v := .int x0 x1) (c := c) f h
  | bool x0 => exact RA.fr (F := F) (v := .bool x0) (c := c) f h
  | str x0 => exact RA.fr (F := F) (v := .str x0) (c := c) f h
  | nilp => exact RA.fr (F := F) (v := .nilp) (c := c) f h
  | nils => exact RA.fr (F := F) (v := .nils) (c := c) f h
  | nilfn => exact RA.fr (F := F) (v := .nilfn) (c := c) f h
  | any => exact RA.fr (F := F) (v := .any) (c := c) f h
  | lptr x0 x1 => exact RA.fr (F := F) (v := .lptr x0 x1) (c := c) f h
  | box x0 => exact RA.fr (F := F) (v := .box x0) (c := c) f h
  | ptr x0 x1 => exact RA.fr (F := F) (v := .ptr x0 x1) (c := c) f h
  | aptr x0 x1 x2 x3 => exact RA.fr (F := F) (v := .aptr x0 x1 x2 x3) (c := c) f h
  | fptr x0 x1 => exact RA.fr (F := F) (v := .fptr x0 x1) (c := c) f h
  | fl x0 x1 x2 => exact RA.fr (F := F) (v := .fl x0 x1 x2) (c := c) f h
  | sl x0 x1 x2 x3 x4 => exact RA.fr (F := F) (v := .sl x0 x1 x2 x3 x4) (c := c) f h
  | agg x0 => exact RA.fr (F := F) (v := .agg x0) (c := c) f h
  | tuple x0 => exact RA.fr (F := F) (v := .tuple x0) (c := c) f h

theorem RCell.fr (f : Fr M M' w w') {v : V} {c : Value} (h : RCell F M w v c) : RCell F M' w' v c := ⟨RS.fr f h.1, h.2⟩

theorem RX.fr (f : Fr M M' w w') {v : V} {c : Value} (h : RX F M w v c) : RX F M' w' v c := by
  cases v with
  | agg l => obtain ⟨cs, h1, h2⟩ := h; exact ⟨cs, h1, h2.imp fun _ _ => RCell.fr f⟩
  | fptr e off =>
    obtain ⟨b, o, h1, h2⟩ := h
    refine ⟨b, o, h1, fun k x hx => ?_⟩
    obtain ⟨k1, k2, y, k3, k4, k5⟩ := h2 k x hx
    exact ⟨Nat.lt_of_lt_of_le k1 f.size, fun ho => k2 ((f.fresh b ho).resolve_right (by omega)), y, f.cell _ _ _ k1 k2 k3, RG.fr f k4, k5⟩
  | int x0 x1 => exact RS.fr (F := F) (v := .int x0 x1) (c := c) f h
  | bool x0 => exact RS.fr (F := F) (v := .bool x0) (c := c) f h
  | str x0 => exact RS.fr (F := F) (v := .str x0) (c := c) f h
  | nilp => exact RS.fr (F := F) (v := .nilp) (c := c) f h
  | nils => exact RS.fr (F := F) (v := .nils) (c := c) f h
  | nilfn => exact RS.fr (F := F) (v := .nilfn) (c := c) f h
  | any => exact RS.fr (F := F) (v := .any) (c := c) f h
  | lptr x0 x1 => exact RS.fr (F := F) (v := .lptr x0 x1) (c := c) f h
  | box x0 => exact RS.fr (F := F) (v := .box x0) (c := c) f h
  | ptr x0 x1 => exact RS.fr (F := F) (v := .ptr x0 x1) (c := c) f h
  | aptr x0 x1 x2 x3 => exact RS.fr (F := F) (v := .aptr x0 x1 x2 x3) (c := c) f h
  | fl x0 x1 x2 => exact RS.fr (F := F) (v := .fl x0 x1 x2) (c := c) f h
  | sl x0 x1 x2 x3 x4 => exact RS.fr (F := F) (v := .sl x0 x1 x2 x3 x4) (c := c) f h
  | fn x0 x1 => exact RS.fr (F := F) (v := .fn x0 x1) (c := c) f h
  | tuple x0 => exact RS.fr (F := F) (v := .tuple x0) (c := c) f h

theorem RV.fr (f : Fr M M' w w') {v : V} {c : Value} (h : RV F M w v c) : RV F M' w' v c := by
  cases v with
  | tuple l => obtain ⟨cs, h1, h2⟩ := h; exact ⟨cs, h1, h2.imp fun _ _ => RX.fr f⟩
  | any => trivial
  | int x0 x1 => exact RX.fr (F := F) (v := .int x0 x1) (c := c) f h
  | bool x0 => exact RX.fr (F := F) (v := .bool x0) (c := c) f h
  | str x0 => exact RX.fr (F := F) (v := .str x0) (c := c) f h
  | nilp => exact RX.fr (F := F) (v := .nilp) (c := c) f h
  | nils => exact RX.fr (F := F) (v := .nils) (c := c) f h
  | nilfn => exact RX.fr (F := F) (v := .nilfn) (c := c) f h
  | lptr x0 x1 => exact RX.fr (F := F) (v := .lptr x0 x1) (c := c) f h
  | box x0 => exact RX.fr (F := F) (v := .box x0) (c := c) f h
  | ptr x0 x1 => exact RX.fr (F := F) (v := .ptr x0 x1) (c := c) f h
  | aptr x0 x1 x2 x3 => exact RX.fr (F := F) (v := .aptr x0 x1 x2 x3) (c := c) f h
  | fptr x0 x1 => exact RX.fr (F := F) (v := .fptr x0 x1) (c := c) f h
  | fl x0 x1 x2 => exact RX.fr (F := F) (v := .fl x0 x1 x2) (c := c) f h
  | sl x0 x1 x2 x3 x4 => exact RX.fr (F := F) (v := .sl x0 x1 x2 x3 x4) (c := c) f h
  | fn x0 x1 => exact RX.fr (F := F) (v := .fn x0 x1) (c := c) f h
  | agg x0 => exact RX.fr (F := F) (v := .agg x0) (c := c) f h

theorem VarAt.fr (f : Fr M M' w w') {b : Nat} {v : V} (h : VarAt F M w b v) (hb : w'.heap[b]? = w.heap[b]?) : VarAt F M' w' b v := by
  obtain ⟨cs, t, h1, h2⟩ := h
  exact ⟨cs, t, by rw [hb]; exact h1, h2.imp fun _ _ => RCell.fr f⟩

theorem ArrAt.fr (f : Fr M M' w w') {a : AI} {A : Arr} (h : ArrAt F M w a A) (hb : w'.heap[a.block]? = w.heap[a.block]?) : ArrAt F M' w' a A := by
  obtain ⟨cs, t, h1, h2, h3⟩ := h.mem
  refine ⟨h.ver, h.sz, h.n, h.le, h.exact_, cs, t, by rw [hb]; exact h1, h2, fun i e he => ?_⟩
  obtain ⟨k1, k2⟩ := h3 i e he
  refine ⟨k1, fun k x hx => ?_⟩
  obtain ⟨y, y1, y2⟩ := k2 k x hx
  exact ⟨y, y1, RCell.fr f y2⟩

theorem RSlot.fr (f : Fr M M' w w') {t : Nat} {v : V} {c : Value} (hl : ∀ r b, M.lam r = some b → M'.lam r = some b) (hb : ∀ b, M.lam t = some b → w'.heap[b]? = w.heap[b]?)
    (h : RSlot F M w t v c) : RSlot F M' w' t v c := by
  cases v with
  | lptr r o => obtain ⟨b, h1, h2⟩ := h; exact ⟨b, hl _ _ h1, h2⟩
  | box v => obtain ⟨b, h1, h2, h3⟩ := h; exact ⟨b, hl _ _ h1, h2, h3.fr f (hb b h1)⟩
  | int x0 x1 => exact RV.fr (F := F) (v := .int x0 x1) (c := c) f h
  | bool x0 => exact RV.fr (F := F) (v := .bool x0) (c := c) f h
  | str x0 => exact RV.fr (F := F) (v := .str x0) (c := c) f h
  | nilp => exact RV.fr (F := F) (v := .nilp) (c := c) f h
  | nils => exact RV.fr (F := F) (v := .nils) (c := c) f h
  | nilfn => exact RV.fr (F := F) (v := .nilfn) (c := c) f h
  | any => exact RV.fr (F := F) (v := .any) (c := c) f h
  | ptr x0 x1 => exact RV.fr (F := F) (v := .ptr x0 x1) (c := c) f h
  | aptr x0 x1 x2 x3 => exact RV.fr (F := F) (v := .aptr x0 x1 x2 x3) (c := c) f h
  | fptr x0 x1 => exact RV.fr (F := F) (v := .fptr x0 x1) (c := c) f h
  | fl x0 x1 x2 => exact RV.fr (F := F) (v := .fl x0 x1 x2) (c := c) f h
  | sl x0 x1 x2 x3 x4 => exact RV.fr (F := F) (v := .sl x0 x1 x2 x3 x4) (c := c) f h
  | fn x0 x1 => exact RV.fr (F := F) (v := .fn x0 x1) (c := c) f h
  | agg x0 => exact RV.fr (F := F) (v := .agg x0) (c := c) f h
  | tuple x0 => exact RV.fr (F := F) (v := .tuple x0) (c := c) f h

/-- What one cell reads as alone: scalars of one cell. -/
theorem RS.cells {v : V} {c : Value} (h : RS F M w v c) : v.cells = [v] := by
  cases v with
  | agg l => exact absurd h (by intro h; cases h)
  | _ => rfl
end
end Go.DM
namespace Go.DM

theorem addr_add (b o j : Nat) : (⟨b, o, none⟩ : Addr).add j = ⟨b, o + j, none⟩ := by unfold Addr.add; split <;> simp_all

section
variable {P : Program}
theorem info_of_underlying {t : TypeId} {d : TypeDesc} (h : P.underlying t = some d) : ∃ i, P.info? t = some i := by
  unfold Program.underlying at h
  cases hi : P.info? t with
  | none => rw [hi] at h; simp at h
  | some i => exact ⟨i, rfl⟩
theorem cellsOf_eq {t : TypeId} {i : TypeInfo} (h : P.info? t = some i) : P.cellsOf t = i.size := by simp [Program.cellsOf, h]
theorem run_sizeOf' {t : TypeId} {d : TypeDesc} (h : P.underlying t = some d) (w : World) : (sizeOf t).run P w = .ok (P.cellsOf t) w := by
  obtain ⟨i, hi⟩ := info_of_underlying h
  simp [sizeOf, typeInfo, hi, cellsOf_eq hi]
theorem tAgg_underlying {t : TypeId} {g : Bool} (h : tAgg P t = some g) : ∃ d, P.underlying t = some d := by
  unfold tAgg at h
  cases hd : P.underlying t with
  | none => rw [hd] at h; simp at h
  | some d => exact ⟨d, rfl⟩
theorem run_isAgg {t : TypeId} {g : Bool} (h : tAgg P t = some g) (w : World) : (isAgg t).run P w = .ok g w := by
  obtain ⟨d, hd⟩ := tAgg_underlying h
  unfold isAgg
  rw [Sem.run_bind, run_underlying hd w]
  unfold tAgg at h
  rw [hd] at h
  cases d <;> simp_all
end

section
variable {F : Bool → Nat → Prop} {M M' : Mu} {w w' : World}

theorem RG.one {O : Nat → Prop} {v : V} {c : Value} (h : RG F O w v c) : c.oneCell' = true := by cases h <;> rfl
theorem RA.one {v : V} {c : Value} (h : RA F M w v c) : c.oneCell' = true := by
  cases v with
  | ptr id off => obtain ⟨b, _, rfl⟩ := h; rfl
  | aptr id ver i off => obtain ⟨a, ad, _, _, rfl, _⟩ := h; rfl
  | sl id ver off len cap => obtain ⟨a, b, o, cap', _, _, rfl, _⟩ := h; rfl
  | fl t g es => exact RG.one (v := .fl t g es) h
  | _ => exact RG.one h
theorem RS.one {v : V} {c : Value} (h : RS F M w v c) : c.oneCell' = true := by
  cases v with
  | fn g caps => obtain ⟨cs, rfl, _⟩ := h; rfl
  | int za zb => exact RA.one (F := F) (M := M) (w := w) (v := (.int za zb)) (c := c) h
  | bool za => exact RA.one (F := F) (M := M) (w := w) (v := (.bool za)) (c := c) h
  | str za => exact RA.one (F := F) (M := M) (w := w) (v := (.str za)) (c := c) h
  | nilp => exact RA.one (F := F) (M := M) (w := w) (v := (.nilp)) (c := c) h
  | nils => exact RA.one (F := F) (M := M) (w := w) (v := (.nils)) (c := c) h
  | nilfn => exact RA.one (F := F) (M := M) (w := w) (v := (.nilfn)) (c := c) h
  | any => exact RA.one (F := F) (M := M) (w := w) (v := (.any)) (c := c) h
  | lptr za zb => exact RA.one (F := F) (M := M) (w := w) (v := (.lptr za zb)) (c := c) h
  | box za => exact RA.one (F := F) (M := M) (w := w) (v := (.box za)) (c := c) h
  | ptr za zb => exact RA.one (F := F) (M := M) (w := w) (v := (.ptr za zb)) (c := c) h
  | aptr za zb zc zd => exact RA.one (F := F) (M := M) (w := w) (v := (.aptr za zb zc zd)) (c := c) h
  | fptr za zb => exact RA.one (F := F) (M := M) (w := w) (v := (.fptr za zb)) (c := c) h
  | fl za zb zc => exact RA.one (F := F) (M := M) (w := w) (v := (.fl za zb zc)) (c := c) h
  | sl za zb zc zd ze => exact RA.one (F := F) (M := M) (w := w) (v := (.sl za zb zc zd ze)) (c := c) h
  | agg za => exact RA.one (F := F) (M := M) (w := w) (v := (.agg za)) (c := c) h
  | tuple za => exact RA.one (F := F) (M := M) (w := w) (v := (.tuple za)) (c := c) h
theorem RS.cell {v : V} {c : Value} (h : RS F M w v c) : RCell F M w v c := ⟨h, h.one⟩

theorem RS.toRX {v : V} {c : Value} (h : RS F M w v c) : RX F M w v c := by
  cases v with
  | agg l => exact absurd h (by intro h; cases h)
  | fptr e o => exact absurd h (by intro h; cases h)
  | _ => exact h
theorem RX.toRV {v : V} {c : Value} (h : RX F M w v c) : RV F M w v c := by
  cases v with
  | tuple l => exact absurd h (by intro h; cases h)
  | any => trivial
  | _ => exact h
theorem RG.toRS {v : V} {c : Value} (h : RG F M.own w v c) : RS F M w v c := by
  cases v with
  | fn f caps => cases h; exact ⟨#[], rfl, rfl, fun i x y hx => by simp at hx⟩
  | ptr i o => cases h
  | aptr i v j o => cases h
  | sl i v o l k => cases h
  | _ => exact h
/-- A cell that is ground by its head is ground. -/
theorem RS.toRG {v : V} {c : Value} (h : RS F M w v c) (hg : v.gnd = true) : RG F M.own w v c := by
  cases v with
  | fn f caps =>
    have : caps = [] := by simpa [V.gnd] using hg
    subst this
    obtain ⟨cs, rfl, h1, _⟩ := h
    have : cs = #[] := by simpa using h1.symm
    subst this
    exact .fn f
  | ptr i o => simp [V.gnd] at hg
  | aptr i v j o => simp [V.gnd] at hg
  | sl i v o l k => simp [V.gnd] at hg
  | fptr e o => simp [V.gnd] at hg
  | _ => exact h

/-- What an operand comes to. -/
def REv (F : Bool → Nat → Prop) (M : Mu) (w : World) (v : V) (c : Value) : Prop :=
  match v with
  | .lptr r o => ∃ b, M.lam r = some b ∧ c = .pointer (some ⟨b, o, none⟩)
  | .box _ => False
  | v => RV F M w v c

theorem RV.toREv {v : V} {c : Value} (h : RV F M w v c) : REv F M w v c := by
  cases v with
  | lptr r o => exact absurd h (by intro h; cases h)
  | box v => exact absurd h (by intro h; cases h)
  | _ => exact h

theorem RList.one_of {l : List V} {cs : Array Value} {R : V → Value → Prop} (h : RList R l cs) (i : Nat) (x : V) (hx : l[i]? = some x) : ∃ y, cs[i]? = some y ∧ R x y := by
  have hi : i < l.length := (List.getElem?_eq_some_iff.1 hx).1
  have hs : i < cs.size := h.1 ▸ hi
  exact ⟨cs[i], by simp [hs], h.2 i x _ hx (by simp [hs])⟩

theorem RList.sing {R : V → Value → Prop} {v : V} {c : Value} (h : R v c) : RList R [v] #[c] :=
  ⟨rfl, fun i x y hx hy => by
    cases i with
    | zero => simp at hx hy; subst hx hy; exact h
    | succ i => simp at hx⟩

/-- What may be laid into memory: its cells. -/
theorem storable_cells {v : V} {c : Value} (h : REv F M w v c) (hs : v.storable = true) : RList (RCell F M w) v.cells c.cells := by
  have key : ∀ v, v.cells = [v] → RS F M w v c → RList (RCell F M w) v.cells c.cells := by
    intro v hv h
    have h1 := h.one
    have hc : c.cells = #[c] := by cases c <;> first | rfl | simp [Value.oneCell'] at h1
    rw [hv, hc]
    exact RList.sing h.cell
  cases v with
  | agg l => obtain ⟨cs, rfl, h⟩ := h; exact h
  | lptr r o => simp [V.storable] at hs
  | box v => simp [V.storable] at hs
  | tuple l => simp [V.storable] at hs
  | any => simp [V.storable] at hs
  | fptr e o => simp [V.storable] at hs
  | _ => exact key _ rfl h

/-- A stretch of memory that holds a value's cells. -/
def MemAt (F : Bool → Nat → Prop) (M : Mu) (w : World) (b off : Nat) (v : V) : Prop :=
  ∀ (k : Nat) x, v.cells[k]? = some x → ∃ y, w.cell? ⟨b, off + k, none⟩ = some y ∧ RCell F M w x y

theorem VarAt.mem {b : Nat} {v : V} (h : VarAt F M w b v) : MemAt F M w b 0 v := by
  obtain ⟨cs, t, h1, h2⟩ := h
  intro k x hx
  obtain ⟨y, hy, hr⟩ := h2.one_of k x hx
  exact ⟨y, by rw [Nat.zero_add, cell_of_row w b k cs t (0, 0) h1]; exact hy, hr⟩

theorem ArrAt.memAt {a : AI} {A : Arr} (h : ArrAt F M w a A) {i : Nat} {e : V} (he : A.elems[i]? = some e) : MemAt F M w a.block (a.base + i * a.sz) e := by
  obtain ⟨cs, t, h1, h2, h3⟩ := h.mem
  intro k x hx
  obtain ⟨y, hy, hr⟩ := (h3 i e he).2 k x hx
  exact ⟨y, by rw [cell_of_row w a.block _ cs t (0, 0) h1, Nat.add_assoc]; exact hy, hr⟩

theorem rdMem_sound {s : List V} {H : Heap} {a : Act} (hs : SimS F M w s a) (hh : SimH F M w H) {p : V} {c : Value} (hp : REv F M w p c) {v : V} {o : Nat}
    (h : rdMem ⟨s, H⟩ p = some (v, o)) : ∃ b off, c = .pointer (some ⟨b, off + o, none⟩) ∧ MemAt F M w b off v := by
  cases p with
  | lptr r q =>
    obtain ⟨b, h1, rfl⟩ := hp
    simp only [rdMem] at h
    split at h <;> simp at h
    rename_i u hu
    obtain ⟨rfl, rfl⟩ := h
    have hr : r < a.tmps.size := hs.len ▸ (List.getElem?_eq_some_iff.1 hu).1
    obtain ⟨b', h2, h3, h4⟩ := hs.slot r _ (a.tmps[r]'hr) hu (by simp [hr])
    rw [h1] at h2
    cases h2
    exact ⟨b, 0, by rw [Nat.zero_add], h4.mem⟩
  | ptr id q =>
    obtain ⟨b, h1, rfl⟩ := hp
    simp only [rdMem, Option.map_eq_some_iff] at h
    obtain ⟨u, hu, h⟩ := h
    cases h
    exact ⟨b, 0, by rw [Nat.zero_add], (hh.vmem id b _ h1 hu).mem⟩
  | aptr id ver i q =>
    obtain ⟨x, ad, h1, h2, rfl, h4⟩ := hp
    simp only [rdMem, Option.bind_eq_some_iff] at h
    obtain ⟨A, hA, h⟩ := h
    cases hv : (A.ver == ver) <;> rw [hv] at h <;> simp at h
    obtain ⟨u, hu, rfl, rfl⟩ := h
    have hm := hh.amem id x A h1 hA
    have hver : ver = x.ver := by have := hm.ver; simp at hv; omega
    rw [h4 hver]
    exact ⟨x.block, x.base + i * x.sz, by rw [Nat.add_assoc], hm.memAt hu⟩
  | fptr e q =>
    obtain ⟨b, off, rfl, h2⟩ := hp
    simp only [rdMem] at h
    cases h
    refine ⟨b, off, rfl, fun k x hx => ?_⟩
    obtain ⟨_, _, y, h3, h4, h5⟩ := h2 k x hx
    exact ⟨y, h3, h4.toRS, h5⟩
  | _ => simp [rdMem] at h

theorem getAt_mem {g : Bool} {n o : Nat} {v r : V} (h : getAt g n o v = some r) {b off : Nat} (hm : MemAt F M w b off v) :
    r.cells.length = n ∧ (g = true → ∃ l, r = .agg l) ∧ (g = false → n = 1 ∧ r.cells = [r]) ∧ MemAt F M w b (off + o) r := by
  unfold getAt at h
  simp only at h
  cases hl : (((v.cells.drop o).take n).length == n) <;> rw [hl] at h <;> simp only [cond_true, cond_false] at h
  · simp at h
  · have hl' : ((v.cells.drop o).take n).length = n := by simpa using hl
    have hmem : ∀ (k : Nat) x, ((v.cells.drop o).take n)[k]? = some x → ∃ y, w.cell? ⟨b, off + o + k, none⟩ = some y ∧ RCell F M w x y := by
      intro k x hx
      rw [List.getElem?_take] at hx
      split at hx <;> simp at hx
      obtain ⟨y, h1, h2⟩ := hm (o + k) x hx
      exact ⟨y, by rw [Nat.add_assoc]; exact h1, h2⟩
    cases g
    · simp only [cond_false] at h
      split at h <;> simp at h
      rename_i x hx
      subst h
      rw [hx] at hmem hl'
      obtain ⟨y, h1, h2⟩ := hmem 0 x rfl
      have hc := RS.cells h2.1
      refine ⟨by rw [hc]; simpa using hl', by simp, fun _ => ⟨by simpa using hl'.symm, hc⟩, fun k z hz => ?_⟩
      rw [hc] at hz
      exact hmem k z hz
    · simp only [cond_true, Option.some.injEq] at h
      subst h
      exact ⟨hl', fun _ => ⟨_, rfl⟩, by simp, hmem⟩

theorem run_loadVar_mem {P : Program} {t : TypeId} {g : Bool} (hg : tAgg P t = some g) {r : V} {b off : Nat} (hl : r.cells.length = P.cellsOf t)
    (h1 : g = true → ∃ l, r = .agg l) (h2 : g = false → P.cellsOf t = 1 ∧ r.cells = [r]) (hm : MemAt F M w b off r) :
    ∃ c, (loadVar t ⟨b, off, none⟩).run P w = .ok c w ∧ RX F M w r c := by
  obtain ⟨d, hd⟩ := tAgg_underlying hg
  cases g with
  | true =>
    obtain ⟨l, rfl⟩ := h1 rfl
    have hf : ∃ f : Nat → Value, ∀ (k : Nat) x, l[k]? = some x → w.cell? ⟨b, off + k, none⟩ = some (f k) ∧ RCell F M w x (f k) := by
      refine ⟨fun k => (w.cell? ⟨b, off + k, none⟩).getD undef, fun k x hx => ?_⟩
      obtain ⟨y, h3, h4⟩ := hm k x hx
      have e : (w.cell? ⟨b, off + k, none⟩).getD undef = y := by rw [h3]; rfl
      show _ = some ((w.cell? ⟨b, off + k, none⟩).getD undef) ∧ RCell F M w x ((w.cell? ⟨b, off + k, none⟩).getD undef)
      rw [e]
      exact ⟨h3, h4⟩
    obtain ⟨f, hf⟩ := hf
    have hr := run_loadCells (P := P) w ⟨b, off, none⟩ (P.cellsOf t) f (fun j hj => by
      rw [addr_add]
      exact (hf j (l[j]'(by have : l.length = P.cellsOf t := hl; omega)) (by simp)).1)
    refine ⟨.agg ((List.range (P.cellsOf t)).map f).toArray, ?_, _, rfl, ?_, fun i x y hx hy => ?_⟩
    · simp [loadVar, Sem.run_bind, run_isAgg hg, run_sizeOf' hd, hr]
    · have : l.length = P.cellsOf t := hl; simpa using this
    · simp only [List.getElem?_toArray, List.getElem?_map] at hy
      have hi : i < P.cellsOf t := by have := (List.getElem?_eq_some_iff.1 hx).1; have : l.length = P.cellsOf t := hl; omega
      rw [List.getElem?_range hi] at hy
      simp at hy
      subst hy
      exact (hf i x hx).2
  | false =>
    obtain ⟨_, hc⟩ := h2 rfl
    obtain ⟨y, h3, h4⟩ := hm 0 r (by rw [hc]; rfl)
    refine ⟨y, ?_, h4.1.toRX⟩
    rw [Nat.add_zero] at h3
    simp [loadVar, Sem.run_bind, run_isAgg hg, h3]

theorem loadV_sound {P : Program} {s : List V} {H : Heap} {a : Act} (hs : SimS F M w s a) (hh : SimH F M w H) {p : V} {c : Value} (hp : REv F M w p c) {t : TypeId} {v : V}
    (h : loadV P ⟨s, H⟩ t p = some v) : ∃ ad c', c = .pointer (some ad) ∧ (loadVar t ad).run P w = .ok c' w ∧ RX F M w v c' := by
  unfold loadV at h
  simp only [Option.bind_eq_some_iff] at h
  obtain ⟨g, hg, r, hr, h⟩ := h
  obtain ⟨b, off, rfl, hm⟩ := rdMem_sound hs hh hp (v := r.1) (o := r.2) hr
  obtain ⟨h1, h2, h3, h4⟩ := getAt_mem h hm
  obtain ⟨c', h5, h6⟩ := run_loadVar_mem hg h1 h2 h3 h4
  exact ⟨_, c', rfl, h5, h6⟩
end
end Go.DM
namespace Go.DM

section
variable {F : Bool → Nat → Prop} {M : Mu} {w w' : World}

theorem setRow_other {b b' : Nat} {cs : Array Value} (h : b' ≠ b) : (w.setRow b cs).heap[b']? = w.heap[b']? := by
  simp only [World.setRow, Array.getElem?_modify]
  rw [if_neg (fun e => h e.symm)]
theorem size_setRow {b : Nat} {cs : Array Value} : (w.setRow b cs).heap.size = w.heap.size := by simp [World.setRow]

theorem fr_setRow {b : Nat} (hb : M.own b) (cs : Array Value) : Fr M M w (w.setRow b cs) :=
  ⟨rfl, rfl, rfl, by rw [size_setRow]; exact Nat.le_refl _, fun b' _ hn => setRow_other (fun e => hn (e ▸ hb)), fun _ h => .inl h, fun _ _ h => h, fun _ a h => ⟨a, h, Nat.le_refl _, fun _ => rfl⟩⟩

/-- All that is untouched stays. -/
theorem SimH.keep {H : Heap} (h : SimH F M w H) (f : Fr M M w w') (hb : ∀ o b, M.at o = some b → (∀ t, o ≠ .loc t) → w'.heap[b]? = w.heap[b]?) : SimH F M w' H where
  vlen := h.vlen
  alen := h.alen
  vmem := fun i b v hi hv => (h.vmem i b v hi hv).fr f (hb (.var i) b hi (fun t => by simp))
  amem := fun j a A hj hA => (h.amem j a A hj hA).fr f (hb (.arr j) a.block (by simp [Mu.at, hj]) (fun t => by simp))
  inj := h.inj
  bound := fun b hb => Nat.lt_of_lt_of_le (h.bound b hb) f.size
  apart := h.apart
  fbound := fun g b hb => Nat.lt_of_lt_of_le (h.fbound g b hb) f.size

theorem SimH.setVar {H : Heap} (h : SimH F M w H) (f : Fr M M w w') {i b : Nat} {v : V} (hi : M.vb[i]? = some b) (hv : VarAt F M w' b v)
    (hb : ∀ o b', M.at o = some b' → o ≠ .var i → (∀ t, o ≠ .loc t) → w'.heap[b']? = w.heap[b']?) : SimH F M w' { H with vars := H.vars.set i v } where
  vlen := by simpa using h.vlen
  alen := h.alen
  vmem := fun k b' u hk hu => by
    by_cases e : i = k
    · subst e
      rw [hi] at hk; cases hk
      have hlt : i < H.vars.length := by rw [← h.vlen]; exact (List.getElem?_eq_some_iff.1 hi).1
      simp [List.getElem?_set, hlt] at hu
      subst hu; exact hv
    · rw [List.getElem?_set_ne e] at hu
      exact (h.vmem k b' u hk hu).fr f (hb (.var k) b' hk (by simpa using fun e' => e e'.symm) (fun t => by simp))
  amem := fun j a A hj hA => (h.amem j a A hj hA).fr f (hb (.arr j) a.block (by simp [Mu.at, hj]) (by simp) (fun t => by simp))
  inj := h.inj
  bound := fun b hb => Nat.lt_of_lt_of_le (h.bound b hb) f.size
  apart := h.apart
  fbound := fun g b hb => Nat.lt_of_lt_of_le (h.fbound g b hb) f.size

theorem SimH.setArr {H : Heap} (h : SimH F M w H) (f : Fr M M w w') {j : Nat} {a : AI} {A : Arr} (hj : M.ab[j]? = some a) (hA : ArrAt F M w' a A)
    (hb : ∀ o b', M.at o = some b' → o ≠ .arr j → (∀ t, o ≠ .loc t) → w'.heap[b']? = w.heap[b']?) : SimH F M w' { H with arrs := H.arrs.set j A } where
  vlen := h.vlen
  alen := by simpa using h.alen
  vmem := fun i b v hi hv => (h.vmem i b v hi hv).fr f (hb (.var i) b hi (by simp) (fun t => by simp))
  amem := fun k a' A' hk hA' => by
    by_cases e : j = k
    · subst e
      rw [hj] at hk; cases hk
      have hlt : j < H.arrs.length := by rw [← h.alen]; exact (List.getElem?_eq_some_iff.1 hj).1
      simp [List.getElem?_set, hlt] at hA'
      subst hA'; exact hA
    · rw [List.getElem?_set_ne e] at hA'
      exact (h.amem k a' A' hk hA').fr f (hb (.arr k) a'.block (by simp [Mu.at, hk]) (by simpa using fun e' => e e'.symm) (fun t => by simp))
  inj := h.inj
  bound := fun b hb => Nat.lt_of_lt_of_le (h.bound b hb) f.size
  apart := h.apart
  fbound := fun g b hb => Nat.lt_of_lt_of_le (h.fbound g b hb) f.size

theorem SimS.keep {s : List V} {a : Act} (h : SimS F M w s a) (f : Fr M M w w') (hb : ∀ t b, M.lam t = some b → w'.heap[b]? = w.heap[b]?) : SimS F M w' s a where
  len := h.len
  slot := fun t v c hv hc => (h.slot t v c hv hc).fr f (fun _ _ h => h) (fun b hl => hb t b hl)
  defers := h.defers

theorem own_at {o : Ow} {b : Nat} (h : M.at o = some b) : M.own b := ⟨o, h⟩

/-! cells written over -/
theorem setAt_cells {off : Nat} {xs : List V} {v v' : V} (h : setAt off xs v = some v') (hx : ∀ x ∈ xs, x.cells = [x]) (hv : ∀ x ∈ v.cells, x.cells = [x]) :
    off + xs.length ≤ v.cells.length ∧ v'.cells = v.cells.take off ++ (xs ++ v.cells.drop (off + xs.length)) := by
  unfold setAt at h
  cases hl : Nat.ble (off + xs.length) v.cells.length <;> rw [hl] at h <;> simp only [cond_true, cond_false] at h
  · simp at h
  · have hl' := Nat.le_of_ble_eq_true hl
    refine ⟨hl', ?_⟩
    have key : ∀ c : List V, (∀ x ∈ c, x.cells = [x]) → ∀ r : V, (match c with | [y] => some y | _ => none) = some r → r.cells = c := by
      intro c hc r hr
      cases c with
      | nil => simp at hr
      | cons y l =>
        cases l with
        | nil => simp at hr; subst hr; exact hc y (by simp)
        | cons z l => simp at hr
    cases v with
    | agg l => simp at h; subst h; rfl
    | _ =>
      refine key _ (fun x hx' => ?_) _ h
      simp only [List.mem_append] at hx'
      rcases hx' with hx' | hx' | hx'
      · exact hv x (List.mem_of_mem_take hx')
      · exact hx x hx'
      · exact hv x (List.mem_of_mem_drop hx')

/-- A stretch of a row written over. -/
def splice (cs : Array Value) (o : Nat) (ys : List Value) : Array Value := (cs.toList.take o ++ ys ++ cs.toList.drop (o + ys.length)).toArray
theorem size_splice {cs : Array Value} {o : Nat} {ys : List Value} (h : o + ys.length ≤ cs.size) : (splice cs o ys).size = cs.size := by
  simp [splice]; omega
theorem splice_in {cs : Array Value} {o : Nat} {ys : List Value} (h : o + ys.length ≤ cs.size) (k : Nat) (hk : k < ys.length) : (splice cs o ys)[o + k]? = ys[k]? := by
  simp only [splice, List.getElem?_toArray, List.append_assoc]
  rw [List.getElem?_append_right (by simp; omega), List.getElem?_append_left (by simp; omega)]
  congr 1
  simp; omega
theorem splice_out {cs : Array Value} {o : Nat} {ys : List Value} (h : o + ys.length ≤ cs.size) (k : Nat) (hk : k < o ∨ o + ys.length ≤ k) : (splice cs o ys)[k]? = cs[k]? := by
  simp only [splice, List.getElem?_toArray, List.append_assoc]
  rcases hk with hk | hk
  · rw [List.getElem?_append_left (by simp; omega), List.getElem?_take, if_pos hk]; simp
  · rw [List.getElem?_append_right (by simp; omega), List.getElem?_append_right (by simp; omega), List.getElem?_drop]
    simp only [List.length_take, Array.length_toList]
    rw [Array.getElem?_toList]
    congr 1
    omega

theorem run_storeCells' {P : Program} {g o : Nat} {t : TypeId} {vs : List Value} {cur : Array Value} (hg : w.heap[g]? = some (.cells cur t (0, 0))) (hl : o + vs.length ≤ cur.size) (h1 : ∀ v ∈ vs, v.oneCell' = true) :
    (storeCells ⟨g, o, none⟩ vs).run P w = .ok () (w.setRow g (splice cur o vs)) := by
  have := run_storeCells_at P g o t vs 0 cur w hg (by simpa using hl) h1
  simpa [splice] using this

theorem RCell.cells {v : V} {c : Value} (h : RCell F M w v c) : v.cells = [v] := RS.cells h.1

theorem RList.cells_of {l : List V} {cs : Array Value} (h : RList (RCell F M w) l cs) : ∀ x ∈ l, x.cells = [x] := by
  intro x hx
  obtain ⟨i, hi, rfl⟩ := List.mem_iff_getElem.1 hx
  obtain ⟨y, _, hr⟩ := h.one_of i l[i] (by simp [hi])
  exact hr.cells
theorem RList.one_cells {l : List V} {cs : Array Value} (h : RList (RCell F M w) l cs) : ∀ y ∈ cs.toList, y.oneCell' = true := by
  intro y hy
  obtain ⟨i, hi, rfl⟩ := List.mem_iff_getElem.1 hy
  have hi' : i < l.length := by rw [h.1]; simpa using hi
  exact (h.2 i l[i] _ (by simp [hi']) (by simp at hi; simp [hi])).2

/-- A variable, some of its cells written. -/
theorem VarAt.set {b o : Nat} {v v' : V} {xs : List V} {ys : Array Value} (hb : M.own b) (h : VarAt F M w b v) (hx : RList (RCell F M w) xs ys) (hs : setAt o xs v = some v') :
    ∃ cs t, w.heap[b]? = some (.cells cs t (0, 0)) ∧ o + ys.toList.length ≤ cs.size ∧ VarAt F M (w.setRow b (splice cs o ys.toList)) b v' := by
  obtain ⟨cs, t, h1, h2⟩ := h
  obtain ⟨h3, h4⟩ := setAt_cells hs hx.cells_of h2.cells_of
  have hyl : ys.toList.length = xs.length := by simpa using hx.1.symm
  have hle : o + ys.toList.length ≤ cs.size := by rw [hyl, ← h2.1]; exact h3
  refine ⟨cs, t, h1, hle, splice cs o ys.toList, t, setRow_heap w b cs _ t (0, 0) h1, ?_, fun i x y hi hy => ?_⟩
  · rw [size_splice hle, h4, ← h2.1]; simp; omega
  · have f := fr_setRow (w := w) hb (splice cs o ys.toList)
    rw [h4] at hi
    rcases Nat.lt_or_ge i o with hio | hio
    · rw [List.getElem?_append_left (by simp; omega), List.getElem?_take, if_pos hio] at hi
      rw [splice_out hle i (.inl hio)] at hy
      exact (h2.2 i x y hi hy).fr f
    · rw [List.getElem?_append_right (by simp; omega)] at hi
      have e : i - (v.cells.take o).length = i - o := by simp; omega
      rw [e] at hi
      rcases Nat.lt_or_ge (i - o) xs.length with hk | hk
      · rw [List.getElem?_append_left hk] at hi
        have e2 : i = o + (i - o) := by omega
        rw [e2, splice_in hle (i - o) (by omega)] at hy
        exact (hx.2 (i - o) x y hi (by simpa using hy)).fr f
      · rw [List.getElem?_append_right hk, List.getElem?_drop] at hi
        have e2 : o + xs.length + (i - o - xs.length) = i := by omega
        rw [e2] at hi
        rw [splice_out hle i (.inr (by omega))] at hy
        exact (h2.2 i x y hi hy).fr f

theorem own_ne {H : Heap} (h : SimH F M w H) {o o' : Ow} {b b' : Nat} (h1 : M.at o = some b) (h2 : M.at o' = some b') (hne : o' ≠ o) : b' ≠ b := by
  intro e
  subst e
  exact hne (h.inj _ _ _ h2 h1)

/-- The evaluator's store: the model's cells are stored, and both stand as before. -/
theorem wrMem_sound {P : Program} {C : Ctx} {s : List V} {H : Heap} {a : Act} (hs : SimS F M w s a) (hh : SimH F M w H) {p : V} {c : Value} (hp : REv F M w p c)
    {xs : List V} {ys : Array Value} (hx : RList (RCell F M w) xs ys) {st' : St} (h : wrMem C ⟨s, H⟩ p xs = some st') :
    ∃ ad w', c = .pointer (some ad) ∧ (storeCells ad ys.toList).run P w = .ok () w' ∧ Fr M M w w' ∧ SimS F M w' st'.s a ∧ SimH F M w' st'.h := by
  cases p with
  | lptr r q =>
    obtain ⟨b, h1, rfl⟩ := hp
    simp only [wrMem] at h
    split at h <;> simp at h
    rename_i u hu
    obtain ⟨v', hv', rfl⟩ := h
    have hr : r < a.tmps.size := hs.len ▸ (List.getElem?_eq_some_iff.1 hu).1
    obtain ⟨b', h2, h3, h4⟩ := hs.slot r _ (a.tmps[r]'hr) hu (by simp [hr])
    rw [h1] at h2
    cases h2
    have hb : M.own b := ⟨.loc r, h1⟩
    obtain ⟨cs, t, g1, g2, g3⟩ := h4.set hb hx hv'
    have f := fr_setRow (w := w) hb (splice cs q ys.toList)
    refine ⟨_, _, rfl, run_storeCells' g1 g2 hx.one_cells, f, ⟨by simpa using hs.len, fun t' v c hv hc => ?_, hs.defers⟩, hh.keep f fun o b' ho hl => setRow_other (own_ne hh (o := .loc r) h1 ho (hl r))⟩
    by_cases e : r = t'
    · subst e
      have hlt : r < s.length := (List.getElem?_eq_some_iff.1 hu).1
      simp [List.getElem?_set, hlt] at hv
      subst hv
      have hc' : c = a.tmps[r] := by simp [hr] at hc; exact hc.symm
      subst hc'
      exact ⟨b, h1, h3, g3⟩
    · rw [List.getElem?_set_ne e] at hv
      exact (hs.slot t' v c hv hc).fr f (fun _ _ h => h) fun b' hl => setRow_other (own_ne hh (o := .loc r) (o' := .loc t') h1 hl (by simpa using fun e' => e e'.symm))
  | ptr id q =>
    obtain ⟨b, h1, rfl⟩ := hp
    simp only [wrMem, Option.bind_eq_some_iff] at h
    obtain ⟨u, hu, v', hv', h⟩ := h
    cases hc : (!(Nat.blt id C.nv) || xs.all (lowC C.nv C.na)) <;> rw [hc] at h <;> simp at h
    subst h
    have hb : M.own b := ⟨.var id, h1⟩
    obtain ⟨cs, t, g1, g2, g3⟩ := (hh.vmem id b u h1 hu).set hb hx hv'
    have f := fr_setRow (w := w) hb (splice cs q ys.toList)
    exact ⟨_, _, rfl, run_storeCells' g1 g2 hx.one_cells, f, hs.keep f fun t b' hl => setRow_other (own_ne hh (o := .var id) (o' := .loc t) h1 hl (by simp)),
      hh.setVar f h1 g3 fun o b' ho hne _ => setRow_other (own_ne hh (o := .var id) h1 ho hne)⟩
  | aptr id ver i q =>
    obtain ⟨x, ad, h1, h2, rfl, h4⟩ := hp
    simp only [wrMem, Option.bind_eq_some_iff] at h
    obtain ⟨A, hA, h⟩ := h
    cases hv : (A.ver == ver) <;> rw [hv] at h <;> simp only [cond_true, cond_false, Option.bind_eq_some_iff] at h
    · simp at h
    obtain ⟨u, hu, v', hv', h⟩ := h
    cases hc : (!(Nat.blt id C.na) || xs.all (lowC C.nv C.na)) <;> rw [hc] at h <;> simp at h
    subst h
    have hm := hh.amem id x A h1 hA
    have hver : ver = x.ver := by have := hm.ver; simp at hv; omega
    rw [h4 hver]
    have hat : M.at (.arr id) = some x.block := by simp [Mu.at, h1]
    have hb : M.own x.block := ⟨_, hat⟩
    obtain ⟨cs, t, g1, g2, g3⟩ := hm.mem
    obtain ⟨e1, e2⟩ := g3 i u hu
    have huc : ∀ z ∈ u.cells, z.cells = [z] := by
      intro z hz
      obtain ⟨k, hk, rfl⟩ := List.mem_iff_getElem.1 hz
      obtain ⟨y, _, hr⟩ := e2 k u.cells[k] (by simp [hk])
      exact hr.cells
    obtain ⟨s1, s2⟩ := setAt_cells hv' hx.cells_of huc
    have hi : i < x.n := by rw [hm.n]; exact (List.getElem?_eq_some_iff.1 hu).1
    have hyl : ys.toList.length = xs.length := by simpa using hx.1.symm
    have hmul : (i + 1) * x.sz ≤ x.lim * x.sz := Nat.mul_le_mul_right _ (Nat.le_trans hi hm.le)
    rw [Nat.add_mul, Nat.one_mul] at hmul
    have hle : (x.base + (i * x.sz + q)) + ys.toList.length ≤ cs.size := by omega
    have f := fr_setRow (w := w) hb (splice cs (x.base + (i * x.sz + q)) ys.toList)
    refine ⟨_, _, rfl, run_storeCells' g1 hle hx.one_cells, f, hs.keep f fun t b' hl => setRow_other (own_ne hh (o := .arr id) (o' := .loc t) hat hl (by simp)),
      hh.setArr f h1 ⟨hm.ver, hm.sz, by simpa using hm.n, hm.le, hm.exact_, splice cs (x.base + (i * x.sz + q)) ys.toList, t, setRow_heap w x.block cs _ t (0, 0) g1, by rw [size_splice hle]; exact g2, fun k e he => ?_⟩
        fun o b' ho hne _ => setRow_other (own_ne hh (o := .arr id) hat ho hne)⟩
    by_cases ek : i = k
    · subst ek
      have hlt : i < A.elems.length := (List.getElem?_eq_some_iff.1 hu).1
      simp [List.getElem?_set, hlt] at he
      subst he
      refine ⟨by rw [s2, ← e1]; simp; omega, fun k z hz => ?_⟩
      rw [s2] at hz
      rcases Nat.lt_or_ge k q with hio | hio
      · rw [List.getElem?_append_left (by simp; omega), List.getElem?_take, if_pos hio] at hz
        obtain ⟨y, hy, hr⟩ := e2 k z hz
        exact ⟨y, by rw [splice_out hle _ (.inl (by omega))]; exact hy, hr.fr f⟩
      · rw [List.getElem?_append_right (by simp; omega)] at hz
        have e : k - (u.cells.take q).length = k - q := by simp; omega
        rw [e] at hz
        rcases Nat.lt_or_ge (k - q) xs.length with hk | hk
        · rw [List.getElem?_append_left hk] at hz
          obtain ⟨y, hy, hr⟩ := hx.one_of (k - q) z hz
          have e2 : x.base + (i * x.sz + k) = x.base + (i * x.sz + q) + (k - q) := by omega
          exact ⟨y, by rw [e2, splice_in hle (k - q) (by omega)]; simpa using hy, hr.fr f⟩
        · rw [List.getElem?_append_right hk, List.getElem?_drop] at hz
          have e3 : q + xs.length + (k - q - xs.length) = k := by omega
          rw [e3] at hz
          obtain ⟨y, hy, hr⟩ := e2 k z hz
          exact ⟨y, by rw [splice_out hle _ (.inr (by omega))]; exact hy, hr.fr f⟩
    · rw [List.getElem?_set_ne ek] at he
      obtain ⟨k1, k2⟩ := g3 k e he
      refine ⟨k1, fun j z hz => ?_⟩
      obtain ⟨y, hy, hr⟩ := k2 j z hz
      have hj : j < x.sz := by rw [← k1]; exact (List.getElem?_eq_some_iff.1 hz).1
      refine ⟨y, ?_, hr.fr f⟩
      rw [splice_out hle _ ?_]
      · exact hy
      · rcases Nat.lt_or_gt_of_ne ek with hlt | hgt
        · have : (i + 1) * x.sz ≤ k * x.sz := Nat.mul_le_mul_right _ hlt
          rw [Nat.add_mul, Nat.one_mul] at this
          exact .inr (by omega)
        · have : (k + 1) * x.sz ≤ i * x.sz := Nat.mul_le_mul_right _ hgt
          rw [Nat.add_mul, Nat.one_mul] at this
          exact .inl (by omega)
  | _ => simp [wrMem] at h

theorem storeV_sound {P : Program} {C : Ctx} {s : List V} {H : Heap} {a : Act} (hs : SimS F M w s a) (hh : SimH F M w H) {p x : V} {c d : Value} (hp : REv F M w p c) (hx : REv F M w x d)
    {t : TypeId} {st' : St} (h : storeV P C ⟨s, H⟩ t p x = some st') :
    ∃ ad w', c = .pointer (some ad) ∧ (storeVar t ad d).run P w = .ok () w' ∧ Fr M M w w' ∧ SimS F M w' st'.s a ∧ SimH F M w' st'.h := by
  unfold storeV at h
  cases hc : ((tAgg P t).isSome && (x.storable && x.cells.length == P.cellsOf t)) <;> rw [hc] at h <;> simp only [cond_true, cond_false] at h
  · simp at h
  simp only [Bool.and_eq_true] at hc
  obtain ⟨hg, hst, hl⟩ := hc
  obtain ⟨g, hg⟩ := Option.isSome_iff_exists.1 hg
  obtain ⟨dd, hd⟩ := tAgg_underlying hg
  have hl' : x.cells.length = P.cellsOf t := by simpa using hl
  have hcells := storable_cells hx hst
  obtain ⟨ad, w', h1, h2, h3, h4, h5⟩ := wrMem_sound (P := P) hs hh hp hcells h
  refine ⟨ad, w', h1, ?_, h3, h4, h5⟩
  have hsz : d.cells.size = P.cellsOf t := by rw [← hl']; exact hcells.1.symm
  simp [storeVar, Sem.run_bind, run_sizeOf' hd, hsz, h2]
end
end Go.DM
namespace Go.DM

section
variable {F : Bool → Nat → Prop} {M : Mu} {w : World}

theorem rev_int {k : IntKind} {n : Int} {c : Value} (h : REv F M w (.int k n) c) : c = .int k n := by
  have h : RG F M.own w (.int k n) c := h
  cases h; rfl
theorem rev_bool {b : Bool} {c : Value} (h : REv F M w (.bool b) c) : c = .bool b := by
  have h : RG F M.own w (.bool b) c := h
  cases h; rfl
theorem rev_str {l : List UInt8} {c : Value} (h : REv F M w (.str l) c) : ∃ s : ByteArray, c = .string s ∧ l = s.data.toList := by
  have h : RG F M.own w (.str l) c := h
  cases h; exact ⟨_, rfl, by assumption⟩
theorem rev_nilp {c : Value} (h : REv F M w .nilp c) : c = .pointer none := by
  have h : RG F M.own w .nilp c := h
  cases h; rfl
theorem rev_nils {c : Value} (h : REv F M w .nils c) : c = .slice none 0 0 := by
  have h : RG F M.own w .nils c := h
  cases h; rfl
theorem rev_nilfn {c : Value} (h : REv F M w .nilfn c) : c = .nilFunc := by
  have h : RG F M.own w .nilfn c := h
  cases h; rfl
theorem rv_int {k : IntKind} {n : Int} : RV F M w (.int k n) (.int k n) := RG.int (F := F) (O := M.own) (w := w) k n
theorem rv_bool {b : Bool} : RV F M w (.bool b) (.bool b) := RG.bool (F := F) (O := M.own) (w := w) b
theorem rv_str {l : List UInt8} {s : ByteArray} (h : l = s.data.toList) : RV F M w (.str l) (.string s) := RG.str (F := F) (O := M.own) (w := w) s l h

theorem ofCell_sound {O : Nat → Prop} {v : Value} {x : V} (h : ofCell? v = some x) : RG F O w x v := by
  unfold ofCell? at h
  split at h <;> simp at h <;> subst h
  · exact .bool _
  · exact .int _ _
  · exact .str _ _ rfl
  · exact .nilp
  · exact .nils
  · exact .nilfn

theorem mapO_length {α β : Type} {f : α → Option β} : ∀ {l : List α} {r : List β}, mapO f l = some r → r.length = l.length
  | [], r, h => by simp [mapO] at h; subst h; rfl
  | x :: l, r, h => by
    simp only [mapO, Option.bind_eq_some_iff] at h
    obtain ⟨y, _, ys, h2, h⟩ := h
    cases h
    simp [mapO_length h2]
theorem mapO_get {α β : Type} {f : α → Option β} : ∀ {l : List α} {r : List β}, mapO f l = some r → ∀ (i : Nat) x, l[i]? = some x → ∃ y, r[i]? = some y ∧ f x = some y
  | [], r, h, i, x, hx => by simp at hx
  | z :: l, r, h, i, x, hx => by
    simp only [mapO, Option.bind_eq_some_iff] at h
    obtain ⟨y, h1, ys, h2, h⟩ := h
    cases h
    cases i with
    | zero => simp at hx; subst hx; exact ⟨y, rfl, h1⟩
    | succ i => simp at hx; obtain ⟨y', h3, h4⟩ := mapO_get h2 i x hx; exact ⟨y', by simpa using h3, h4⟩

theorem ofVal_sound (v : Value) : RV F M w (ofVal v) v := by
  have key : ∀ v x, ofCell? v = some x → RV F M w x v := fun v x h => (ofCell_sound h).toRS.toRX.toRV
  unfold ofVal
  split
  · rename_i cs
    split
    · rename_i l h
      refine ⟨cs, rfl, by simpa using mapO_length h, fun i x y hx hy => ?_⟩
      obtain ⟨x', h1, h2⟩ := mapO_get h i y (by simpa using hy)
      rw [hx] at h1; cases h1
      exact (ofCell_sound h2).toRS.cell
    · trivial
  · split
    · rename_i h; exact key _ _ h
    · trivial

theorem ev_sound {s : List V} {a : Act} (hs : SimS F M w s a) (x : Operand) : REv F M w (ev s x) (a.eval x) := by
  cases x with
  | const v => exact (ofVal_sound v).toREv
  | func f => exact (RG.toRS (RG.fn f)).toRX.toRV.toREv
  | global g => exact trivial
  | tmp t =>
    simp only [ev, Act.eval]
    cases ht : s[t]? with
    | none =>
      have h1 : a.tmps[t]? = none := by
        rw [List.getElem?_eq_none_iff] at ht
        rw [Array.getElem?_eq_none_iff, ← hs.len]; exact ht
      simp only [Array.getD_eq_getD_getElem?, h1, Option.getD_none]
      exact ⟨#[], rfl, rfl, fun i x y hx => by simp at hx⟩
    | some v =>
      have hlt : t < a.tmps.size := hs.len ▸ (List.getElem?_eq_some_iff.1 ht).1
      have h1 : a.tmps[t]? = some (a.tmps[t]) := by simp [hlt]
      have h2 := hs.slot t v _ ht h1
      simp only [Array.getD_eq_getD_getElem?, h1, Option.getD_some]
      cases v with
      | box u => obtain ⟨b, h3, h4, _⟩ := h2; exact ⟨b, h3, h4⟩
      | _ => exact h2

/-! scalars -/
variable {P : Program}

theorem intBin_sound {op : BinOp} {k : IntKind} {x y : Int} {v : V} (h : intBin op k x y = some v) (t : TypeId) :
    ∃ c, (binOp op t (.int k x) (.int k y)).run P w = .ok c w ∧ RV F M w v c := by
  cases op <;> simp only [intBin] at h
  case quo =>
    cases hd : decide (y = 0) <;> rw [hd] at h <;> simp at h
    subst h
    have hd' : y ≠ 0 := by simpa using hd
    exact ⟨_, by simp [binOp, Op.intDiv, hd'], rv_int⟩
  case rem =>
    cases hd : decide (y = 0) <;> rw [hd] at h <;> simp at h
    subst h
    have hd' : y ≠ 0 := by simpa using hd
    exact ⟨_, by simp [binOp, Op.intDiv, hd'], rv_int⟩
  case shl => simp at h
  case shr => simp at h
  all_goals
    simp only [Option.some.injEq] at h
    subst h
    first
      | exact ⟨_, by simp [binOp, Op.intArith, Op.intBits, Op.intCmp]; rfl, rv_int⟩
      | exact ⟨_, by simp [binOp, Op.intArith, Op.intBits, Op.intCmp]; rfl, rv_bool⟩
      | exact ⟨_, by simp [binOp, Op.intArith, Op.intBits, Op.intCmp], rv_int⟩
      | exact ⟨_, by simp [binOp, Op.intArith, Op.intBits, Op.intCmp], rv_bool⟩

theorem shift_sound {op : BinOp} {k k' : IntKind} {x y : Int} {v : V} {l : Bool} (ho : isShift op = some l) (h : shiftV l k x y = some v) (t : TypeId) :
    ∃ c, (binOp op t (.int k x) (.int k' y)).run P w = .ok c w ∧ RV F M w v c := by
  unfold shiftV at h
  cases hd : decide (y < 0) <;> rw [hd] at h <;> simp at h
  have hd' : ¬ y < 0 := by simpa using hd
  cases op <;> simp [isShift] at ho <;> subst ho <;> simp at h <;> subst h
  · exact ⟨_, by simp [binOp, Op.shift, hd'], rv_int⟩
  · exact ⟨_, by simp [binOp, Op.shift, hd'], rv_int⟩

theorem strBin_sound {op : BinOp} {x y : ByteArray} {v : V} (h : strBin op x.data.toList y.data.toList = some v) (t : TypeId) :
    ∃ c, (binOp op t (.string x) (.string y)).run P w = .ok c w ∧ RV F M w v c := by
  cases op <;> simp only [strBin] at h
  case add =>
    cases hd : Nat.ble (x.data.toList.length + y.data.toList.length) 9223372036854775807 <;> rw [hd] at h <;> simp at h
    subst h
    have hd' := Nat.le_of_ble_eq_true hd
    have hsz : ¬ (((x.size + y.size : Nat) : Int) > IntKind.i64.max) := by
      rw [Lib.size_eq, Lib.size_eq]
      have : IntKind.i64.max = 9223372036854775807 := by decide
      rw [this]; omega
    refine ⟨.string (x ++ y), ?_, rv_str (by simp [ByteArray.data_append])⟩
    simp only [binOp, Op.stringOp]
    rw [if_neg hsz]
    rfl
  all_goals first
    | (simp at h; done)
    | (simp only [Option.some.injEq] at h
       subst h
       exact ⟨_, by simp [binOp, Op.stringOp, ByteArray.toList_eq]; rfl, rv_bool⟩)
    | (simp only [Option.some.injEq] at h
       subst h
       exact ⟨_, by simp [binOp, Op.stringOp, ByteArray.toList_eq], rv_bool⟩)
end
end Go.DM
