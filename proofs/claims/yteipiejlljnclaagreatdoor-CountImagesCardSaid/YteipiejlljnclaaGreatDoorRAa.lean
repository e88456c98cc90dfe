/- The abstract layer, part 1: abstract values and states, what each operation of a Go function does to them, and the rules by which a function's code is walked. Definitions and their equations; no condition. -/
import Derived.Calls
import Derived.KernelRfl
import Derived.Laws.Sem
import Derived.Orders
import Derived.Attr
import Derived.Laws.AppendOwn
set_option linter.unusedVariables false
set_option linter.unusedSectionVars false
section
namespace Go.AL

structure Pl where
 r : Nat
 g : Nat
 deriving DecidableEq

inductive AV where
 | junk
 | sc (v : Value)
 | agg (cs : List AV)
 | tup (cs : List AV)
 | nil
 | sl (es : Nat) (xs : List AV)
 | dp (es : Nat) (xs : List AV) (i j : Nat)
 | hp (p : Pl) (i j : Nat)
 | hs (p : Pl) (o n : Nat)
 | hm (p : Pl)
 | nst
 | it
 | cl (f : FuncId) (cs : List AV)
 deriving Inhabited

inductive KK where
 | int (k : IntKind) | str | arr (n : Nat) (k : IntKind) | other
 deriving DecidableEq
inductive Body where
 | cells (es : Nat) (xs : List AV)
 | map (kk : KK) (ents : List (AV × AV))

structure Row where
 gen : Nat
 own : Bool
 box : Bool
 body : Body

abbrev Env := List (Nat × AV)
abbrev Rows := List (Nat × Row)
structure St where
 env : Env
 rows : Rows

def lget {α : Type} : List (Nat × α) → Nat → Option α
 | [], _ => none
 | (k, v) :: l, n => if k = n then some v else lget l n
def lput {α : Type} : List (Nat × α) → Nat → α → List (Nat × α)
 | [], n, x => [(n, x)]
 | (k, v) :: l, n, x => if k = n then (n, x) :: l else if n < k then (n, x) :: (k, v) :: l else (k, v) :: lput l n x
inductive PA where
 | data (v : AV)
 | ptr (es : Nat) (x : AV) (subs : List (Nat × Body))
 | slc (b : Body)
 | mp (b : Body)
 | lost
structure CRes where
 val : AV
 new : List PA := []
 args : List PA := []

inductive RM (α : Type) where
 | ret (a : α)
 | slot (t : Nat) (k : AV → RM α)
 | row (r : Nat) (k : Option Row → RM α)
 | req (p : Prop) (k : RM α)
 | any (k : Bool → RM α)
 | call (f : FuncId) (as : List PA) (k : CRes → RM α)
 | fail
namespace RM
def bind {α β : Type} : RM α → (α → RM β) → RM β
 | .ret a, f => f a
 | .slot t k, f => .slot t fun v => (k v).bind f
 | .row r k, f => .row r fun v => (k v).bind f
 | .req p k, f => .req p (k.bind f)
 | .any k, f => .any fun b => (k b).bind f
 | .call g as k, f => .call g as fun v => (k v).bind f
 | .fail, _ => .fail
end RM

abbrev Wr := List (Nat × Row)
structure Eff where
 val : AV
 rows : Wr := []

inductive TK where
 | int (k : IntKind) | bool | str
 | slice (e : TypeId) | arr (n : Nat) (e : TypeId)
 | struct (fs : List (Nat × TypeId))
 | ptr (e : TypeId) | map (k e : TypeId)
 | other
structure TI where
 ok : Bool
 k : TK
 size : Nat
 bytes : Nat
 zero : AV
 slcs : List (Nat × Nat)

def ofCell : Value → AV
 | .slice none 0 0 => .nil
 | .agg _ | .tuple _ => .junk
 | v => .sc v
def ofValue : Value → AV
 | .agg cs => if cs.toList.all (·.oneCell') then .agg (cs.toList.map ofCell) else .junk
 | v => ofCell v
def cellsOf : AV → List AV
 | .agg cs => cs
 | x => [x]
def plainCell : AV → Bool
 | .sc _ | .nil | .sl .. | .dp .. => true
 | _ => false
def plainAll : AV → Bool
 | .agg cs => cs.all plainCell
 | x => plainCell x
def kindOf : TypeDesc → TK
 | .int k => .int k | .bool => .bool | .string => .str | .slice e => .slice e | .array n e => .arr n e
 | .struct fs => .struct (fs.toList.map fun f => (f.offset, f.type)) | .pointer e => .ptr e | .map k e => .map k e
 | _ => .other
def sizeOf (P : Program) (t : TypeId) : Option Nat := (P.info? t).map (·.size)
def slcsOf (P : Program) : Nat → TypeId → Nat → List (Nat × Nat)
 | 0, _, _ => []
 | n + 1, t, off => match P.underlying t with
  | some (.slice e) => [(off, (sizeOf P e).getD 0)]
  | some (.struct fs) => fs.toList.flatMap fun f => slcsOf P n f.type (off + f.offset)
  | _ => []
def isAggAV : AV → Bool
 | .agg _ => true
 | _ => false
def TK.isAgg : TK → Bool
 | .arr .. | .struct _ => true
 | _ => false
def tyOf (P : Program) (t : TypeId) : TI :=
 match P.underlying t, P.info? t with
 | some d, some i =>
  match i.zero with
  | some v => { ok := plainAll (ofValue v) && (cellsOf (ofValue v)).length == i.size && isAggAV (ofValue v) == (kindOf d).isAgg, k := kindOf d, size := i.size, bytes := i.bytes, zero := ofValue v, slcs := slcsOf P 8 t 0 }
  | none => { ok := false, k := .other, size := 0, bytes := 0, zero := .junk, slcs := [] }
 | _, _ => { ok := false, k := .other, size := 0, bytes := 0, zero := .junk, slcs := [] }
def TK.elem : TK → TypeId
 | .slice e => e
 | _ => 0

open RM
def opd : Operand → RM AV
 | .tmp t => .slot t .ret
 | .const v => .ret (ofValue v)
 | .func f => .ret (.sc (.func (.func f) #[] #[]))
 | .global _ => .fail
def opds : List Operand → RM (List AV)
 | [] => .ret []
 | o :: l => (opd o).bind fun v => (opds l).bind fun r => .ret (v :: r)

def VC (p : Prop) : Prop := p
def freshGen : Option Row → Nat
 | none => 1
 | some w => w.gen + 1
def mk {α : Type} (key : Nat) (box : Bool) (b : Body) (k : Pl → Nat × Row → RM α) : RM α :=
 .row key fun old => k ⟨key, freshGen old⟩ (key, ⟨freshGen old, true, box, b⟩)

def rd {α : Type} (p : Pl) (k : Row → RM α) : RM α :=
 .row p.r fun
  | none => .fail
  | some w => if w.gen = p.g then k w else .fail
def Row.dead (w : Row) : Row := { gen := w.gen + 1, own := false, box := false, body := .cells 0 [] }

def notIn (r : Nat) : Wr → Bool
 | [] => true
 | (k, _) :: l => if k = r then false else notIn r l
def giveUp (v : AV) : RM (AV × Wr) :=
 match v with
 | .hs p o n => rd p fun w => match w.body with
  | .cells es xs => if w.box then .fail else .req (o + n ≤ xs.length) (.ret (.sl es ((xs.drop o).take n), if w.own then [(p.r, { w with own := false })] else []))
  | _ => .fail
 | .hp .. | .hm _ | .nst | .junk | .tup _ | .agg _ | .it => .fail
 | x => .ret (x, [])
def giveUpL : List AV → RM (List AV × Wr)
 | [] => .ret ([], [])
 | x :: l => (giveUp x).bind fun y => (giveUpL l).bind fun r => .ret (y.1 :: r.1, y.2 ++ r.2)
def giveUpA (v : AV) : RM (AV × Wr) :=
 match v with
 | .agg cs => (giveUpL cs).bind fun r => .ret (.agg r.1, r.2)
 | v => giveUp v

def canonCells (slcs : List (Nat × Nat)) : Nat → List AV → List AV
 | _, [] => []
 | j, .nil :: l => .sl ((lget slcs j).getD 0) [] :: canonCells slcs (j + 1) l
 | j, v :: l => v :: canonCells slcs (j + 1) l
def canonA (slcs : List (Nat × Nat)) : AV → AV
 | .agg cs => .agg (canonCells slcs 0 cs)
 | .nil => .sl ((lget slcs 0).getD 0) []
 | v => v
def TI.zd (t : TI) : AV := canonA t.slcs t.zero
def giveT (slcs : List (Nat × Nat)) (v : AV) : RM (AV × Wr) := (giveUpA v).bind fun y => .ret (canonA slcs y.1, y.2)
def at_ (xs : List AV) (i : Nat) : AV := xs.getD i .junk
def partOf (agg : Bool) (size es : Nat) (x : AV) (j : Nat) : AV :=
 match x with
 | .agg cs => if agg then (if j = 0 ∧ size = es then .agg cs else .agg ((cs.drop j).take size)) else at_ cs j
 | .junk | .nst | .tup _ => .junk
 | x => if agg then .junk else x
def splice (cs : List AV) (j : Nat) (vs : List AV) : List AV := cs.take j ++ (vs ++ cs.drop (j + vs.length))
def setPart (agg : Bool) (size es : Nat) (x : AV) (j : Nat) (v : AV) : AV :=
 if agg then (if j = 0 ∧ size = es then v else match x with
  | .agg cs => .agg (splice cs j (cellsOf v))
  | _ => .junk)
 else match x with
  | .agg cs => .agg (cs.set j v)
  | _ => if es = 1 then v else .junk

def ibits (op : BinOp) (k : IntKind) (x y : Int) : Int :=
 let a := BitVec.ofInt k.bits x
 let b := BitVec.ofInt k.bits y
 k.wrap (match op with | .and => (a &&& b).toNat | .or => (a ||| b).toNat | .xor => (a ^^^ b).toNat | _ => (a &&& ~~~b).toNat)
def int (k : IntKind) (n : Int) : AV := .sc (.int k n)
def bool (b : Bool) : AV := .sc (.bool b)

def intOf1 (k : IntKind) : AV → Bool
 | .sc (.int k' _) => k == k'
 | _ => false
def keyOK : KK → AV → Bool
 | .int k, x => intOf1 k x
 | .str, .sc (.string _) => true
 | .arr n k, .agg cs => cs.length == n && cs.all (intOf1 k)
 | _, _ => false
def keyEq1 : AV → AV → Bool
 | .sc (.int _ a), .sc (.int _ b) => a == b
 | .sc (.string a), .sc (.string b) => a == b
 | _, _ => false
def keysEq : List AV → List AV → Bool
 | [], [] => true
 | a :: as, b :: bs => keyEq1 a b && keysEq as bs
 | _, _ => false
def keyEq : AV → AV → Bool
 | .agg as, .agg bs => keysEq as bs
 | a, b => keyEq1 a b
def mget (k : AV) : List (AV × AV) → Option AV
 | [] => none
 | (a, v) :: l => if keyEq k a then some v else mget k l
def mset (k v : AV) : List (AV × AV) → List (AV × AV)
 | [] => [(k, v)]
 | (a, x) :: l => if keyEq k a then (a, v) :: l else (a, x) :: mset k v l
def kkOf (P : Program) (t : TypeId) : KK :=
 match (tyOf P t).k with
 | .int k => .int k
 | .str => .str
 | .arr n e => match (tyOf P e).k with
  | .int k => if (tyOf P e).ok then .arr n k else .other
  | _ => .other
 | _ => .other

def binInt (op : BinOp) (k : IntKind) (a b : Int) : RM AV :=
 match op with
 | .shl => .req (0 ≤ b) (.ret (int k (k.wrap (a * 2 ^ (min b.toNat k.bits)))))
 | .shr => .req (0 ≤ b) (.ret (int k (a.fdiv (2 ^ (min b.toNat k.bits)))))
 | .add => .ret (int k (k.wrap (a + b)))
 | .sub => .ret (int k (k.wrap (a - b)))
 | .mul => .ret (int k (k.wrap (a * b)))
 | .quo => .req (b ≠ 0) (.ret (int k (k.wrap (a.tdiv b))))
 | .rem => .req (b ≠ 0) (.ret (int k (a.tmod b)))
 | .eql => .ret (bool (a == b))
 | .neq => .ret (bool (a != b))
 | .lss => .ret (bool (a < b))
 | .leq => .ret (bool (a ≤ b))
 | .gtr => .ret (bool (a > b))
 | .geq => .ret (bool (a ≥ b))
 | op => .ret (int k (ibits op k a b))
def binBool (op : BinOp) (a b : Bool) : RM AV :=
 match op with
 | .eql => .ret (bool (a == b))
 | .neq => .ret (bool (a != b))
 | _ => .fail
def binStr (op : BinOp) (a b : ByteArray) : RM AV :=
 match op with
 | .eql => .ret (bool (a == b))
 | .neq => .ret (bool (a != b))
 | .add => .req (a.size + b.size ≤ 9223372036854775807) (.ret (.sc (.string (a ++ b))))
 | _ => .fail
def binAgg (P : Program) (op : BinOp) (t : TypeId) (a b : List AV) : RM AV :=
 .req (keyOK (kkOf P t) (.agg a) = true ∧ keyOK (kkOf P t) (.agg b) = true) (match op with
 | .eql => .ret (bool (keysEq a b))
 | .neq => .ret (bool (!keysEq a b))
 | _ => .fail)
def binNil (op : BinOp) (n : Nat) : RM AV :=
 match op with
 | .eql => if n = 0 then .any fun b => .ret (bool b) else .ret (bool false)
 | .neq => if n = 0 then .any fun b => .ret (bool b) else .ret (bool true)
 | _ => .fail
def shiftOp : BinOp → Bool
 | .shl | .shr => true
 | _ => false
def TK.isSlice : TK → Bool
 | .slice _ => true
 | _ => false
def TK.isBool : TK → Bool
 | .bool => true
 | _ => false
def isNil : Operand → Bool
 | .const (.slice none 0 0) => true
 | _ => false
def binOpA (P : Program) (op : BinOp) (t : TypeId) (x y : AV) (yo : Operand) : RM AV :=
 match x, y with
 | .sc (.int k a), .sc (.int k' b) => if k = k' ∨ shiftOp op = true then binInt op k a b else .fail
 | .sc (.bool a), .sc (.bool b) => if (tyOf P t).k.isBool then binBool op a b else .fail
 | .sc (.string a), .sc (.string b) => binStr op a b
 | .agg as, .agg bs => binAgg P op t as bs
 | .sl _ xs, .nil => if (tyOf P t).k.isSlice && isNil yo then binNil op xs.length else .fail
 | .hs _ _ n, .nil => if (tyOf P t).k.isSlice && isNil yo then binNil op n else .fail
 | .nil, .nil => if (tyOf P t).k.isSlice && isNil yo then binNil op 0 else .fail
 | _, _ => .fail
def unOpA (op : UnOp) (x : AV) : RM AV :=
 match op, x with
 | .not, .sc (.bool b) => .ret (bool (!b))
 | .neg, .sc (.int k n) => .ret (int k (k.wrap (0 - n)))
 | .xor, .sc (.int k n) => .ret (int k (ibits .xor k (if k.signed then -1 else k.max) n))
 | _, _ => .fail
def pickA (c a b : AV) : RM AV :=
 match c with
 | .sc (.bool c) => .ret (if c then a else b)
 | _ => .fail
def nilCheckA : AV → RM AV
 | .hp p i j => .ret (.hp p i j)
 | .dp es xs i j => .ret (.dp es xs i j)
 | .sc (.func (.func f) a b) => .ret (.sc (.func (.func f) a b))
 | _ => .fail
def extractA (x : AV) (i : Nat) : RM AV :=
 match x with
 | .tup cs => match cs[i]? with
  | some v => .ret v
  | none => .fail
 | _ => .fail
def natOf : AV → RM Int
 | .sc (.int _ n) => .ret n
 | _ => .fail
def optNat : Option Operand → RM (Option Int)
 | none => .ret none
 | some o => (opd o).bind fun v => (natOf v).bind fun n => .ret (some n)
def lenA (P : Program) (t : TypeId) (x : AV) : RM AV :=
 match (tyOf P t).k with
 | .slice _ => match x with
  | .nil => .ret (int .i64 0)
  | .sl _ xs => .ret (int .i64 xs.length)
  | .hs _ _ n => .ret (int .i64 n)
  | _ => .fail
 | .str => match x with
  | .sc (.string s) => .ret (int .i64 s.size)
  | _ => .fail
 | .map _ _ => match x with
  | .hm p => rd p fun w => match w.body with
   | .map _ es => .ret (int .i64 es.length)
   | _ => .fail
  | _ => .fail
 | _ => .fail

def elems {α : Type} (x : AV) (k : Nat → List AV → RM α) : RM α :=
 match x with
 | .nil => k 0 []
 | .sl es xs => k es xs
 | .hs p o n => rd p fun w => match w.body with
  | .cells es xs => if w.box then .fail else .req (o + n ≤ xs.length) (k es ((xs.drop o).take n))
  | _ => .fail
 | .sc (.string s) => k 1 (s.data.toList.map fun b => int .u8 b.toNat)
 | _ => .fail
def roomy (n bytes : Nat) : Prop := n * bytes ≤ 140737488355328 ∧ 0 < bytes
def appendA (dst es by_ : Nat) (s : AV) (ys : List AV) : RM Eff :=
 match s with
 | .nil => .req (roomy ys.length by_) (mk dst false (.cells es ys) fun p w => .ret { val := .hs p 0 ys.length, rows := [w] })
 | .hs p o n => rd p fun w => match w.body with
  | .cells es' xs => if w.own = true ∧ w.box = false then .req (es' = es ∧ o + n ≤ xs.length ∧ roomy (n + ys.length) by_)
    (.ret { val := .hs ⟨p.r, w.gen + 1⟩ 0 (n + ys.length), rows := [(p.r, ⟨w.gen + 1, true, false, .cells es ((xs.drop o).take n ++ ys)⟩)] }) else .fail
  | _ => .fail
 | _ => .fail
def indexAddrA (P : Program) (t : TypeId) (x : AV) (i : Int) : RM AV :=
 match (tyOf P t).k with
 | .slice e =>
  match x with
  | .sl es xs => .req (0 ≤ i ∧ i < xs.length) (if sizeOf P e = some es then .ret (.dp es xs i.toNat 0) else .fail)
  | .hs p o n => rd p fun w => match w.body with
   | .cells es _ => .req (0 ≤ i ∧ i < n) (if sizeOf P e = some es then .ret (.hp p (o + i.toNat) 0) else .fail)
   | _ => .fail
  | _ => .fail
 | .arr len e =>
  match x with
  | .hp p a j => match sizeOf P e with
   | some s => .req (0 ≤ i ∧ i < len) (.ret (.hp p a (j + i.toNat * s)))
   | none => .fail
  | .dp es xs a j => match sizeOf P e with
   | some s => .req (0 ≤ i ∧ i < len) (.ret (.dp es xs a (j + i.toNat * s)))
   | none => .fail
  | _ => .fail
 | _ => .fail
def fieldAddrA (P : Program) (t : TypeId) (x : AV) (f : Nat) : RM AV :=
 match (tyOf P t).k with
 | .struct fs => match fs[f]? with
  | some q => match sizeOf P q.2 with
   | some n => if n = 0 then .fail else match x with
    | .hp p i j => .ret (.hp p i (j + q.1))
    | .dp es xs i j => .ret (.dp es xs i (j + q.1))
    | _ => .fail
   | none => .fail
  | none => .fail
 | _ => .fail
def valPart (P : Program) (t : TypeId) (cs : List AV) (off : Nat) : RM AV :=
 if (tyOf P t).ok then .req (off + (tyOf P t).size ≤ cs.length) (.ret (if (tyOf P t).k.isAgg then .agg ((cs.drop off).take (tyOf P t).size) else at_ cs off)) else .fail
def fieldA (P : Program) (t : TypeId) (x : AV) (f : Nat) : RM AV :=
 match (tyOf P t).k, x with
 | .struct fs, .agg cs => match fs[f]? with
  | some q => valPart P q.2 cs q.1
  | none => .fail
 | _, _ => .fail
def indexA (P : Program) (t : TypeId) (x : AV) (i : Int) : RM AV :=
 match (tyOf P t).k, x with
 | .arr n e, .agg cs => .req (0 ≤ i ∧ i < n) (valPart P e cs (i.toNat * (tyOf P e).size))
 | .str, .sc (.string s) => .req (0 ≤ i ∧ i < s.size) (.ret (int .u8 (s.data.toList.getD i.toNat 0).toNat))
 | _, _ => .fail

def loadA (P : Program) (t : TypeId) (x : AV) : RM AV :=
 if (tyOf P t).ok then match x with
  | .dp es xs i j => .req (i < xs.length ∧ j + (tyOf P t).size ≤ es) (.ret (partOf (tyOf P t).k.isAgg (tyOf P t).size es (at_ xs i) j))
  | .hp p i j => rd p fun w => match w.body with
   | .cells es xs => .req (i < xs.length ∧ j + (tyOf P t).size ≤ es) (.ret (partOf (tyOf P t).k.isAgg (tyOf P t).size es (at_ xs i) j))
   | _ => .fail
  | _ => .fail
 else .fail

def nestKey (r j : Nat) : Nat := r + 10000000 * (j + 1)
def fixCells (slcs : List (Nat × Nat)) (r j0 : Nat) : Nat → List AV → RM (List AV × Wr)
 | _, [] => .ret ([], [])
 | j, .nil :: l => mk (nestKey r (j0 + j)) false (.cells ((lget slcs j).getD 0) []) fun p w => (fixCells slcs r j0 (j + 1) l).bind fun y => .ret (.hs p 0 0 :: y.1, w :: y.2)
 | _, .junk :: _ | _, .nst :: _ | _, .agg _ :: _ | _, .tup _ :: _ | _, .it :: _ => .fail
 | j, v :: l => (fixCells slcs r j0 (j + 1) l).bind fun y => .ret (v :: y.1, y.2)
def boxA (P : Program) (dst : Nat) (t : TypeId) (v : AV) : RM Eff :=
 if (tyOf P t).ok then
  if (tyOf P t).k.isAgg then match v with
   | .agg cs => .req (cs.length = (tyOf P t).size) ((fixCells (tyOf P t).slcs dst 0 0 cs).bind fun r => mk dst true (.cells (tyOf P t).size [.agg r.1]) fun p w => .ret { val := .hp p 0 0, rows := r.2 ++ [w] })
   | _ => .fail
  else (fixCells (tyOf P t).slcs dst 0 0 [v]).bind fun r => mk dst true (.cells 1 [at_ r.1 0]) fun p w => .ret { val := .hp p 0 0, rows := r.2 ++ [w] }
 else .fail

def storeA (P : Program) (t : TypeId) (x v : AV) : RM Eff :=
 if (tyOf P t).ok then match x with
  | .hp p i j => rd p fun w => match w.body with
   | .cells es xs => if w.own then .req (i < xs.length ∧ j + (tyOf P t).size ≤ es) (
    if w.box then
     (if (tyOf P t).k.isAgg then match v with
      | .agg cs => .req (cs.length = (tyOf P t).size) ((fixCells (tyOf P t).slcs p.r j 0 cs).bind fun r => .ret { val := .junk, rows := r.2 ++ [(p.r, { w with body := .cells es (xs.set i (setPart true (tyOf P t).size es (at_ xs i) j (.agg r.1))) })] })
      | _ => .fail
     else (fixCells (tyOf P t).slcs p.r j 0 [v]).bind fun r => .ret { val := .junk, rows := r.2 ++ [(p.r, { w with body := .cells es (xs.set i (setPart false 1 es (at_ xs i) j (at_ r.1 0))) })] })
    else (giveT (tyOf P t).slcs v).bind fun y => .req ((cellsOf y.1).length = (tyOf P t).size ∧ isAggAV y.1 = (tyOf P t).k.isAgg ∧ notIn p.r y.2 = true) (.ret { val := .junk, rows := y.2 ++ [(p.r, { w with body := .cells es (xs.set i (setPart (tyOf P t).k.isAgg (tyOf P t).size es (at_ xs i) j y.1)) })] })) else .fail
   | _ => .fail
  | _ => .fail
 else .fail

def setParts (place : Nat → Nat) (cs : List AV) : List (Nat × AV) → List AV
 | [] => cs
 | (i, v) :: l => setParts place (splice cs (place i) (cellsOf v)) l
def opdParts : List (Nat × Operand) → RM (List (Nat × AV))
 | [] => .ret []
 | (i, o) :: l => (opd o).bind fun v => (opdParts l).bind fun r => .ret ((i, v) :: r)
def partsOK (place : Nat → Option (Nat × Nat)) (size : Nat) : List (Nat × AV) → Bool
 | [] => true
 | (i, v) :: l => (match place i with
  | some (off, n) => (cellsOf v).length == n && decide (off + n ≤ size) && okPart v
  | none => false) && partsOK place size l
where okPart : AV → Bool
 | .junk | .nst | .tup _ | .it => false
 | .agg cs => cs.all fun | .agg _ | .tup _ | .junk | .nst | .it => false | _ => true
 | _ => true
def buildA (P : Program) (t : TypeId) (ps : List (Nat × AV)) : RM AV :=
 if (tyOf P t).ok then match (tyOf P t).k with
  | .struct fs => .req ((fs.all fun q => (sizeOf P q.2).isSome) = true ∧ partsOK (fun i => (fs[i]?).bind fun q => (sizeOf P q.2).map fun n => (q.1, n)) (tyOf P t).size ps = true) (.ret (.agg (setParts (fun i => ((fs[i]?).map (·.1)).getD 0) (cellsOf (tyOf P t).zero) ps)))
  | .arr _ e => .req ((sizeOf P e).isSome = true ∧ partsOK (fun i => (sizeOf P e).map fun n => (i * n, n)) (tyOf P t).size ps = true) (.ret (.agg (setParts (fun i => i * (sizeOf P e).getD 0) (cellsOf (tyOf P t).zero) ps)))
  | _ => .fail
 else .fail
def giveParts (slcs : List (Nat × Nat)) : List (Nat × AV) → RM (List (Nat × AV) × Wr)
 | [] => .ret ([], [])
 | (i, v) :: l => (giveT slcs v).bind fun y => (giveParts slcs l).bind fun r => .ret ((i, y.1) :: r.1, y.2 ++ r.2)
def setElems (xs : List AV) : List (Nat × AV) → List AV
 | [] => xs
 | (i, v) :: l => setElems (xs.set i v) l
def elemsOK (agg : Bool) (es n : Nat) : List (Nat × AV) → Bool
 | [] => true
 | (i, v) :: l => (cellsOf v).length == es && decide (i < n) && isAggAV v == agg && elemsOK agg es n l
def buildSliceA (P : Program) (dst : Nat) (t : TypeId) (n : Nat) (ps : List (Nat × AV)) : RM Eff :=
 match (tyOf P t).k with
 | .slice e => if (tyOf P e).ok then (giveParts (tyOf P e).slcs ps).bind fun r => .req (n * (tyOf P e).size ≤ 16777216 ∧ elemsOK (tyOf P e).k.isAgg (tyOf P e).size n r.1 = true)
   (mk dst false (.cells (tyOf P e).size (setElems (List.replicate n (tyOf P e).zd) r.1)) fun p w => .ret { val := .hs p 0 n, rows := r.2 ++ [w] }) else .fail
 | _ => .fail
def makeSliceA (P : Program) (dst : Nat) (t : TypeId) (l c : Int) : RM Eff :=
 match (tyOf P t).k with
 | .slice e => if (tyOf P e).ok then .req (0 ≤ l ∧ l ≤ c ∧ c ≤ 9223372036854775807 ∧ roomy c.toNat (tyOf P e).bytes) (mk dst false (.cells (tyOf P e).size (List.replicate l.toNat (tyOf P e).zd)) fun p w =>
   .ret { val := .hs p 0 l.toNat, rows := [w] }) else .fail
 | _ => .fail
def byteOf : AV → UInt8
 | .sc (.int _ n) => UInt8.ofNat n.toNat
 | _ => 0
def TK.isU8 : TK → Bool
 | .int .u8 => true
 | _ => false
def convA (P : Program) (dst : Nat) (src t : TypeId) (x : AV) : RM Eff :=
 if (tyOf P src).ok then match (tyOf P t).k with
  | .int k => match x with
   | .sc (.int _ n) => .ret { val := int k (k.wrap n) }
   | _ => .fail
  | .str => match x with
   | .sc (.string s) => .ret { val := .sc (.string s) }
   | x => if (tyOf P (tyOf P src).k.elem).k.isU8 && (tyOf P src).k.isSlice then elems x fun _ ys => .req (ys.all (intOf1 .u8) = true) (.ret { val := .sc (.string ⟨(ys.map byteOf).toArray⟩) }) else .fail
  | _ => .fail
 else .fail
def sliceA (P : Program) (t : TypeId) (x : AV) (lo hi mx : Option Int) : RM Eff :=
 match (tyOf P t).k with
 | .arr n e => match x with
  | .dp es xs i j => .req (0 ≤ lo.getD 0 ∧ lo.getD 0 ≤ hi.getD n ∧ hi.getD n ≤ n ∧ mx = none ∧ sizeOf P e = some 1 ∧ i < xs.length ∧ j + n ≤ es ∧ (cellsOf (at_ xs i)).length = es)
    (.ret { val := .sl 1 (((cellsOf (at_ xs i)).drop (j + (lo.getD 0).toNat)).take (hi.getD n - lo.getD 0).toNat) })
  | .hp p i j => rd p fun w => match w.body with
   | .cells es xs => .req (0 ≤ lo.getD 0 ∧ lo.getD 0 ≤ hi.getD n ∧ hi.getD n ≤ n ∧ mx = none ∧ sizeOf P e = some 1 ∧ i < xs.length ∧ j + n ≤ es ∧ (cellsOf (at_ xs i)).length = es)
     ((giveUpL (((cellsOf (at_ xs i)).drop (j + (lo.getD 0).toNat)).take (hi.getD n - lo.getD 0).toNat)).bind fun y => .ret { val := .sl 1 y.1, rows := y.2 ++ (if w.own then [(p.r, { w with own := false })] else []) })
   | _ => .fail
  | _ => .fail
 | .slice e => match x with
  | .nil => if (sizeOf P e).isSome then .req (lo.getD 0 = 0 ∧ hi.getD 0 = 0 ∧ mx = none) (.ret { val := .nil }) else .fail
  | .sl es xs => .req (0 ≤ lo.getD 0 ∧ lo.getD 0 ≤ hi.getD xs.length ∧ hi.getD xs.length ≤ xs.length) (if sizeOf P e = some es then match mx with
    | none => .ret { val := .sl es ((xs.drop (lo.getD 0).toNat).take (hi.getD xs.length - lo.getD 0).toNat) }
    | some m => .req (m = lo.getD 0 ∧ hi.getD xs.length = lo.getD 0 ∧ hi.isSome = true) (.ret { val := .nil })
    else .fail)
  | .hs p o n => rd p fun w => match w.body with
   | .cells es _ => .req (0 ≤ lo.getD 0 ∧ lo.getD 0 ≤ hi.getD n ∧ hi.getD n ≤ n ∧ mx = none) (if sizeOf P e = some es then .ret { val := .hs p (o + (lo.getD 0).toNat) (hi.getD n - lo.getD 0).toNat } else .fail)
   | _ => .fail
  | _ => .fail
 | .str => match x with
  | .sc (.string s) => .req (0 ≤ lo.getD 0 ∧ lo.getD 0 ≤ hi.getD s.size ∧ hi.getD s.size ≤ s.size ∧ mx = none) (.ret { val := .sc (.string (s.extract (lo.getD 0).toNat (hi.getD s.size).toNat)) })
  | _ => .fail
 | _ => .fail
def lookupA (P : Program) (t : TypeId) (m k : AV) (ok : Bool) : RM AV :=
 match (tyOf P t).k, m with
 | .map kt e, .hm p => if (tyOf P e).ok then rd p fun w => match w.body with
   | .map kk es => .req (keyOK kk k = true ∧ kk = kkOf P kt) (.ret (if ok then .tup [(mget k es).getD (tyOf P e).zd, bool (mget k es).isSome] else (mget k es).getD (tyOf P e).zd))
   | _ => .fail
  else .fail
 | _, _ => .fail
def mapUpdateA (P : Program) (t : TypeId) (m k v : AV) : RM Eff :=
 match (tyOf P t).k, m with
 | .map kt e, .hm p => rd p fun w => match w.body with
  | .map kk es => if w.own then (giveT (tyOf P e).slcs v).bind fun v => .req (keyOK kk k = true ∧ kk = kkOf P kt ∧ notIn p.r v.2 = true) (.ret { val := .junk, rows := v.2 ++ [(p.r, { w with body := .map kk (mset k v.1 es) })] }) else .fail
  | _ => .fail
 | _, _ => .fail
def makeMapA (P : Program) (dst : Nat) (t : TypeId) : RM Eff :=
 match (tyOf P t).k with
 | .map kt _ => mk dst false (.map (kkOf P kt) []) fun p w => .ret { val := .hm p, rows := [w] }
 | _ => .fail
def rangeA (P : Program) (t : TypeId) (x : AV) : RM Eff :=
 match (tyOf P t).k with
 | .map _ _ => match x with
  | .hm p => rd p fun w => match w.body with
   | .map _ [] => if w.own then .ret { val := .it, rows := [(p.r, w.dead)] } else .fail
   | _ => .fail
  | _ => .fail
 | _ => .fail
def nextA (x : AV) : RM AV :=
 match x with
 | .it => .ret (.tup [bool false])
 | _ => .fail
def frzBox (v : AV) : RM (AV × Wr) :=
 match v with
 | .hp p i j => rd p fun w => match w.body with
  | .cells es [x] => if w.box && plainAll x then .req (i = 0 ∧ j = 0) (.ret (.dp es [x] 0 0, if w.own then [(p.r, { w with own := false })] else [])) else .fail
  | _ => .fail
 | _ => .fail
def frzL : List AV → RM (List AV × Wr)
 | [] => .ret ([], [])
 | x :: l => (frzBox x).bind fun y => (frzL l).bind fun r => .ret (y.1 :: r.1, y.2 ++ r.2)
def makeFuncA (fn : Fn) (fs cs : List AV) : RM Eff :=
 match fn, fs, cs with
 | .func f, [], [] => .ret { val := .sc (.func (.func f) #[] #[]) }
 | .func f, [.agg [.sc v]], [] => .ret { val := .sc (.func (.func f) #[.agg #[v]] #[]) }
 | .func f, [], c :: cs => (frzL (c :: cs)).bind fun r => .ret { val := .cl f r.1, rows := r.2 }
 | _, _, _ => .fail

variable (sm : FuncId → Nat → Bool)
def packCell (x : AV) : RM (AV × Option (Body × Nat × Row)) :=
 match x with
 | .hs p o n => rd p fun w => match w.body with
  | .cells es xs => if w.box then .fail else if w.own then .req (o = 0 ∧ n ≤ xs.length) (.ret (.nst, some (.cells es (xs.take n), p.r, w)))
    else .req (o + n ≤ xs.length) (.ret (.sl es ((xs.drop o).take n), none))
  | _ => .fail
 | .hm p => rd p fun w => match w.body with
  | .map kk es => if w.own = true ∧ w.box = false then .ret (.nst, some (.map kk es, p.r, w)) else .fail
  | _ => .fail
 | .hp .. | .tup _ | .agg _ | .nst | .it | .cl .. => .fail
 | x => .ret (x, none)
structure Pack where
 cs : List AV := []
 subs : List (Nat × Body) := []
 rows : List (Nat × Row) := []
def packCells : Nat → List AV → RM Pack
 | _, [] => .ret {}
 | j, x :: l => (packCell x).bind fun y => (packCells (j + 1) l).bind fun r => .ret (match y.2 with
  | some (b, k, w) => ⟨y.1 :: r.cs, (j, b) :: r.subs, (k, w) :: r.rows⟩
  | none => ⟨y.1 :: r.cs, r.subs, r.rows⟩)
def packVal (x : AV) : RM (AV × Pack) :=
 match x with
 | .agg cs => (packCells 0 cs).bind fun r => .ret (.agg r.cs, r)
 | x => (packCells 0 [x]).bind fun r => .ret (at_ r.cs 0, r)
def unpackCells (r : Nat) (subs : List (Nat × Body)) : Nat → List AV → RM (List AV × Wr)
 | _, [] => .ret ([], [])
 | j, .nst :: l => match lget subs j with
  | some (.cells es xs) => mk (nestKey r j) false (.cells es xs) fun p w => (unpackCells r subs (j + 1) l).bind fun y => .ret (.hs p 0 xs.length :: y.1, w :: y.2)
  | some (.map kk es) => mk (nestKey r j) false (.map kk es) fun p w => (unpackCells r subs (j + 1) l).bind fun y => .ret (.hm p :: y.1, w :: y.2)
  | none => .fail
 | j, v :: l => (unpackCells r subs (j + 1) l).bind fun y => .ret (v :: y.1, y.2)
def unpackVal (r : Nat) (subs : List (Nat × Body)) (x : AV) : RM (AV × Wr) :=
 match x with
 | .agg cs => (unpackCells r subs 0 cs).bind fun y => .ret (.agg y.1, y.2)
 | x => (unpackCells r subs 0 [x]).bind fun y => .ret (at_ y.1 0, y.2)

structure Bk where
 r : Nat
 w : Row
 nested : List (Nat × Row)
def argA (mem : Bool) (es : Nat) (slcs : List (Nat × Nat)) (v : AV) : RM (PA × Option Bk × Wr) :=
 match v with
 | .hs p o n => if mem then rd p fun w => match w.body with
    | .cells es xs => if w.own = true ∧ w.box = false then .req (o = 0 ∧ n ≤ xs.length) (.ret (.slc (.cells es (xs.take n)), some ⟨p.r, w, []⟩, [])) else .fail
    | _ => .fail
   else (giveUp v).bind fun y => .ret (.data y.1, none, y.2)
 | .nil => if mem then .ret (.slc (.cells es []), none, []) else .ret (.data (canonA slcs .nil), none, [])
 | .hp p i j => rd p fun w => match w.body with
  | .cells es [x] => if w.own = true ∧ w.box = true then .req (i = 0 ∧ j = 0) ((packVal x).bind fun y => .ret (.ptr es y.1 y.2.subs, some ⟨p.r, w, y.2.rows⟩, [])) else .fail
  | _ => .fail
 | .hm p => rd p fun w => match w.body with
  | .map kk es => if w.own = true ∧ w.box = false then .ret (.mp (.map kk es), some ⟨p.r, w, []⟩, []) else .fail
  | _ => .fail
 | v => (giveT slcs v).bind fun y => .ret (.data y.1, none, y.2)
def argsA (P : Program) (f : FuncId) : Nat → List AV → List TypeId → RM (List PA × List (Option Bk) × Wr)
 | _, [], _ => .ret ([], [], [])
 | i, v :: l, ts => (argA (sm f i) ((sizeOf P (tyOf P (ts.headD 0)).k.elem).getD 0) (tyOf P (ts.headD 0)).slcs v).bind fun a => (argsA P f (i + 1) l ts.tail).bind fun r => .ret (a.1 :: r.1, a.2.1 :: r.2.1, a.2.2 ++ r.2.2)
def deadAll : List (Nat × Row) → Wr
 | [] => []
 | (k, w) :: l => (k, w.dead) :: deadAll l
def inL (x : Nat) : List Nat → Bool
 | [] => false
 | y :: l => if y = x then true else inL x l
def deadBut (ks : List Nat) : List (Nat × Row) → Wr
 | [] => []
 | (k, w) :: l => if inL k ks = true then deadBut ks l else (k, w.dead) :: deadBut ks l
def backA : List PA → List (Option Bk) → RM Wr
 | .ptr es x subs :: l, some k :: rs => (unpackVal k.r subs x).bind fun y => (backA l rs).bind fun z => .ret (deadBut (y.2.map (·.1)) k.nested ++ (y.2 ++ ((k.r, { k.w with body := .cells es [y.1] }) :: z)))
 | .slc b :: l, some k :: rs => (backA l rs).bind fun z => .ret ((k.r, { k.w with body := b }) :: z)
 | .mp b :: l, some k :: rs => (backA l rs).bind fun z => .ret ((k.r, { k.w with body := b }) :: z)
 | _ :: l, some k :: rs => (backA l rs).bind fun z => .ret ((k.r, k.w.dead) :: (deadAll k.nested ++ z))
 | _ :: l, none :: rs => backA l rs
 | _, _ => .ret []
def newKey (dst k : Nat) : Nat := dst + 100000 * k
def rekey (ps : List Pl) : AV → AV
 | .hs p o n => .hs (ps.getD p.r ⟨0, 0⟩) o n
 | .hp p i j => .hp (ps.getD p.r ⟨0, 0⟩) i j
 | .hm p => .hm (ps.getD p.r ⟨0, 0⟩)
 | v => v
def rekeyAll (ps : List Pl) : AV → AV
 | .tup cs => .tup (cs.map (rekey ps))
 | v => rekey ps v
def mkNew (dst : Nat) : Nat → List PA → RM (List Pl × Wr)
 | _, [] => .ret ([], [])
 | k, .slc b :: l => mk (newKey dst k) false b fun p w => (mkNew dst (k + 1) l).bind fun r => .ret (p :: r.1, w :: r.2)
 | k, .mp b :: l => mk (newKey dst k) false b fun p w => (mkNew dst (k + 1) l).bind fun r => .ret (p :: r.1, w :: r.2)
 | k, .ptr es x subs :: l => (unpackVal (newKey dst k) subs x).bind fun y => mk (newKey dst k) true (.cells es [y.1]) fun p w => (mkNew dst (k + 1) l).bind fun r => .ret (p :: r.1, y.2 ++ (w :: r.2))
 | _, _ => .fail
def disjB : List Nat → List Nat → Bool
 | [], _ => true
 | x :: l, b => if inL x b = true then false else disjB l b
def bkKeys : List (Option Bk) → List Nat
 | [] => []
 | none :: l => bkKeys l
 | some k :: l => k.r :: (k.nested.map (·.1) ++ bkKeys l)
def distinct : List Nat → Bool
 | [] => true
 | x :: l => if inL x l = true then false else distinct l
def live (ks : List Nat) : Wr → Wr
 | [] => []
 | (k, w) :: l => if w.own = true then (k, w) :: live ks l else if inL k ks = true then live ks l else (k, w) :: live ks l
def callA (P : Program) (dst : Nat) (f : FuncId) (vs : List AV) (ts : List TypeId) : RM Eff :=
 (argsA sm P f 0 vs ts).bind fun a => .req (distinct (bkKeys a.2.1) = true ∧ disjB (a.2.2.map (·.1)) (bkKeys a.2.1) = true) (.call f a.1 fun r => (backA r.args a.2.1).bind fun b => (mkNew dst 0 r.new).bind fun n => .req (distinct ((live (n.2.map (·.1)) b ++ n.2).map (·.1)) = true) (.ret { val := rekeyAll n.1 r.val, rows := a.2.2 ++ (live (n.2.map (·.1)) b ++ n.2) }))

def TK.sliceOrStr : TK → Bool
 | .slice _ | .str => true
 | _ => false
def builtinA (P : Program) (dst : Nat) (b : Builtin) (ts : List TypeId) (vs : List AV) : RM Eff :=
 match b with
 | .append => match vs, ts with
  | [s, x], [t, tx] => match (tyOf P t).k with
   | .slice e => if (tyOf P e).ok && (tyOf P tx).k.sliceOrStr then elems x fun es ys => .req (ys = [] ∨ es = (tyOf P e).size) (appendA dst (tyOf P e).size (tyOf P e).bytes s ys) else .fail
   | _ => .fail
  | _, _ => .fail
 | .len => match vs, ts with
  | [x], [t] => (lenA P t x).bind fun v => .ret { val := v }
  | _, _ => .fail
 | .max => match vs with
  | [.sc (.int k a), .sc (.int k' b)] => if k = k' then .ret { val := int k (max a b) } else .fail
  | _ => .fail
 | .min => match vs with
  | [.sc (.int k a), .sc (.int k' b)] => if k = k' then .ret { val := int k (min a b) } else .fail
  | _ => .fail
 | .clear => match vs, ts with
  | [.hs p o n], [t] => match (tyOf P t).k with
   | .slice e => if (tyOf P e).ok then rd p fun w => match w.body with
     | .cells es xs => if w.own = true ∧ w.box = false then .req (o + n ≤ xs.length ∧ (n = 0 ∨ es = (tyOf P e).size)) (.ret { val := .junk, rows := [(p.r, { w with body := .cells es (xs.take o ++ (List.replicate n (tyOf P e).zd ++ xs.drop (o + n))) })] }) else .fail
     | _ => .fail
    else .fail
   | _ => .fail
  | _, _ => .fail
 | .copy => match vs, ts with
  | [.hs p o n, x], t :: _ => match (tyOf P t).k with
   | .slice e => if (tyOf P e).ok then elems x fun es' ys => rd p fun w => match w.body with
     | .cells es xs => if w.own = true ∧ w.box = false then .req (o + n ≤ xs.length ∧ (ys = [] ∨ n = 0 ∨ (es = (tyOf P e).size ∧ es' = es))) (.ret { val := int .i64 (min ys.length n : Nat), rows := [(p.r, { w with body := .cells es (xs.take o ++ (ys.take n ++ xs.drop (o + min ys.length n))) })] }) else .fail
     | _ => .fail
    else .fail
   | _ => .fail
  | _, _ => .fail
 | _ => .fail
def callOpA (P : Program) (dst : Nat) (c : Call) : RM Eff :=
 match c.callee with
 | .builtin b => (opds c.args.toList).bind fun vs => builtinA P dst b c.argTypes.toList vs
 | .value f => (opd f).bind fun f => match f with
  | .sc (.func (.func f) first captured) => (opds c.args.toList).bind fun vs => callA sm P dst f (first.toList.map ofValue ++ (vs ++ captured.toList.map ofValue)) (List.replicate first.size 0 ++ c.argTypes.toList)
  | .cl f cs => (opds c.args.toList).bind fun vs => callA sm P dst f (vs ++ cs) c.argTypes.toList
  | _ => .fail
 | .invoke _ _ => .fail
def assignA (P : Program) (dst : Nat) (t : TypeId) (x : Operand) : RM Eff :=
 (opd x).bind fun v => match x with
  | .const _ => match v with
   | .nil => mk dst false (.cells ((sizeOf P (tyOf P t).k.elem).getD 0) []) fun p w => .ret { val := .hs p 0 0, rows := [w] }
   | v => .ret { val := v }
  | _ => .ret { val := v }

def val (m : RM AV) : RM Eff := m.bind fun x => .ret { val := x }
def astep (P : Program) (o : Oper) : RM Eff :=
 match o.op with
 | .move x => val (opd x)
 | .assign x => assignA P (o.dst.getD 0) o.type x
 | .pick c a b => val ((opd c).bind fun c => (opd a).bind fun a => (opd b).bind fun b => pickA c a b)
 | .alloc t => boxA P (o.dst.getD 0) t (tyOf P t).zero
 | .box t x => (opd x).bind fun x => boxA P (o.dst.getD 0) t x
 | .build t ps => val ((opdParts ps.toList).bind fun ps => buildA P t ps)
 | .buildSlice t n ps => (opdParts ps.toList).bind fun ps => buildSliceA P (o.dst.getD 0) t n ps
 | .load t a => val ((opd a).bind fun a => loadA P t a)
 | .store t a x => (opd a).bind fun a => (opd x).bind fun x => storeA P t a x
 | .nilCheck x => val ((opd x).bind nilCheckA)
 | .binOp op t x y _ => val ((opd x).bind fun x => (opd y).bind fun y_ => binOpA P op t x y_ y)
 | .unOp op _ x => val ((opd x).bind fun x => unOpA op x)
 | .convert src t x => (opd x).bind fun x => convA P (o.dst.getD 0) src t x
 | .makeFunc fn fs cs => (opds fs.toList).bind fun fs => (opds cs.toList).bind fun cs => makeFuncA fn fs cs
 | .makeMap t none => makeMapA P (o.dst.getD 0) t
 | .makeSlice t l c => (opd l).bind fun l => (opd c).bind fun c => (natOf l).bind fun l => (natOf c).bind fun c => makeSliceA P (o.dst.getD 0) t l c
 | .slice t x lo hi mx => (opd x).bind fun x => (optNat lo).bind fun lo => (optNat hi).bind fun hi => (optNat mx).bind fun mx => sliceA P t x lo hi mx
 | .fieldAddr t x f => val ((opd x).bind fun x => fieldAddrA P t x f)
 | .field t x f => val ((opd x).bind fun x => fieldA P t x f)
 | .indexAddr t x i => val ((opd x).bind fun x => (opd i).bind fun i => (natOf i).bind fun i => indexAddrA P t x i)
 | .index t x i => val ((opd x).bind fun x => (opd i).bind fun i => (natOf i).bind fun i => indexA P t x i)
 | .lookup t m k ok => val ((opd m).bind fun m => (opd k).bind fun k => lookupA P t m k ok)
 | .mapUpdate t m k x => (opd m).bind fun m => (opd k).bind fun k => (opd x).bind fun x => mapUpdateA P t m k x
 | .extract x i => val ((opd x).bind fun x => extractA x i)
 | .range t x => (opd x).bind fun x => rangeA P t x
 | .next x false => val ((opd x).bind nextA)
 | .call c => callOpA sm P (o.dst.getD 0) c
 | _ => .fail
end Go.AL
end
section
namespace Go.AL

inductive Ex where
 | normal
 | exit (id : Nat)
 | ret
abbrev Post := Ex → St → Prop
def St.slot (σ : St) (t : Nat) : AV := (lget σ.env t).getD .junk
def putRows (rows : Rows) : Wr → Rows
 | [] => rows
 | (r, w) :: l => putRows (lput rows r w) l
def St.app (σ : St) (dst : Option Nat) (e : Eff) : St :=
 {env := match dst with | some d => (d, e.val) :: σ.env | none => σ.env
  rows := putRows σ.rows e.rows }

structure FP where
 rs : List Nat
 rr : List Nat
 rw : List Nat

def preds (o : Oper) : List Nat := o.after.toList.filterMap fun e => if Region.binds .any e then some e.on else none
def befores : List Oper → List Nat → List Nat
 | [], acc => acc
 | o :: l, acc => befores l (acc ++ [(preds o).foldl (fun s p => s ||| (2 ^ p ||| acc.getD p 0)) 0])
def apartFP (x y : Oper) (fx fy : FP) : Bool :=
 (match x.dst with
  | some d => !inL d fy.rs && y.dst != some d
  | none => true) &&
 (match y.dst with
  | some d => !inL d fx.rs
  | none => true) &&
 disjB fx.rw fy.rr && disjB fx.rw fy.rw && disjB fx.rr fy.rw
def calm (ops : Array Oper) (fps : List FP) : Bool :=
 let bs := befores ops.toList []
 (List.range ops.size).all fun j => (preds (ops.getD j default)).all (fun p => decide (p < j)) && (List.range j).all fun i =>
  (bs.getD j 0).testBit i || apartFP (ops.getD i default) (ops.getD j default) (fps.getD i ⟨[], [], []⟩) (fps.getD j ⟨[], [], []⟩)

inductive It where
 | code (c : Code)
 | ops (all : Array Oper) (l : List Oper)
 | opsD (all : Array Oper) (l : List Oper) (fps : List FP)
 | blk (id : Nat)
 | loop (K : St → Prop)

def RM.wp {α : Type} (C : FuncId → List PA → CRes → Prop) (d : Bool) (m : RM α) (σ : St) (rs rr : List Nat) (K : α → List Nat → List Nat → Prop) : Prop :=
 match m with
 | .ret a => K a rs rr
 | .slot t k => (k (σ.slot t)).wp C d σ (t :: rs) rr K
 | .row r k => (k (lget σ.rows r)).wp C d σ rs (r :: rr) K
 | .req p k => VC p ∧ k.wp C d σ rs rr K
 | .any k => d = false ∧ ∀ b, (k b).wp C d σ rs rr K
 | .call f as k => ∃ r, C f as r ∧ (k r).wp C d σ rs rr K
 | .fail => False

def guardA (v : AV) (want : Bool) (X Y : Prop) : Prop :=
 match v with
 | .sc (.bool b) => (b = want → X) ∧ (b = (!want) → Y)
 | .tup [] => Y
 | _ => False
def condA (v : AV) (X Y : Prop) : Prop :=
 match v with
 | .sc (.bool c) => (c = true → X) ∧ (c = false → Y)
 | _ => False
def guardSlot (ops : Array Oper) (j : Nat) : Nat := ((ops[j]?).bind (·.dst)).getD 0

def normG (g : Nat) : Nat := if g = 0 then 0 else 1
def keepPl (rows : Rows) (rs : List Nat) (p : Pl) (v : AV) : AV :=
 if inL p.r rs = true then match lget rows p.r with
   | some w => if w.gen = p.g then v else .junk
   | none => .junk
  else .junk
def keepAV (rows : Rows) (rs : List Nat) : AV → AV
 | .hs p o n => keepPl rows rs p (.hs ⟨p.r, normG p.g⟩ o n)
 | .hp p i j => keepPl rows rs p (.hp ⟨p.r, normG p.g⟩ i j)
 | .hm p => keepPl rows rs p (.hm ⟨p.r, normG p.g⟩)
 | .agg _ | .tup _ | .nst => .junk
 | v => v
def keepCells (rows : Rows) (rs : List Nat) : List AV → List AV
 | [] => []
 | x :: l => keepAV rows rs x :: keepCells rows rs l
def keepElem (rows : Rows) (rs : List Nat) : AV → AV
 | .agg cs => .agg (keepCells rows rs cs)
 | x => keepAV rows rs x
def keepElems (rows : Rows) (rs : List Nat) : List AV → List AV
 | [] => []
 | x :: l => keepElem rows rs x :: keepElems rows rs l
def keepBody (rows : Rows) (rs : List Nat) (box : Bool) (b : Body) : Body :=
 if box then match b with
  | .cells es xs => .cells es (keepElems rows rs xs)
  | b => b
 else b
def keepEnv (rows : Rows) (rs : List Nat) (env : Env) : List Nat → Env
 | [] => []
 | t :: l => (t, keepElem rows rs ((lget env t).getD .junk)) :: keepEnv rows rs env l
def keepRows (rows : Rows) (rs : List Nat) : List Nat → Rows
 | [] => []
 | r :: l => match lget rows r with
  | some w => (r, ⟨normG w.gen, w.own, w.box, keepBody rows rs w.box w.body⟩) :: keepRows rows rs l
  | none => keepRows rows rs l
def keep (ss rs : List Nat) (σ : St) : St := ⟨keepEnv σ.rows rs σ.env ss, keepRows σ.rows rs rs⟩
def keepO : Option (List Nat × List Nat) → St → St
 | none, σ => σ
 | some k, σ => keep k.1 k.2 σ

section
variable (sm : FuncId → Nat → Bool) (C : FuncId → List PA → CRes → Prop) (P : Program)
def awpOp (d : Bool) (ops : Array Oper) (o : Oper) (σ : St) (K : St → FP → Prop) : Prop :=
 match o.guard with
 | none => (astep sm P o).wp C d σ [] [] fun e rs rr => K (σ.app o.dst e) ⟨rs, rr, e.rows.map (·.1)⟩
 | some (j, want) => guardA (σ.slot (guardSlot ops j)) want ((astep sm P o).wp C d σ [guardSlot ops j] [] fun e rs rr => K (σ.app o.dst e) ⟨rs, rr, e.rows.map (·.1)⟩) (K (σ.app o.dst { val := .tup [] }) ⟨[guardSlot ops j], [], []⟩)
def awpOps (ops : Array Oper) : List Oper → St → (St → Prop) → Prop
 | [], σ, K => K σ
 | o :: l, σ, K => awpOp sm C P false ops o σ fun σ _ => awpOps ops l σ K
def awpOpsD (ops : Array Oper) : List Oper → List FP → St → (St → Prop) → Prop
 | [], fps, σ, K => VC (calm ops fps = true) ∧ K σ
 | o :: l, fps, σ, K => awpOp sm C P true ops o σ fun σ fp => awpOpsD ops l (fps ++ [fp]) σ K
def condSlot (σ : St) : Operand → AV
 | .tmp t => σ.slot t
 | .const (.bool b) => .sc (.bool b)
 | _ => .junk
def awp : Code → St → Post → Prop
 | .skip, σ, Q => Q .normal σ
 | .region _ ops false, σ, Q => awpOps sm C P ops ops.toList σ (Q .normal)
 | .region _ ops true, σ, Q => awpOpsD sm C P ops ops.toList [] σ (Q .normal)
 | .seq a b, σ, Q => awp a σ fun e σ => match e with
  | .normal => awp b σ Q
  | e => Q e σ
 | .cond c a b, σ, Q => condA (condSlot σ c) (awp a σ Q) (awp b σ Q)
 | .block id c, σ, Q => awp c σ fun e σ => match e with
  | .exit i => if i = id then Q .normal σ else Q (.exit i) σ
  | e => Q e σ
 | .loop c, σ, Q => ∃ (ss rs : List Nat) (α : Type) (S : α → St) (μ : α → Nat) (x : α) (ke : Option (List Nat × List Nat)), S x = keep ss rs σ ∧ ∀ x, awp c (S x) fun e σ => match e with
  | .normal => ∃ y, S y = keep ss rs σ ∧ μ y < μ x
  | .ret => Q .ret σ
  | .exit i => Q (.exit i) (keepO ke σ)
 | .exit id, σ, Q => Q (.exit id) σ
 | .ret, σ, Q => Q .ret σ
 | _, _, _ => False
def run : List It → Ex → St → Post → Prop
 | [], e, σ, Q => Q e σ
 | .code c :: k, .normal, σ, Q => awp sm C P c σ fun e σ => run k e σ Q
 | .ops all l :: k, .normal, σ, Q => awpOps sm C P all l σ fun σ => run k .normal σ Q
 | .opsD all l fps :: k, .normal, σ, Q => awpOpsD sm C P all l fps σ fun σ => run k .normal σ Q
 | .blk _ :: k, .normal, σ, Q => run k .normal σ Q
 | .blk id :: k, .exit i, σ, Q => if i = id then run k .normal σ Q else run k (.exit i) σ Q
 | .loop K :: _, .normal, σ, _ => K σ
 | _ :: k, e, σ, Q => run k e σ Q

def AV.isAgg : AV → Bool
 | .agg _ => true
 | _ => false
def enterCells (r : Nat) (subs : List (Nat × Body)) : Nat → List AV → List AV × Rows
 | _, [] => ([], [])
 | j, .nst :: l => match lget subs j with
  | some (.cells es xs) => (.hs ⟨nestKey r j, 0⟩ 0 xs.length :: (enterCells r subs (j + 1) l).1, (nestKey r j, ⟨0, true, false, .cells es xs⟩) :: (enterCells r subs (j + 1) l).2)
  | some (.map kk es) => (.hm ⟨nestKey r j, 0⟩ :: (enterCells r subs (j + 1) l).1, (nestKey r j, ⟨0, true, false, .map kk es⟩) :: (enterCells r subs (j + 1) l).2)
  | none => (.junk :: (enterCells r subs (j + 1) l).1, (enterCells r subs (j + 1) l).2)
 | j, v :: l => (v :: (enterCells r subs (j + 1) l).1, (enterCells r subs (j + 1) l).2)
def enterVal (r : Nat) (subs : List (Nat × Body)) : AV → AV × Rows
 | .agg cs => (.agg (enterCells r subs 0 cs).1, (enterCells r subs 0 cs).2)
 | x => (at_ (enterCells r subs 0 [x]).1 0, (enterCells r subs 0 [x]).2)
def lenOf : Body → Nat
 | .cells _ xs => xs.length
 | _ => 0
def enterEnv : Nat → List PA → Env
 | _, [] => []
 | i, .data v :: l => (i, v) :: enterEnv (i + 1) l
 | i, .ptr _ _ _ :: l => (i, .hp ⟨i, 0⟩ 0 0) :: enterEnv (i + 1) l
 | i, .slc b :: l => (i, .hs ⟨i, 0⟩ 0 (lenOf b)) :: enterEnv (i + 1) l
 | i, .mp _ :: l => (i, .hm ⟨i, 0⟩) :: enterEnv (i + 1) l
 | i, .lost :: l => (i, .junk) :: enterEnv (i + 1) l
def enterRows : Nat → List PA → Rows
 | _, [] => []
 | i, .ptr es x subs :: l => (i, ⟨0, true, true, .cells es [(enterVal i subs x).1]⟩) :: enterRows (i + 1) l
 | i, .slc b :: l => (i, ⟨0, true, false, b⟩) :: enterRows (i + 1) l
 | i, .mp b :: l => (i, ⟨0, true, false, b⟩) :: enterRows (i + 1) l
 | i, _ :: l => enterRows (i + 1) l
def enterNest : Nat → List PA → Rows
 | _, [] => []
 | i, .ptr _ x subs :: l => (enterVal i subs x).2 ++ enterNest (i + 1) l
 | i, _ :: l => enterNest (i + 1) l
def entry (as : List PA) : St := ⟨enterEnv 0 as, enterRows 0 as ++ enterNest 0 as⟩

def resVals : List ResultVar → RM (List AV)
 | [] => .ret []
 | .tmp t :: l => .slot t fun v => (resVals l).bind fun r => .ret (v :: r)
 | .cell t ty :: l => .slot t fun a => (loadA P ty a).bind fun v => (resVals l).bind fun r => .ret (v :: r)

def hsOut (rows : Rows) (p : Pl) (o n es : Nat) (ys : List AV) : Prop :=
 match lget rows p.r with
 | some ⟨g, _, false, .cells es' xs⟩ => g = p.g ∧ o + n ≤ xs.length ∧ es' = es ∧ (xs.drop o).take n = ys
 | _ => False
def cellOut (rows : Rows) : AV → AV → Prop
 | _, .junk => True
 | .nil, .sl _ xs => xs = []
 | .nil, .nil => True
 | .sc v, .sc u => v = u
 | .sl es xs, .sl es' ys => es = es' ∧ xs = ys
 | .dp es xs i j, .dp es' ys i' j' => es = es' ∧ xs = ys ∧ i = i' ∧ j = j'
 | .cl f xs, .cl g ys => f = g ∧ xs = ys
 | .hs p o n, .sl es ys => hsOut rows p o n es ys
 | _, _ => False
def cellsOut (rows : Rows) : List AV → List AV → Prop
 | [], [] => True
 | x :: xs, y :: ys => cellOut rows x y ∧ cellsOut rows xs ys
 | _, _ => False
def packOut (rows : Rows) (subs : List (Nat × Body)) : Nat → List AV → List AV → Prop
 | _, [], [] => True
 | j, .hs p o n :: xs, .nst :: ys => (match lget rows p.r, lget subs j with
  | some ⟨g, true, false, .cells es zs⟩, some (.cells es' us) => g = p.g ∧ o = 0 ∧ n ≤ zs.length ∧ es = es' ∧ zs.take n = us
  | _, _ => False) ∧ packOut rows subs (j + 1) xs ys
 | j, .hm p :: xs, .nst :: ys => (match lget rows p.r, lget subs j with
  | some ⟨g, true, false, .map kk es⟩, some (.map kk' es') => g = p.g ∧ kk = kk' ∧ es = es'
  | _, _ => False) ∧ packOut rows subs (j + 1) xs ys
 | j, x :: xs, y :: ys => cellOut rows x y ∧ packOut rows subs (j + 1) xs ys
 | _, _, _ => False
def packKeys : List AV → List AV → List Nat
 | .hs p _ _ :: xs, .nst :: ys => p.r :: packKeys xs ys
 | .hm p :: xs, .nst :: ys => p.r :: packKeys xs ys
 | _ :: xs, _ :: ys => packKeys xs ys
 | _, _ => []
def memOut (rows : Rows) (r g : Nat) (a : PA) : Prop :=
 match lget rows r, a with
 | some ⟨g', true, true, .cells es [x]⟩, .ptr es' y subs => g' = g ∧ es = es' ∧ packOut rows subs 0 (cellsOf x) (cellsOf y) ∧ VC (x.isAgg = y.isAgg)
 | some ⟨g', true, false, .cells es xs⟩, .slc (.cells es' ys) => g' = g ∧ es = es' ∧ xs = ys
 | some ⟨g', true, false, .map kk es⟩, .mp (.map kk' es') => g' = g ∧ kk = kk' ∧ es = es'
 | _, _ => False
def memKeys (rows : Rows) (r : Nat) (a : PA) : List Nat :=
 match lget rows r, a with
 | some ⟨_, _, true, .cells _ [x]⟩, .ptr _ y _ => r :: packKeys (cellsOf x) (cellsOf y)
 | _, .lost => []
 | _, .data _ => []
 | _, _ => [r]
def cleanCell : AV → Bool
 | .junk | .sc _ | .nil | .sl .. | .dp .. | .cl .. => true
 | _ => false
def cleanL : List AV → Bool
 | [] => true
 | x :: l => cleanCell x && cleanL l
def outOK (rows : Rows) (new : List PA) (v out : AV) : Prop :=
 match v, out with
 | _, .junk => True
 | .hs p o n, .hs q o' n' => o = 0 ∧ o' = 0 ∧ n' = n ∧ (match lget rows p.r, new[q.r]? with
  | some ⟨g, true, false, .cells es xs⟩, some (.slc (.cells es' ys)) => g = p.g ∧ n ≤ xs.length ∧ es = es' ∧ xs.take n = ys
  | _, _ => False)
 | .hm p, .hm q => (match lget rows p.r, new[q.r]? with
  | some ⟨g, true, false, .map kk es⟩, some (.mp (.map kk' es')) => g = p.g ∧ kk = kk' ∧ es = es'
  | _, _ => False)
 | .hp p i j, .hp q i' j' => i = 0 ∧ j = 0 ∧ i' = 0 ∧ j' = 0 ∧ (match new[q.r]? with | some a => memOut rows p.r p.g a | none => False)
 | .agg cs, .agg ds => (cs = ds ∧ cleanL cs = true) ∨ cellsOut rows cs ds
 | v, out => cellOut rows v out
def outIdx : List AV → List Nat
 | .hs q _ _ :: os => q.r :: outIdx os
 | .hm q :: os => q.r :: outIdx os
 | .hp q _ _ :: os => q.r :: outIdx os
 | _ :: os => outIdx os
 | [] => []
def outKeys (rows : Rows) (new : List PA) : List AV → List AV → List Nat
 | .hs p _ _ :: vs, .hs _ _ _ :: os => p.r :: outKeys rows new vs os
 | .hm p :: vs, .hm _ :: os => p.r :: outKeys rows new vs os
 | .hp p _ _ :: vs, .hp q _ _ :: os => memKeys rows p.r (new.getD q.r .lost) ++ outKeys rows new vs os
 | _ :: vs, _ :: os => outKeys rows new vs os
 | _, _ => []
def cellKeys : List AV → List AV → List Nat
 | .hs p _ _ :: xs, .sl _ _ :: ys => p.r :: cellKeys xs ys
 | _ :: xs, _ :: ys => cellKeys xs ys
 | _, _ => []
def dataKeys (rows : Rows) (new : List PA) : List AV → List AV → List Nat
 | .hs p _ _ :: vs, .sl _ _ :: os => p.r :: dataKeys rows new vs os
 | .agg cs :: vs, .agg ds :: os => cellKeys cs ds ++ dataKeys rows new vs os
 | .hp p _ _ :: vs, .hp q _ _ :: os => (match lget rows p.r, new[q.r]? with
  | some ⟨_, _, true, .cells _ [x]⟩, some (.ptr _ y _) => cellKeys (cellsOf x) (cellsOf y)
  | _, _ => []) ++ dataKeys rows new vs os
 | _ :: vs, _ :: os => dataKeys rows new vs os
 | _, _ => []
def argData (rows : Rows) : Nat → List PA → List Nat
 | _, [] => []
 | i, .ptr _ y _ :: l => (match lget rows i with
  | some ⟨_, _, true, .cells _ [x]⟩ => cellKeys (cellsOf x) (cellsOf y)
  | _ => []) ++ argData rows (i + 1) l
 | i, _ :: l => argData rows (i + 1) l
def outsOK (rows : Rows) (new : List PA) : List AV → List AV → Prop
 | [], [] => True
 | v :: vs, o :: os => outOK rows new v o ∧ outsOK rows new vs os
 | _, _ => False
def argsOK (rows : Rows) : Nat → List PA → List PA → Prop
 | _, [], [] => True
 | i, .data v :: l, a :: l' => a = .data v ∧ argsOK rows (i + 1) l l'
 | i, _ :: l, .lost :: l' => argsOK rows (i + 1) l l'
 | i, _ :: l, a :: l' => memOut rows i 0 a ∧ argsOK rows (i + 1) l l'
 | _, _, _ => False
def keptKeys (rows : Rows) : Nat → List PA → List Nat
 | _, [] => []
 | i, a :: l => memKeys rows i a ++ keptKeys rows (i + 1) l
def outList : AV → Nat → List AV
 | .tup os, n => if n = 1 then [.tup os] else os
 | o, _ => [o]
def exitOK (fn : Func) (as : List PA) (r : CRes) (σ : St) : Prop :=
 (resVals P fn.results.toList).wp C false σ [] [] fun vs _ _ =>
  outsOK σ.rows r.new vs (outList r.val vs.length) ∧ argsOK σ.rows 0 as r.args ∧
  VC (outIdx (outList r.val vs.length) = List.range r.new.length ∧ (outKeys σ.rows r.new vs (outList r.val vs.length) ++ keptKeys σ.rows 0 r.args).Nodup ∧
   disjB (dataKeys σ.rows r.new vs (outList r.val vs.length) ++ argData σ.rows 0 r.args) (outKeys σ.rows r.new vs (outList r.val vs.length) ++ keptKeys σ.rows 0 r.args) = true)
def bodyPostA (fn : Func) (as : List PA) (r : CRes) : Post := fun e σ =>
 match e with
 | .exit _ => False
 | _ => exitOK C P fn as r σ
def dstOK (n : Nat) : Code → Bool
 | .region _ ops _ => ops.toList.all fun o => (match o.dst with | some d => decide (d < n) | none => true) && (match o.guard with | some (j, _) => ((ops[j]?).bind (·.dst)).isSome | none => true)
 | .seq a b => dstOK n a && dstOK n b
 | .cond _ a b => dstOK n a && dstOK n b
 | .block _ c => dstOK n c
 | .loop c => dstOK n c
 | _ => true
def BodyOK (f : FuncId) (as : List PA) (r : CRes) : Prop :=
 ∃ fn c, (∀ args w, (callFunc f args).run P w = .ok (.enter f args) w) ∧ P.funcs[f]? = some fn ∧ fn.body = some c ∧ as.length ≤ fn.ntmps ∧ as.length + r.new.length ≤ 10000000 ∧ dstOK fn.ntmps c = true ∧ run sm C P [.code c] .normal (entry as) (bodyPostA C P fn as r)
end

def Ctr (sm : FuncId → Nat → Bool) (X : FuncId → List PA → CRes → Prop) (P : Program) (f : FuncId) (as : List PA) (r : CRes) : Prop :=
 ∀ R : FuncId → List PA → CRes → Prop, (∀ f as r, X f as r → R f as r) → (∀ f as r, BodyOK sm R P f as r → R f as r) → R f as r

section
variable {sm : FuncId → Nat → Bool} {P : Program}
theorem RM.wp_mono {α : Type} {C C' : FuncId → List PA → CRes → Prop} (hC : ∀ f as r, C f as r → C' f as r) {d : Bool} (m : RM α) : ∀ {σ : St} {rs rr : List Nat} {K K' : α → List Nat → List Nat → Prop},
  (∀ a l l', K a l l' → K' a l l') → m.wp C d σ rs rr K → m.wp C' d σ rs rr K' := by
 induction m with
 | ret a => exact fun hK h => hK _ _ _ h
 | slot t k ih => exact fun hK h => ih _ hK h
 | row r k ih => exact fun hK h => ih _ hK h
 | req p k ih => exact fun hK h => ⟨h.1, ih hK h.2⟩
 | any k ih => exact fun hK h => ⟨h.1, fun b => ih _ hK (h.2 b)⟩
 | call f as k ih => exact fun hK ⟨r, h, h'⟩ => ⟨r, hC _ _ _ h, ih _ hK h'⟩
 | fail => exact fun _ h => h
theorem guardA_mono {v : AV} {w : Bool} {X Y X' Y' : Prop} (hX : X → X') (hY : Y → Y') (h : guardA v w X Y) : guardA v w X' Y' := by
 unfold guardA at *
 split at h
 ·exact ⟨fun e => hX (h.1 e), fun e => hY (h.2 e)⟩
 ·exact hY h
 ·exact h
theorem condA_mono {v : AV} {X Y X' Y' : Prop} (hX : X → X') (hY : Y → Y') (h : condA v X Y) : condA v X' Y' := by
 unfold condA at *
 split at h
 ·exact ⟨fun e => hX (h.1 e), fun e => hY (h.2 e)⟩
 ·exact h
variable {C C' : FuncId → List PA → CRes → Prop} (hC : ∀ f as r, C f as r → C' f as r)
include hC
theorem awpOp_mono {d : Bool} {ops : Array Oper} {o : Oper} {σ : St} {K K' : St → FP → Prop} (hK : ∀ σ f, K σ f → K' σ f) (h : awpOp sm C P d ops o σ K) : awpOp sm C' P d ops o σ K' := by
 unfold awpOp at *
 cases hg : o.guard with
 | none => simp only [hg] at h ⊢; exact RM.wp_mono hC _ (fun _ _ _ => hK _ _) h
 | some jw => simp only [hg] at h ⊢; exact guardA_mono (RM.wp_mono hC _ (fun _ _ _ => hK _ _)) (hK _ _) h
theorem awpOps_mono {ops : Array Oper} : ∀ {l : List Oper} {σ : St} {K K' : St → Prop}, (∀ σ, K σ → K' σ) → awpOps sm C P ops l σ K → awpOps sm C' P ops l σ K'
 | [], _, _, _, hK, h => hK _ h
 | _ :: _, _, _, _, hK, h => awpOp_mono hC (fun _ _ h => awpOps_mono hK h) h
theorem awpOpsD_mono {ops : Array Oper} : ∀ {l : List Oper} {fps : List FP} {σ : St} {K K' : St → Prop}, (∀ σ, K σ → K' σ) → awpOpsD sm C P ops l fps σ K → awpOpsD sm C' P ops l fps σ K'
 | [], _, _, _, _, hK, h => ⟨h.1, hK _ h.2⟩
 | _ :: _, _, _, _, _, hK, h => awpOp_mono hC (fun _ _ h => awpOpsD_mono hK h) h
theorem awp_mono (c : Code) : ∀ {σ : St} {Q Q' : Post}, (∀ e σ, Q e σ → Q' e σ) → awp sm C P c σ Q → awp sm C' P c σ Q' := by
 induction c with
 | skip => exact fun hQ h => hQ _ _ h
 | region i ops d => cases d with
  | false => exact fun hQ h => awpOps_mono hC (hQ _) h
  | true => exact fun hQ h => awpOpsD_mono hC (hQ _) h
 | seq a b iha ihb => exact fun hQ h => iha (fun e σ h => by cases e <;> first | exact ihb hQ h | exact hQ _ _ h) h
 | cond c a b iha ihb => exact fun hQ h => condA_mono (iha hQ) (ihb hQ) h
 | block id c ih =>
  refine fun hQ h => ih (fun e σ h => ?_) h
  cases e with
  | exit i =>
   dsimp only at h ⊢
   split
   ·rename_i hi; rw [if_pos hi] at h; exact hQ _ _ h
   ·rename_i hi; rw [if_neg hi] at h; exact hQ _ _ h
  | _ => exact hQ _ _ h
 | loop c ih =>
  rintro σ Q Q' hQ ⟨ss, rs, α, S, μ, x, ke, h0, h⟩
  exact ⟨ss, rs, α, S, μ, x, ke, h0, fun x => ih (fun e σ h => by cases e <;> first | exact h | exact hQ _ _ h) (h x)⟩
 | exit id => exact fun hQ h => hQ _ _ h
 | ret => exact fun hQ h => hQ _ _ h
 | _ => exact fun _ h => h.elim
theorem run_mono : ∀ {k : List It} {e : Ex} {σ : St} {Q Q' : Post}, (∀ e σ, Q e σ → Q' e σ) → run sm C P k e σ Q → run sm C' P k e σ Q' := by
 intro k
 induction k with
 | nil => exact fun hQ h => hQ _ _ h
 | cons x k ih =>
  intro e σ Q Q' hQ h
  cases x with
  | code c => cases e with
   | normal => exact awp_mono hC c (fun e σ h => ih hQ h) h
   | _ => exact ih hQ h
  | ops all l => cases e with
   | normal => exact awpOps_mono hC (fun σ h => ih hQ h) h
   | _ => exact ih hQ h
  | opsD all l fps => cases e with
   | normal => exact awpOpsD_mono hC (fun σ h => ih hQ h) h
   | _ => exact ih hQ h
  | blk id => cases e with
   | normal => exact ih hQ h
   | exit i =>
    simp only [run] at h ⊢
    split
    ·rename_i hi; rw [if_pos hi] at h; exact ih hQ h
    ·rename_i hi; rw [if_neg hi] at h; exact ih hQ h
   | ret => exact ih hQ h
  | loop K => cases e with
   | normal => exact h
   | _ => exact ih hQ h
theorem BodyOK_mono {f : FuncId} {as : List PA} {r : CRes} (h : BodyOK sm C P f as r) : BodyOK sm C' P f as r := by
 obtain ⟨fn, c, h0, h1, h2, h3, h3', h4, h5⟩ := h
 refine ⟨fn, c, h0, h1, h2, h3, h3', h4, run_mono hC (fun e σ h => ?_) h5⟩
 cases e with
 | exit i => exact h
 | _ => exact RM.wp_mono hC _ (fun _ _ _ h => h) h
end
theorem Ctr.intro {sm : FuncId → Nat → Bool} {X : FuncId → List PA → CRes → Prop} {P : Program} {f : FuncId} {as : List PA} {r : CRes} (h : BodyOK sm (Ctr sm X P) P f as r) : Ctr sm X P f as r :=
 fun R hX hR => hR _ _ _ (BodyOK_mono (fun _ _ _ h => h R hX hR) h)
theorem Ctr.ext {sm : FuncId → Nat → Bool} {X : FuncId → List PA → CRes → Prop} {P : Program} {f : FuncId} {as : List PA} {r : CRes} (h : X f as r) : Ctr sm X P f as r :=
 fun _ hX _ => hX _ _ _ h
end Go.AL
end
section
namespace Go.AL
variable {sm : FuncId → Nat → Bool} {C : FuncId → List PA → CRes → Prop} {P : Program} {k : List It} {σ : St} {Q : Post}

def opK (sm : FuncId → Nat → Bool) (C : FuncId → List PA → CRes → Prop) (P : Program) (m : RM Eff) (dst : Option Nat) (all : Array Oper) (l : List Oper) (k : List It) (σ : St) (Q : Post) : Prop :=
 m.wp C false σ [] [] fun e _ _ => run sm C P (.ops all l :: k) .normal (σ.app dst e) Q
def opD (sm : FuncId → Nat → Bool) (C : FuncId → List PA → CRes → Prop) (P : Program) (m : RM Eff) (rs rr : List Nat) (dst : Option Nat) (all : Array Oper) (l : List Oper) (fps : List FP) (k : List It) (σ : St) (Q : Post) : Prop :=
 m.wp C true σ rs rr fun e rs rr => run sm C P (.opsD all l (fps ++ [⟨rs, rr, e.rows.map (·.1)⟩]) :: k) .normal (σ.app dst e) Q

class Hold where p : Prop
class HoldC where f : CRes → Prop
def callK (C : FuncId → List PA → CRes → Prop) (g : FuncId) (as : List PA) [F : HoldC] : Prop := ∃ r, C g as r ∧ F.f r
def condK (v : AV) [X : Hold] [Y : Hold] : Prop := condA v X.p Y.p
def guardK (v : AV) (w : Bool) [X : Hold] [Y : Hold] : Prop := guardA v w X.p Y.p
theorem callK.intro {g : FuncId} {as : List PA} [F : HoldC] (r : CRes) (h : C g as r) (hF : F.f r) : callK C g as := ⟨r, h, hF⟩
section
variable {X Y : Hold} {b w : Bool} {p : Prop} [Decidable p]
theorem condK.intro (h : b = true → X.p) (h' : b = false → Y.p) : condK (.sc (.bool b)) (X := X) (Y := Y) := ⟨h, h'⟩
theorem condK.yes : condK (.sc (.bool true)) (X := X) (Y := Y) = X.p := propext ⟨fun h => h.1 rfl, fun h => ⟨fun _ => h, fun e => Bool.noConfusion e⟩⟩
theorem condK.no : condK (.sc (.bool false)) (X := X) (Y := Y) = Y.p := propext ⟨fun h => h.2 rfl, fun h => ⟨fun e => Bool.noConfusion e, fun _ => h⟩⟩
theorem condK.dec (h : p → X.p) (h' : ¬ p → Y.p) : condK (.sc (.bool (decide p))) (X := X) (Y := Y) := ⟨fun e => h (of_decide_eq_true e), fun e => h' (of_decide_eq_false e)⟩
theorem condK.pos (h : p) : condK (.sc (.bool (decide p))) (X := X) (Y := Y) = X.p := by rw [decide_eq_true h, condK.yes]
theorem condK.neg (h : ¬ p) : condK (.sc (.bool (decide p))) (X := X) (Y := Y) = Y.p := by rw [decide_eq_false h, condK.no]
theorem guardK.intro (h : b = w → X.p) (h' : b = (!w) → Y.p) : guardK (.sc (.bool b)) w (X := X) (Y := Y) := ⟨h, h'⟩
theorem guardK.tt : guardK (.sc (.bool true)) true (X := X) (Y := Y) = X.p := propext ⟨fun h => h.1 rfl, fun h => ⟨fun _ => h, fun e => Bool.noConfusion e⟩⟩
theorem guardK.ff : guardK (.sc (.bool false)) false (X := X) (Y := Y) = X.p := propext ⟨fun h => h.1 rfl, fun h => ⟨fun _ => h, fun e => Bool.noConfusion e⟩⟩
theorem guardK.tf : guardK (.sc (.bool true)) false (X := X) (Y := Y) = Y.p := propext ⟨fun h => h.2 rfl, fun h => ⟨fun e => Bool.noConfusion e, fun _ => h⟩⟩
theorem guardK.ft : guardK (.sc (.bool false)) true (X := X) (Y := Y) = Y.p := propext ⟨fun h => h.2 rfl, fun h => ⟨fun e => Bool.noConfusion e, fun _ => h⟩⟩
theorem guardK.skip : guardK (.tup []) w (X := X) (Y := Y) = Y.p := rfl
theorem guardK.dec (h : p → X.p) (h' : ¬ p → Y.p) : guardK (.sc (.bool (decide p))) true (X := X) (Y := Y) := ⟨fun e => h (of_decide_eq_true e), fun e => h' (of_decide_eq_false e)⟩
theorem guardK.decF (h : ¬ p → X.p) (h' : p → Y.p) : guardK (.sc (.bool (decide p))) false (X := X) (Y := Y) := ⟨fun e => h (of_decide_eq_false e), fun e => h' (of_decide_eq_true e)⟩
theorem guardK.pos (h : p) : guardK (.sc (.bool (decide p))) true (X := X) (Y := Y) = X.p := by rw [decide_eq_true h, guardK.tt]
theorem guardK.neg (h : ¬ p) : guardK (.sc (.bool (decide p))) true (X := X) (Y := Y) = Y.p := by rw [decide_eq_false h, guardK.ft]
theorem guardK.posF (h : p) : guardK (.sc (.bool (decide p))) false (X := X) (Y := Y) = Y.p := by rw [decide_eq_true h, guardK.tf]
theorem guardK.negF (h : ¬ p) : guardK (.sc (.bool (decide p))) false (X := X) (Y := Y) = X.p := by rw [decide_eq_false h, guardK.ff]
end
theorem vc_pos {p q : Prop} (h : p) : (VC p ∧ q) = q := propext ⟨fun h => h.2, fun h' => ⟨h, h'⟩⟩
theorem vc_true {q : Prop} : (VC True ∧ q) = q := vc_pos trivial

theorem RM.wp_rr {α : Type} {d : Bool} (m : RM α) : ∀ {σ : St} {rs rs' rr rr' : List Nat} {K : α → Prop}, m.wp C d σ rs rr (fun a _ _ => K a) → m.wp C d σ rs' rr' (fun a _ _ => K a) := by
 induction m with
 | ret a => exact fun h => h
 | slot t k ih => exact fun h => ih _ h
 | row r k ih => exact fun h => ih _ h
 | req p k ih => exact fun h => ⟨h.1, ih h.2⟩
 | any k ih => exact fun h => ⟨h.1, fun b => ih _ (h.2 b)⟩
 | call f as k ih => exact fun ⟨r, h, h'⟩ => ⟨r, h, ih _ h'⟩
 | fail => exact fun h => h
theorem run_skip : run sm C P (.code .skip :: k) .normal σ Q = run sm C P k .normal σ Q := rfl
theorem run_seq {a b : Code} : run sm C P (.code (.seq a b) :: k) .normal σ Q = run sm C P (.code a :: .code b :: k) .normal σ Q := by
 simp only [run, awp]
 congr
 funext e σ
 cases e <;> rfl
theorem run_region {i : Nat} {ops : Array Oper} : run sm C P (.code (.region i ops false) :: k) .normal σ Q = run sm C P (.ops ops ops.toList :: k) .normal σ Q := rfl
theorem run_regionD {i : Nat} {ops : Array Oper} : run sm C P (.code (.region i ops true) :: k) .normal σ Q = run sm C P (.opsD ops ops.toList [] :: k) .normal σ Q := rfl
theorem run_block {id : Nat} {c : Code} : run sm C P (.code (.block id c) :: k) .normal σ Q = run sm C P (.code c :: .blk id :: k) .normal σ Q := by
 simp only [run, awp]
 congr
 funext e σ
 cases e <;> rfl
theorem run_exit {id : Nat} : run sm C P (.code (.exit id) :: k) .normal σ Q = run sm C P k (.exit id) σ Q := rfl
theorem run_ret : run sm C P (.code .ret :: k) .normal σ Q = Q .ret σ := by
 simp only [run, awp]
 induction k with
 | nil => rfl
 | cons x k ih => cases x <;> simpa only [run] using ih
theorem run_blk {id : Nat} : run sm C P (.blk id :: k) .normal σ Q = run sm C P k .normal σ Q := rfl
theorem run_loopEnd {K : St → Prop} : run sm C P (.loop K :: k) .normal σ Q = K σ := rfl
theorem run_exit_blk {id i : Nat} : run sm C P (.blk id :: k) (.exit i) σ Q = if i = id then run sm C P k .normal σ Q else run sm C P k (.exit i) σ Q := rfl
theorem run_exit_code {c : Code} {i : Nat} : run sm C P (.code c :: k) (.exit i) σ Q = run sm C P k (.exit i) σ Q := rfl
theorem run_exit_loop {K : St → Prop} {i : Nat} : run sm C P (.loop K :: k) (.exit i) σ Q = run sm C P k (.exit i) σ Q := rfl
theorem run_cond {t : Nat} {a b : Code} : run sm C P (.code (.cond (.tmp t) a b) :: k) .normal σ Q = condK (σ.slot t) (X := ⟨run sm C P (.code a :: k) .normal σ Q⟩) (Y := ⟨run sm C P (.code b :: k) .normal σ Q⟩) := rfl
theorem run_condc {x : Bool} {a b : Code} : run sm C P (.code (.cond (.const (.bool x)) a b) :: k) .normal σ Q = condK (.sc (.bool x)) (X := ⟨run sm C P (.code a :: k) .normal σ Q⟩) (Y := ⟨run sm C P (.code b :: k) .normal σ Q⟩) := rfl
theorem run_ops_nil {all : Array Oper} : run sm C P (.ops all [] :: k) .normal σ Q = run sm C P k .normal σ Q := rfl
theorem run_ops_cons {all : Array Oper} {d : Option Nat} {op : Op} {ty : Nat} {ps : String} {af : Array Edge} {l : List Oper} :
  run sm C P (.ops all (⟨d, op, ty, ps, af, none⟩ :: l) :: k) .normal σ Q = opK sm C P (astep sm P ⟨d, op, ty, ps, af, none⟩) d all l k σ Q := rfl
theorem run_ops_guard {all : Array Oper} {d : Option Nat} {op : Op} {ty : Nat} {ps : String} {af : Array Edge} {j : Nat} {want : Bool} {l : List Oper} :
  run sm C P (.ops all (⟨d, op, ty, ps, af, some (j, want)⟩ :: l) :: k) .normal σ Q =
   guardK (σ.slot (guardSlot all j)) want (X := ⟨opK sm C P (astep sm P ⟨d, op, ty, ps, af, none⟩) d all l k σ Q⟩) (Y := ⟨run sm C P (.ops all l :: k) .normal (σ.app d { val := .tup [] }) Q⟩) := by
 show guardA _ _ _ _ = guardA _ _ _ _
 congr 1
 exact propext ⟨fun h => RM.wp_rr (astep sm P ⟨d, op, ty, ps, af, none⟩) h, fun h => RM.wp_rr (astep sm P ⟨d, op, ty, ps, af, none⟩) h⟩
theorem run_opsD_nil {all : Array Oper} {fps : List FP} : run sm C P (.opsD all [] fps :: k) .normal σ Q = (VC (calm all fps = true) ∧ run sm C P k .normal σ Q) := rfl
theorem run_opsD_cons {all : Array Oper} {d : Option Nat} {op : Op} {ty : Nat} {ps : String} {af : Array Edge} {l : List Oper} {fps : List FP} :
  run sm C P (.opsD all (⟨d, op, ty, ps, af, none⟩ :: l) fps :: k) .normal σ Q = opD sm C P (astep sm P ⟨d, op, ty, ps, af, none⟩) [] [] d all l fps k σ Q := rfl
theorem run_opsD_guard {all : Array Oper} {d : Option Nat} {op : Op} {ty : Nat} {ps : String} {af : Array Edge} {j : Nat} {want : Bool} {l : List Oper} {fps : List FP} :
  run sm C P (.opsD all (⟨d, op, ty, ps, af, some (j, want)⟩ :: l) fps :: k) .normal σ Q =
   guardK (σ.slot (guardSlot all j)) want (X := ⟨opD sm C P (astep sm P ⟨d, op, ty, ps, af, none⟩) [guardSlot all j] [] d all l fps k σ Q⟩) (Y := ⟨run sm C P (.opsD all l (fps ++ [⟨[guardSlot all j], [], []⟩]) :: k) .normal (σ.app d { val := .tup [] }) Q⟩) := rfl
theorem run_nil {e : Ex} : run sm C P [] e σ Q = Q e σ := rfl
theorem run_loop {c : Code} (ss rs : List Nat) {α : Type} (S : α → St) (μ : α → Nat) (x : α) (h0 : S x = keep ss rs σ)
  (h : ∀ x, run sm C P (.code c :: .loop (fun σ => ∃ y, S y = keep ss rs σ ∧ μ y < μ x) :: k) .normal (S x) Q) : run sm C P (.code (.loop c) :: k) .normal σ Q := by
 refine ⟨ss, rs, α, S, μ, x, none, h0, fun x => ?_⟩
 have := h x
 simp only [run] at this
 refine (congrArg (awp sm C P c (S x)) ?_).mp this
 funext e σ
 cases e <;> rfl
theorem run_loopE {c : Code} {id : Nat} (ss rs : List Nat) {α : Type} (S : α → St) (μ : α → Nat) (x : α) (ss' rs' : List Nat) {β : Type} (T : β → St) (h0 : S x = keep ss rs σ)
  (h : ∀ x, run sm C P (.code c :: .loop (fun σ => ∃ y, S y = keep ss rs σ ∧ μ y < μ x) :: .blk id :: .loop (fun σ => ∃ y, T y = keep ss' rs' σ) :: []) .normal (S x) (fun e σ => match e with | .ret => Q .ret σ | _ => False))
  (hp : ∀ y, run sm C P k .normal (T y) Q) : run sm C P (.code (.loop c) :: .blk id :: k) .normal σ Q := by
 refine ⟨ss, rs, α, S, μ, x, some (ss', rs'), h0, fun x => ?_⟩
 have := h x
 simp only [run] at this
 refine awp_mono (fun _ _ _ h => h) c ?_ this
 intro e σ he
 cases e with
 | normal => exact he
 | ret =>
  have h1 : (run sm C P (.code .ret :: .blk id :: k) .normal σ Q) = Q .ret σ := run_ret
  have h2 : run sm C P (.code .ret :: .blk id :: k) .normal σ Q = run sm C P (.blk id :: k) .ret σ Q := rfl
  exact (h2.symm.trans h1).mpr he
 | exit i =>
  simp only [run] at he ⊢
  by_cases hi : i = id
  ·rw [if_pos hi] at he ⊢
   obtain ⟨y, hy⟩ := he
   have := hp y
   rw [hy] at this
   exact this
  ·rw [if_neg hi] at he
   exact he.elim

theorem opK_ret {e : Eff} {d : Option Nat} {all : Array Oper} {l : List Oper} : opK sm C P (.ret e) d all l k σ Q = run sm C P (.ops all l :: k) .normal (σ.app d e) Q := rfl
theorem opK_slot {t : Nat} {f : AV → RM Eff} {d : Option Nat} {all : Array Oper} {l : List Oper} : opK sm C P (.slot t f) d all l k σ Q = opK sm C P (f (σ.slot t)) d all l k σ Q :=
 propext ⟨fun h => RM.wp_rr (f (σ.slot t)) h, fun h => RM.wp_rr (f (σ.slot t)) h⟩
theorem opK_row {r : Nat} {f : Option Row → RM Eff} {d : Option Nat} {all : Array Oper} {l : List Oper} : opK sm C P (.row r f) d all l k σ Q = opK sm C P (f (lget σ.rows r)) d all l k σ Q :=
 propext ⟨fun h => RM.wp_rr (f (lget σ.rows r)) h, fun h => RM.wp_rr (f (lget σ.rows r)) h⟩
theorem opK_req {p : Prop} {m : RM Eff} {d : Option Nat} {all : Array Oper} {l : List Oper} : opK sm C P (.req p m) d all l k σ Q = (VC p ∧ opK sm C P m d all l k σ Q) := rfl
theorem opK_any {f : Bool → RM Eff} {d : Option Nat} {all : Array Oper} {l : List Oper} : opK sm C P (.any f) d all l k σ Q = ∀ b, opK sm C P (f b) d all l k σ Q := propext ⟨fun h => h.2, fun h => ⟨rfl, h⟩⟩
theorem opK_call {g : FuncId} {as : List PA} {f : CRes → RM Eff} {d : Option Nat} {all : Array Oper} {l : List Oper} : opK sm C P (.call g as f) d all l k σ Q = callK C g as (F := ⟨fun r => opK sm C P (f r) d all l k σ Q⟩) := rfl
theorem opK_fail {d : Option Nat} {all : Array Oper} {l : List Oper} : opK sm C P .fail d all l k σ Q = False := rfl
theorem opD_ret {e : Eff} {rs rr : List Nat} {d : Option Nat} {all : Array Oper} {l : List Oper} {fps : List FP} : opD sm C P (.ret e) rs rr d all l fps k σ Q = run sm C P (.opsD all l (fps ++ [⟨rs, rr, e.rows.map (·.1)⟩]) :: k) .normal (σ.app d e) Q := rfl
theorem opD_slot {t : Nat} {f : AV → RM Eff} {rs rr : List Nat} {d : Option Nat} {all : Array Oper} {l : List Oper} {fps : List FP} : opD sm C P (.slot t f) rs rr d all l fps k σ Q = opD sm C P (f (σ.slot t)) (t :: rs) rr d all l fps k σ Q := rfl
theorem opD_row {r : Nat} {f : Option Row → RM Eff} {rs rr : List Nat} {d : Option Nat} {all : Array Oper} {l : List Oper} {fps : List FP} : opD sm C P (.row r f) rs rr d all l fps k σ Q = opD sm C P (f (lget σ.rows r)) rs (r :: rr) d all l fps k σ Q := rfl
theorem opD_req {p : Prop} {m : RM Eff} {rs rr : List Nat} {d : Option Nat} {all : Array Oper} {l : List Oper} {fps : List FP} : opD sm C P (.req p m) rs rr d all l fps k σ Q = (VC p ∧ opD sm C P m rs rr d all l fps k σ Q) := rfl
theorem opD_any {f : Bool → RM Eff} {rs rr : List Nat} {d : Option Nat} {all : Array Oper} {l : List Oper} {fps : List FP} : opD sm C P (.any f) rs rr d all l fps k σ Q = False := propext ⟨fun h => (Bool.noConfusion h.1), False.elim⟩
theorem opD_call {g : FuncId} {as : List PA} {f : CRes → RM Eff} {rs rr : List Nat} {d : Option Nat} {all : Array Oper} {l : List Oper} {fps : List FP} : opD sm C P (.call g as f) rs rr d all l fps k σ Q = callK C g as (F := ⟨fun r => opD sm C P (f r) rs rr d all l fps k σ Q⟩) := rfl
theorem opD_fail {rs rr : List Nat} {d : Option Nat} {all : Array Oper} {l : List Oper} {fps : List FP} : opD sm C P .fail rs rr d all l fps k σ Q = False := rfl

theorem lget_cons {α : Type} (k : Nat) (v : α) (l : List (Nat × α)) (n : Nat) : lget ((k, v) :: l) n = if k = n then some v else lget l n := rfl
theorem lput_cons {α : Type} (k : Nat) (v x : α) (l : List (Nat × α)) (n : Nat) : lput ((k, v) :: l) n x = if k = n then (n, x) :: l else if n < k then (n, x) :: (k, v) :: l else (k, v) :: lput l n x := rfl
theorem lget_nil {α : Type} (n : Nat) : lget ([] : List (Nat × α)) n = none := rfl
theorem lput_nil {α : Type} (n : Nat) (x : α) : lput [] n x = [(n, x)] := rfl
theorem at_zero (x : AV) (l : List AV) : at_ (x :: l) 0 = x := rfl
theorem at_succ (x : AV) (l : List AV) (i : Nat) : at_ (x :: l) (i + 1) = at_ l i := rfl
def rgC (i : Nat) : Code → Option (Array Oper)
 | .region j ops _ => if j = i then some ops else none
 | .seq a b => match rgC i a with | some x => some x | none => rgC i b
 | .cond _ a b => match rgC i a with | some x => some x | none => rgC i b
 | .block _ c => rgC i c
 | .loop c => rgC i c
 | _ => none
def rgO (f : Func) (i : Nat) : Option (Array Oper) := match f.body with | some c => rgC i c | none => none
def rgA (f : Func) (i : Nat) : Array Oper := (rgO f i).getD #[]
def foldC (f : Func) : Code → Code
 | .region i _ d => .region i (rgA f i) d
 | .seq a b => .seq (foldC f a) (foldC f b)
 | .cond o a b => .cond o (foldC f a) (foldC f b)
 | .block i c => .block i (foldC f c)
 | .loop c => .loop (foldC f c)
 | c => c
theorem fold_body {f : Func} {c : Code} (h : f.body = some c) (hf : foldC f c = c) : f.body = some (foldC f c) := by rw [hf]; exact h
theorem fold_region {f : Func} {i : Nat} {ops : Array Oper} {d : Bool} : foldC f (.region i ops d) = .region i (rgA f i) d := rfl
theorem fold_seq {f : Func} {a b : Code} : foldC f (.seq a b) = .seq (foldC f a) (foldC f b) := rfl
theorem fold_cond {f : Func} {o : Operand} {a b : Code} : foldC f (.cond o a b) = .cond o (foldC f a) (foldC f b) := rfl
theorem fold_block {f : Func} {i : Nat} {a : Code} : foldC f (.block i a) = .block i (foldC f a) := rfl
theorem fold_loop {f : Func} {a : Code} : foldC f (.loop a) = .loop (foldC f a) := rfl
theorem fold_skip {f : Func} : foldC f .skip = .skip := rfl
theorem fold_exit {f : Func} {i : Nat} : foldC f (.exit i) = .exit i := rfl
theorem fold_ret {f : Func} : foldC f .ret = .ret := rfl
theorem run_regE {f : Func} {i : Nat} {ops : Array Oper} (h : rgO f i = some ops) (hh : run sm C P (.ops ops ops.toList :: k) .normal σ Q) : run sm C P (.code (.region i (rgA f i) false) :: k) .normal σ Q := by
 rw [run_region, rgA, h]; exact hh
theorem run_regD {f : Func} {i : Nat} {ops : Array Oper} (h : rgO f i = some ops) (hh : run sm C P (.opsD ops ops.toList [] :: k) .normal σ Q) : run sm C P (.code (.region i (rgA f i) true) :: k) .normal σ Q := by
 rw [run_regionD, rgA, h]; exact hh
attribute [go_sem ↓] run_skip run_seq run_block run_exit run_ret run_blk run_loopEnd run_exit_blk run_exit_code run_exit_loop run_cond run_condc run_ops_nil run_ops_cons run_ops_guard run_opsD_nil run_opsD_cons run_opsD_guard
attribute [go_sem] run_nil opK_ret opK_slot opK_row opK_req opK_any opK_call opK_fail opD_ret opD_slot opD_row opD_req opD_any opD_call opD_fail
attribute [go_sem] condK.yes condK.no guardK.tt guardK.ff guardK.tf guardK.ft guardK.skip vc_true Option.bind Option.map List.getElem?_toArray List.getElem?_cons_succ List.getElem?_cons_zero
attribute [go_sem] lget_cons lput_cons lget_nil lput_nil St.app St.slot putRows Option.getD List.headD List.tail
attribute [go_sem] astep val opd opds RM.bind ofValue ofCell mk freshGen rd giveUp giveUpL giveUpA giveT canonA canonCells TI.zd partOf setPart splice at_zero at_succ cellsOf int bool TK.isAgg TK.elem
attribute [go_sem] binInt binBool binStr binAgg binNil shiftOp binOpA unOpA pickA nilCheckA extractA natOf optNat lenA elems appendA indexAddrA fieldAddrA fieldA indexA loadA fixCells boxA storeA
attribute [go_sem] isNil notIn inL distinct TK.isSlice TK.isBool TK.isU8 TK.sliceOrStr isAggAV intOf1 keyOK valPart makeMapA rangeA nextA partsOK partsOK.okPart elemsOK disjB
attribute [go_sem] setParts opdParts buildA giveParts setElems buildSliceA makeSliceA convA sliceA lookupA mapUpdateA makeFuncA packCell packCells packVal unpackCells unpackVal argA argsA deadAll deadBut live Row.dead backA newKey nestKey rekey rekeyAll mkNew bkKeys callA builtinA callOpA assignA guardSlot
end Go.AL
end
section
namespace Go.AL

def HasCells (w : World) (b o : Nat) (vs : List Value) : Prop := ∀ j v, vs[j]? = some v → v.oneCell' = true ∧ w.cell? ⟨b, o + j, none⟩ = some v

abbrev noH : AV → Value → Prop := fun _ _ => False
mutual
def Rep (w : World) (A : Nat → Prop) (H : AV → Value → Prop) : AV → Value → Prop
 | .junk, _ => True
 | .nst, _ => True
 | .sc x, v => v = x ∧ x.oneCell' = true
 | .agg cs, v => ∃ vs, v = .agg vs ∧ (∀ x ∈ vs.toList, x.oneCell' = true) ∧ RepL w A H cs vs.toList
 | .tup cs, v => ∃ vs, v = .tuple vs ∧ RepL w A H cs vs.toList
 | .nil, v => ∃ a, v = .slice a 0 0
 | .sl es xs, v => ∃ a cap, v = .slice a xs.length cap ∧ xs.length ≤ cap ∧ (xs = [] ∨ ∃ b o, a = some ⟨b, o, none⟩ ∧ ¬ A b ∧ b < w.heap.size ∧ RepRow w A noH xs b o es)
 | .dp es xs i j, v => ∃ b o, v = .pointer (some ⟨b, o + i * es + j, none⟩) ∧ ¬ A b ∧ b < w.heap.size ∧ RepRow w A noH xs b o es
 | .hp p i j, v => H (.hp p i j) v
 | .hs p o n, v => H (.hs p o n) v
 | .hm p, v => H (.hm p) v
 | .it, v => ∃ b m s c clk, v = .pointer (some ⟨b, 0, none⟩) ∧ (¬ A b ∧ b < w.heap.size ∧ w.heap[b]? = some (.mapIter (some m) s #[] c)) ∧ ¬ A m ∧ m < w.heap.size ∧ w.heap[m]? = some (.map #[] clk)
 | .cl f cs, v => ∃ vs, v = .func (.func f) #[] vs ∧ RepL w A noH cs vs.toList
def RepL (w : World) (A : Nat → Prop) (H : AV → Value → Prop) : List AV → List Value → Prop
 | [], [] => True
 | c :: cs, v :: vs => Rep w A H c v ∧ RepL w A H cs vs
 | _, _ => False
def RepRow (w : World) (A : Nat → Prop) (H : AV → Value → Prop) : List AV → Nat → Nat → Nat → Prop
 | [], _, _, _ => True
 | x :: xs, b, o, es => (∃ v, v.cells.size = es ∧ HasCells w b o v.cells.toList ∧ Rep w A H x v) ∧ RepRow w A H xs b (o + es) es
end

section
variable {w w' : World} {A A' : Nat → Prop}
theorem HasCells.mono {b o : Nat} {vs : List Value} (hb : w'.heap[b]? = w.heap[b]?) (h : HasCells w b o vs) : HasCells w' b o vs :=
 fun j v hj => ⟨(h j v hj).1, (World.cell?_of_block (a := ⟨b, o + j, none⟩) hb).trans (h j v hj).2⟩

variable (hdat : ∀ b, ¬ A b → b < w.heap.size → w'.heap[b]? = w.heap[b]? ∧ ¬ A' b) (hsz : w.heap.size ≤ w'.heap.size)
include hdat hsz
mutual
theorem Rep.mono : ∀ {H H' : AV → Value → Prop} {av : AV} {v : Value}, (∀ av v, H av v → H' av v) → Rep w A H av v → Rep w' A' H' av v
 | _, _, .junk, _, _, _ => trivial
 | _, _, .nst, _, _, _ => trivial
 | _, _, .sc _, _, _, h => h
 | _, _, .agg cs, v, hH, h => by
  obtain ⟨vs, e, h1, h⟩ := h
  exact ⟨vs, e, h1, RepL.mono hH h⟩
 | _, _, .tup cs, v, hH, h => by
  obtain ⟨vs, e, h⟩ := h
  exact ⟨vs, e, RepL.mono hH h⟩
 | _, _, .nil, _, _, h => h
 | _, _, .sl es xs, v, hH, h => by
  obtain ⟨a, cap, e, hc, h⟩ := h
  refine ⟨a, cap, e, hc, h.imp id ?_⟩
  rintro ⟨b, o, ha, hA, hb, hr⟩
  exact ⟨b, o, ha, (hdat b hA hb).2, Nat.lt_of_lt_of_le hb hsz, RepRow.mono (fun _ _ h => h.elim) (hdat b hA hb).1 hr⟩
 | _, _, .dp es xs i j, v, hH, h => by
  obtain ⟨b, o, ha, hA, hb, hr⟩ := h
  exact ⟨b, o, ha, (hdat b hA hb).2, Nat.lt_of_lt_of_le hb hsz, RepRow.mono (fun _ _ h => h.elim) (hdat b hA hb).1 hr⟩
 | _, _, .hp _ _ _, _, hH, h => hH _ _ h
 | _, _, .hs _ _ _, _, hH, h => hH _ _ h
 | _, _, .hm _, _, hH, h => hH _ _ h
 | _, _, .it, _, hH, h => by
  obtain ⟨b, m, s, c, clk, e, ⟨h1, h2, h3⟩, h4, h5, h6⟩ := h
  exact ⟨b, m, s, c, clk, e, ⟨(hdat b h1 h2).2, Nat.lt_of_lt_of_le h2 hsz, (hdat b h1 h2).1.trans h3⟩, (hdat m h4 h5).2, Nat.lt_of_lt_of_le h5 hsz, (hdat m h4 h5).1.trans h6⟩
 | _, _, .cl f cs, v, hH, h => by
  obtain ⟨vs, e, h⟩ := h
  exact ⟨vs, e, RepL.mono (fun _ _ h => h.elim) h⟩
theorem RepL.mono : ∀ {H H' : AV → Value → Prop} {cs : List AV} {vs : List Value}, (∀ av v, H av v → H' av v) → RepL w A H cs vs → RepL w' A' H' cs vs
 | _, _, [], [], _, _ => trivial
 | _, _, _ :: _, _ :: _, hH, h => ⟨Rep.mono hH h.1, RepL.mono hH h.2⟩
 | _, _, [], _ :: _, _, h => h.elim
 | _, _, _ :: _, [], _, h => h.elim
theorem RepRow.mono : ∀ {H H' : AV → Value → Prop} {xs : List AV} {b o es : Nat}, (∀ av v, H av v → H' av v) → w'.heap[b]? = w.heap[b]? → RepRow w A H xs b o es → RepRow w' A' H' xs b o es
 | _, _, [], _, _, _, _, _, _ => trivial
 | _, _, _ :: _, _, _, _, hH, hb, h => by
  obtain ⟨⟨v, h1, h2, h3⟩, h4⟩ := h
  exact ⟨⟨v, h1, h2.mono hb, Rep.mono hH h3⟩, RepRow.mono hH hb h4⟩
end
end

theorem RepL.length {w : World} {A : Nat → Prop} {H : AV → Value → Prop} : ∀ {cs : List AV} {vs : List Value}, RepL w A H cs vs → cs.length = vs.length
 | [], [], _ => rfl
 | _ :: _, _ :: _, h => by simp [RepL.length h.2]
 | [], _ :: _, h => h.elim
 | _ :: _, [], h => h.elim
theorem RepL.at {w : World} {A : Nat → Prop} {H : AV → Value → Prop} : ∀ {cs : List AV} {vs : List Value} (h : RepL w A H cs vs) (i : Nat) (c : AV), cs[i]? = some c → ∃ v, vs[i]? = some v ∧ Rep w A H c v
 | _ :: _, _ :: _, h, 0, _, e => by simp at e; subst e; exact ⟨_, rfl, h.1⟩
 | _ :: _, _ :: _, h, i + 1, c, e => by simpa using RepL.at h.2 i c (by simpa using e)
 | [], _, _, _, _, e => by simp at e
 | _ :: _, [], h, _, _, _ => h.elim
theorem RepL.of_at {w : World} {A : Nat → Prop} {H : AV → Value → Prop} : ∀ {cs : List AV} {vs : List Value}, cs.length = vs.length → (∀ (i : Nat) (c : AV) (v : Value), cs[i]? = some c → vs[i]? = some v → Rep w A H c v) → RepL w A H cs vs
 | [], [], _, _ => trivial
 | c :: cs, v :: vs, hl, h => ⟨h 0 c v rfl rfl, RepL.of_at (by simpa using hl) fun i c v hc hv => h (i + 1) c v (by simpa using hc) (by simpa using hv)⟩
 | [], _ :: _, hl, _ => by simp at hl
 | _ :: _, [], hl, _ => by simp at hl
theorem RepRow.at {w : World} {A : Nat → Prop} {H : AV → Value → Prop} {b es : Nat} : ∀ {xs : List AV} {o : Nat} (h : RepRow w A H xs b o es) (i : Nat) (x : AV), xs[i]? = some x →
  ∃ v, v.cells.size = es ∧ HasCells w b (o + i * es) v.cells.toList ∧ Rep w A H x v
 | _ :: _, o, h, 0, _, e => by simp at e; subst e; simpa using h.1
 | _ :: _, o, h, i + 1, x, e => by
  obtain ⟨v, h1, h2, h3⟩ := RepRow.at h.2 i x (by simpa using e)
  exact ⟨v, h1, by rw [Nat.add_mul, Nat.one_mul, Nat.add_comm (i * es) es, ← Nat.add_assoc]; exact h2, h3⟩
 | [], _, _, _, _, e => by simp at e
theorem RepRow.of_at {w : World} {A : Nat → Prop} {H : AV → Value → Prop} {b es : Nat} : ∀ {xs : List AV} {o : Nat}, (∀ (i : Nat) (x : AV), xs[i]? = some x →
  ∃ v, v.cells.size = es ∧ HasCells w b (o + i * es) v.cells.toList ∧ Rep w A H x v) → RepRow w A H xs b o es
 | [], _, _ => trivial
 | x :: xs, o, h => ⟨by simpa using h 0 x rfl, RepRow.of_at fun i x hx => by
   obtain ⟨v, h1, h2, h3⟩ := h (i + 1) x (by simpa using hx)
   refine ⟨v, h1, ?_, h3⟩
   rw [Nat.add_mul, Nat.one_mul, Nat.add_comm (i * es) es, ← Nat.add_assoc] at h2
   exact h2⟩
theorem RepRow.drop {w : World} {A : Nat → Prop} {H : AV → Value → Prop} {b es o : Nat} {xs : List AV} (h : RepRow w A H xs b o es) (k : Nat) : RepRow w A H (xs.drop k) b (o + k * es) es :=
 .of_at fun i x hx => by
  rw [List.getElem?_drop] at hx
  obtain ⟨v, h1, h2, h3⟩ := h.at _ x hx
  refine ⟨v, h1, ?_, h3⟩
  rw [Nat.add_mul, ← Nat.add_assoc] at h2
  exact h2
theorem RepRow.take {w : World} {A : Nat → Prop} {H : AV → Value → Prop} {b es o : Nat} {xs : List AV} (h : RepRow w A H xs b o es) (k : Nat) : RepRow w A H (xs.take k) b o es :=
 .of_at fun i x hx => by
  rw [List.getElem?_take] at hx
  split at hx
  ·exact h.at _ x hx
  ·cases hx
theorem RepRow.append {w : World} {A : Nat → Prop} {H : AV → Value → Prop} {b es : Nat} : ∀ {xs ys : List AV} {o : Nat}, RepRow w A H xs b o es → RepRow w A H ys b (o + xs.length * es) es → RepRow w A H (xs ++ ys) b o es
 | [], ys, o, _, h => by simpa using h
 | x :: xs, ys, o, h, h' => ⟨h.1, RepRow.append h.2 (by
   have : o + es + xs.length * es = o + (x :: xs).length * es := by simp [Nat.add_mul]; omega
   rw [this]; exact h')⟩

abbrev Loc := Option (Nat × Nat)
def Hd (rows : Rows) (Φ : Nat → Loc) (w : World) : AV → Value → Prop
 | .hs p o n, v => ∃ a cap, v = .slice a n cap ∧ n ≤ cap ∧ (a = none → n = 0) ∧ ∃ row, lget rows p.r = some row ∧ p.g ≤ row.gen ∧ (row.gen = p.g → ∀ es xs, row.body = .cells es xs →
   match Φ p.r with
   | none => cap = 0
   | some (b, ob) => (cap = 0 ∨ a = some ⟨b, ob + o * es, none⟩) ∧ (row.own = true → ∃ c e, w.heap[b]? = some (.cells c e (0, 0)) ∧ ob + (o + cap) * es ≤ c.size))
 | .hp p i j, v => ∃ a, v = .pointer (some a) ∧ ∃ row, lget rows p.r = some row ∧ p.g ≤ row.gen ∧ (row.gen = p.g → ∀ es xs, row.body = .cells es xs → ∃ b ob, Φ p.r = some (b, ob) ∧ a = ⟨b, ob + i * es + j, none⟩)
 | .hm p, v => ∃ m, v = .map m ∧ ∃ row, lget rows p.r = some row ∧ p.g ≤ row.gen ∧ (row.gen = p.g → ∃ b ob, Φ p.r = some (b, ob) ∧ m = some b)
 | _, _ => False
def Av (N : Nat → Prop) (rows : Rows) (Φ : Nat → Loc) (b : Nat) : Prop := N b ∨ ∃ r row o, lget rows r = some row ∧ row.own = true ∧ Φ r = some (b, o)
def EntsRel (w : World) (A : Nat → Prop) (kk : KK) : List (AV × AV) → List MapEntry → Prop
 | [], [] => True
 | (k, x) :: l, e :: es => (keyOK kk k = true ∧ Rep w A noH k e.key ∧ Rep w A noH x e.val) ∧ EntsRel w A kk l es
 | _, _ => False
def RowRel (w : World) (N : Nat → Prop) (rows : Rows) (Φ : Nat → Loc) (r : Nat) (row : Row) : Prop :=
 match row.body with
 | .cells es xs => match Φ r with
  | none => xs = [] ∧ row.box = false
  | some (b, ob) => RepRow w (Av N rows Φ) (if row.box then Hd rows Φ w else noH) xs b ob es ∧ b < w.heap.size ∧ (row.own = false → ¬ Av N rows Φ b) ∧
    (row.own = true → ∃ c e, w.heap[b]? = some (.cells c e (0, 0)) ∧ ob + xs.length * es ≤ c.size)
 | .map kk ents => ∃ b es clk, Φ r = some (b, 0) ∧ w.heap[b]? = some (.map es clk) ∧ row.own = true ∧ row.box = false ∧ EntsRel w (Av N rows Φ) kk ents es.toList

structure Base extends World where
 loc : Nat → Loc
 rows0 : Rows
def sameShape : Body → Body → Prop
 | .cells es _, .cells es' _ => es = es'
 | .map kk _, .map kk' _ => kk = kk'
 | _, _ => False
def Grows (w w' : World) : Prop := ∀ (b : Nat) (c : Array Value) (e : TypeId), w.heap[b]? = some (.cells c e (0, 0)) → ∃ c' e', w'.heap[b]? = some (.cells c' e' (0, 0)) ∧ c.size ≤ c'.size
structure Core (N PO : Nat → Prop) (w0 : Base) (σ : St) (ce : Nat → Value) (w : World) (Φ : Nat → Loc) : Prop where
 os : w.os = w0.os
 tape : w.tape = w0.tape
 output : w.output = w0.output
 size : w0.heap.size ≤ w.heap.size
 old : ∀ b, b < w0.heap.size → ¬ PO b → w.heap[b]? = w0.heap[b]?
 nlt : ∀ b, N b → b < w0.heap.size ∧ ¬ PO b
 grows : Grows w0.toWorld w
 gen0 : ∀ r row, lget σ.rows r = some row → row.gen = 0 → Φ r = w0.loc r ∧ ∃ row0, lget w0.rows0 r = some row0 ∧ sameShape row0.body row.body ∧ row0.box = row.box
 env : ∀ t, Rep w (Av N σ.rows Φ) (Hd σ.rows Φ w) (σ.slot t) (ce t)
 rows : ∀ r row, lget σ.rows r = some row → RowRel w N σ.rows Φ r row
 inj : ∀ r r' row row' b o o', lget σ.rows r = some row → lget σ.rows r' = some row' → row.own = true → row'.own = true → Φ r = some (b, o) → Φ r' = some (b, o') → r = r'
 mine : ∀ r row b o, lget σ.rows r = some row → row.own = true → Φ r = some (b, o) → ¬ N b ∧ (PO b ∨ w0.heap.size ≤ b)
end Go.AL
end
section
namespace Go.AL

theorem lget_lput {α : Type} (l : List (Nat × α)) (k : Nat) (v : α) (n : Nat) : lget (lput l k v) n = if k = n then some v else lget l n := by
 induction l with
 | nil => rfl
 | cons x l ih =>
  obtain ⟨j, u⟩ := x
  simp only [lput]
  by_cases h1 : j = k
  ·subst h1; simp only [if_pos, lget]; split <;> rfl
  ·rw [if_neg h1]
   by_cases h2 : k < j
   ·rw [if_pos h2]; rfl
   ·rw [if_neg h2]; simp only [lget, ih]
    by_cases h3 : j = n
    ·subst h3; rw [if_pos rfl, if_pos rfl, if_neg (fun e => h1 e.symm)]
    ·rw [if_neg h3, if_neg h3]
theorem lget_lput_same {α : Type} (l : List (Nat × α)) (k : Nat) (v : α) : lget (lput l k v) k = some v := by rw [lget_lput, if_pos rfl]
theorem lget_lput_ne {α : Type} {l : List (Nat × α)} {k n : Nat} (v : α) (h : n ≠ k) : lget (lput l k v) n = lget l n := by rw [lget_lput, if_neg (fun e => h e.symm)]
theorem slot_put (env : Env) (rows rows' : Rows) (d t : Nat) (v : AV) : St.slot ⟨(d, v) :: env, rows⟩ t = if d = t then v else St.slot ⟨env, rows'⟩ t := by
 simp only [St.slot, lget]
 split <;> rfl

def upd (Φ : Nat → Loc) (r : Nat) (l : Loc) : Nat → Loc := fun k => if k = r then l else Φ k
theorem upd_same (Φ : Nat → Loc) (r : Nat) (l : Loc) : upd Φ r l r = l := if_pos rfl
theorem upd_ne {Φ : Nat → Loc} {r k : Nat} {l : Loc} (h : k ≠ r) : upd Φ r l k = Φ k := if_neg h
theorem upd_self (Φ : Nat → Loc) (r : Nat) : upd Φ r (Φ r) = Φ := by
 funext k
 unfold upd
 split
 ·rename_i h; rw [h]
 ·rfl

theorem Core.put {N PO : Nat → Prop} {w0 : Base} {w : World} {σ : St} {ce : Nat → Value} {Φ : Nat → Loc} (h : Core N PO w0 σ ce w Φ) (d : Nat) {av : AV} {v : Value}
  (hr : Rep w (Av N σ.rows Φ) (Hd σ.rows Φ w) av v) : Core N PO w0 ⟨(d, av) :: σ.env, σ.rows⟩ (fun t => if d = t then v else ce t) w Φ :=
 { h with
  env := fun t => by
   rw [slot_put σ.env σ.rows σ.rows]
   dsimp only
   split
   ·exact hr
   ·exact h.env t }

theorem EntsRel.mono {w w' : World} {A A' : Nat → Prop} (hdat : ∀ b, ¬ A b → b < w.heap.size → w'.heap[b]? = w.heap[b]? ∧ ¬ A' b) (hsz : w.heap.size ≤ w'.heap.size) :
  ∀ {kk : KK} {l : List (AV × AV)} {es : List MapEntry}, EntsRel w A kk l es → EntsRel w' A' kk l es
 | _, [], [], _ => trivial
 | _, _ :: _, _ :: _, h => ⟨⟨h.1.1, Rep.mono hdat hsz (fun _ _ h => h) h.1.2.1, Rep.mono hdat hsz (fun _ _ h => h) h.1.2.2⟩, EntsRel.mono hdat hsz h.2⟩
 | _, [], _ :: _, h => h.elim
 | _, _ :: _, [], h => h.elim

theorem RowRel.lt {w : World} {N : Nat → Prop} {rows : Rows} {Φ : Nat → Loc} {r : Nat} {row : Row} (h : RowRel w N rows Φ r row) {b o : Nat} (hb : Φ r = some (b, o)) : b < w.heap.size := by
 unfold RowRel at h
 split at h
 ·rw [hb] at h; exact h.2.1
 ·obtain ⟨b', es, clk, e, hh, _⟩ := h
  rw [hb] at e
  obtain ⟨rfl, rfl⟩ := by simpa using e
  exact (Array.getElem?_eq_some_iff.1 hh).1

section
variable {N PO : Nat → Prop} {w0 : Base} {w : World} {σ : St} {ce : Nat → Value} {Φ : Nat → Loc} (h : Core N PO w0 σ ce w Φ)
 (r : Nat) (row : Row) (loc : Loc) (w' : World)
 (hos : w'.os = w.os) (htape : w'.tape = w.tape) (hout : w'.output = w.output) (hsz : w.heap.size ≤ w'.heap.size)
 (hkeep : ∀ b, b < w.heap.size → (∀ row0 o, lget σ.rows r = some row0 → row0.own = true → Φ r ≠ some (b, o)) → w'.heap[b]? = w.heap[b]?)
 (hgrow : Grows w w')
 (hgen : (lget σ.rows r = none → row.gen ≠ 0) ∧ ∀ row0, lget σ.rows r = some row0 → row0.gen < row.gen ∨ (row0.gen = row.gen ∧ loc = Φ r ∧ sameShape row0.body row.body ∧ row0.box = row.box ∧ (row.own = true → row0.own = true)))
 (hblk : row.own = true → ∀ b o, loc = some (b, o) → (w.heap.size ≤ b ∨ ∃ row0 o', lget σ.rows r = some row0 ∧ row0.own = true ∧ Φ r = some (b, o')))
include h hos htape hout hsz hkeep hgrow hgen hblk

theorem setRow_dat (b : Nat) (hA : ¬ Av N σ.rows Φ b) (hb : b < w.heap.size) : w'.heap[b]? = w.heap[b]? ∧ ¬ Av N (lput σ.rows r row) (upd Φ r loc) b := by
 refine ⟨hkeep b hb fun row0 o h0 ho e => hA (.inr ⟨r, row0, o, h0, ho, e⟩), ?_⟩
 rintro (hn | ⟨k, rk, o, hk, hko, hkb⟩)
 ·exact hA (.inl hn)
 ·by_cases hkr : k = r
  ·subst hkr
   rw [lget_lput_same] at hk
   obtain rfl := Option.some.inj hk
   rw [upd_same] at hkb
   rcases hblk hko b o hkb with h1 | ⟨row0, o', h0, ho, e⟩
   ·omega
   ·exact hA (.inr ⟨k, row0, o', h0, ho, e⟩)
  ·rw [lget_lput_ne _ hkr] at hk
   rw [upd_ne hkr] at hkb
   exact hA (.inr ⟨k, rk, o, hk, hko, hkb⟩)
theorem setRow_hd (av : AV) (v : Value) (hd : Hd σ.rows Φ w av v) : Hd (lput σ.rows r row) (upd Φ r loc) w' av v := by
 cases av with
 | hs p o n =>
  obtain ⟨a, cap, e, hc, hz, row0, h0, hg, hh⟩ := hd
  by_cases hpr : p.r = r
  ·subst hpr
   refine ⟨a, cap, e, hc, hz, row, lget_lput_same _ _ _, ?_⟩
   rcases hgen.2 row0 h0 with hlt | ⟨hge, hl, hsh, hbx0, hown⟩
   ·exact ⟨by omega, fun e => by omega⟩
   ·refine ⟨by omega, fun eg es xs hb => ?_⟩
    rw [upd_same, hl]
    rw [hb] at hsh
    cases hb0 : row0.body with
    | map _ _ => rw [hb0] at hsh; exact hsh.elim
    | cells es0 xs0 =>
     rw [hb0] at hsh
     obtain rfl : es0 = es := hsh
     have := hh (by omega) es0 xs0 hb0
     cases hp : Φ p.r with
     | none => rw [hp] at this; exact this
     | some x =>
      obtain ⟨b, ob⟩ := x
      rw [hp] at this
      refine ⟨this.1, fun ho => ?_⟩
      obtain ⟨c, e, hc1, hc2⟩ := this.2 (hown ho)
      obtain ⟨c', e', hc1', hc2'⟩ := hgrow b c e hc1
      exact ⟨c', e', hc1', by omega⟩
  ·refine ⟨a, cap, e, hc, hz, row0, by rw [lget_lput_ne _ hpr]; exact h0, hg, fun eg es xs hb => ?_⟩
   rw [upd_ne hpr]
   have := hh eg es xs hb
   cases hp : Φ p.r with
   | none => rw [hp] at this; exact this
   | some x =>
    obtain ⟨b, ob⟩ := x
    rw [hp] at this
    refine ⟨this.1, fun ho => ?_⟩
    obtain ⟨c, e, hc1, hc2⟩ := this.2 ho
    refine ⟨c, e, ?_, hc2⟩
    rw [hkeep b (Array.getElem?_eq_some_iff.1 hc1).1 fun row1 o1 h1 ho1 e1 => hpr (h.inj _ _ _ _ b _ _ h0 h1 ho ho1 hp e1)]
    exact hc1
 | hp p i j =>
  obtain ⟨a, e, row0, h0, hg, hh⟩ := hd
  by_cases hpr : p.r = r
  ·subst hpr
   refine ⟨a, e, row, lget_lput_same _ _ _, ?_⟩
   rcases hgen.2 row0 h0 with hlt | ⟨hge, hl, hsh, hbx0, hown⟩
   ·exact ⟨by omega, fun e => by omega⟩
   ·refine ⟨by omega, fun eg es xs hb => ?_⟩
    rw [upd_same, hl]
    rw [hb] at hsh
    cases hb0 : row0.body with
    | map _ _ => rw [hb0] at hsh; exact hsh.elim
    | cells es0 xs0 =>
     rw [hb0] at hsh
     obtain rfl : es0 = es := hsh
     exact hh (by omega) es0 xs0 hb0
  ·refine ⟨a, e, row0, by rw [lget_lput_ne _ hpr]; exact h0, hg, fun eg es xs hb => ?_⟩
   rw [upd_ne hpr]
   exact hh eg es xs hb
 | hm p =>
  obtain ⟨m, e, row0, h0, hg, hh⟩ := hd
  by_cases hpr : p.r = r
  ·subst hpr
   refine ⟨m, e, row, lget_lput_same _ _ _, ?_⟩
   rcases hgen.2 row0 h0 with hlt | ⟨hge, hl, hsh, hbx0, hown⟩
   ·exact ⟨by omega, fun e => by omega⟩
   ·refine ⟨by omega, fun eg => ?_⟩
    rw [upd_same, hl]
    exact hh (by omega)
  ·refine ⟨m, e, row0, by rw [lget_lput_ne _ hpr]; exact h0, hg, fun eg => ?_⟩
   rw [upd_ne hpr]
   exact hh eg
 | _ => exact hd.elim
theorem Core.setRow (hrow : RowRel w' N (lput σ.rows r row) (upd Φ r loc) r row) : Core N PO w0 ⟨σ.env, lput σ.rows r row⟩ ce w' (upd Φ r loc) := by
 have hdat := setRow_dat h r row loc w' hos htape hout hsz hkeep hgrow hgen hblk
 have hhd := setRow_hd h r row loc w' hos htape hout hsz hkeep hgrow hgen hblk
 refine ⟨hos.trans h.os, htape.trans h.tape, hout.trans h.output, Nat.le_trans h.size hsz, fun b hb hp => ?_, h.nlt, fun b c e hc => ?_, fun k rk hk hg0 => ?_, fun t => ?_, fun k rk hk => ?_, ?_, ?_⟩
 ·rw [hkeep b (Nat.lt_of_lt_of_le hb h.size) fun row0 o h0 ho e => ?_]
  ·exact h.old b hb hp
  ·rcases (h.mine r row0 b o h0 ho e).2 with h1 | h1
   ·exact hp h1
   ·omega
 ·obtain ⟨c1, e1, h1, h2⟩ := h.grows b c e hc
  obtain ⟨c2, e2, h3, h4⟩ := hgrow b c1 e1 h1
  exact ⟨c2, e2, h3, Nat.le_trans h2 h4⟩
 ·by_cases hkr : k = r
  ·subst hkr
   rw [lget_lput_same] at hk
   obtain rfl := Option.some.inj hk
   rw [upd_same]
   cases h0 : lget σ.rows k with
   | none => exact absurd hg0 (hgen.1 h0)
   | some row0 =>
    rcases hgen.2 row0 h0 with hlt | ⟨hge, hl, hsh, hbx0, hown⟩
    ·omega
    ·obtain ⟨g1, row1, g2, g3, g4⟩ := h.gen0 k row0 h0 (by omega)
     refine ⟨hl.trans g1, row1, g2, ?_, g4.trans hbx0⟩
     cases hr1 : row1.body <;> cases hr0 : row0.body <;> cases hr2 : row.body <;> simp_all [sameShape]
  ·rw [lget_lput_ne _ hkr] at hk
   rw [upd_ne hkr]
   exact h.gen0 k rk hk hg0
 ·exact Rep.mono hdat hsz hhd (h.env t)
 ·by_cases hkr : k = r
  ·subst hkr
   rw [lget_lput_same] at hk
   obtain rfl := Option.some.inj hk
   exact hrow
  ·rw [lget_lput_ne _ hkr] at hk
   have hr := h.rows k rk hk
   unfold RowRel at hr ⊢
   split at hr
   ·rename_i es xs hbody
    rw [upd_ne hkr]
    cases hp : Φ k with
    | none => rw [hp] at hr; exact hr
    | some x =>
     obtain ⟨b, ob⟩ := x
     rw [hp] at hr
     obtain ⟨h1, h2, h3, h4⟩ := hr
     have hbb : w'.heap[b]? = w.heap[b]? := by
      by_cases ho : rk.own = true
      ·exact hkeep b h2 fun row1 o1 h1' ho1 e1 => hkr (h.inj _ _ _ _ b _ _ hk h1' ho ho1 hp e1)
      ·exact (hdat b (h3 (by simpa using ho)) h2).1
     refine ⟨RepRow.mono hdat hsz ?_ hbb h1, Nat.lt_of_lt_of_le h2 hsz, fun ho => (hdat b (h3 ho) h2).2, fun ho => ?_⟩
     ·intro av v hv
      split at hv
      ·rename_i hbx; rw [if_pos hbx]; exact hhd av v hv
      ·exact hv.elim
     ·obtain ⟨c, e, hc1, hc2⟩ := h4 ho
      exact ⟨c, e, hbb.trans hc1, hc2⟩
   ·rename_i kk ents hbody
    obtain ⟨b, es, clk, hp, hh, ho, hbx, he⟩ := hr
    refine ⟨b, es, clk, by rw [upd_ne hkr]; exact hp, ?_, ho, hbx, EntsRel.mono hdat hsz he⟩
    rw [hkeep b (Array.getElem?_eq_some_iff.1 hh).1 fun row1 o1 h1' ho1 e1 => hkr (h.inj _ _ _ _ b _ _ hk h1' ho ho1 hp e1)]
    exact hh
 ·intro r1 r2 row1 row2 b o1 o2 h1 h2 ho1 ho2 hb1 hb2
  by_cases e1 : r1 = r
  ·by_cases e2 : r2 = r
   ·rw [e1, e2]
   ·subst e1
    rw [lget_lput_same] at h1
    obtain rfl := Option.some.inj h1
    rw [upd_same] at hb1
    rw [lget_lput_ne _ e2] at h2
    rw [upd_ne e2] at hb2
    have hlt := (h.rows r2 row2 h2).lt hb2
    rcases hblk ho1 b o1 hb1 with h3 | ⟨row0, o', h0, ho, e⟩
    ·omega
    ·exact h.inj _ _ _ _ b _ _ h0 h2 ho ho2 e hb2
  ·by_cases e2 : r2 = r
   ·subst e2
    rw [lget_lput_same] at h2
    obtain rfl := Option.some.inj h2
    rw [upd_same] at hb2
    rw [lget_lput_ne _ e1] at h1
    rw [upd_ne e1] at hb1
    have hlt := (h.rows r1 row1 h1).lt hb1
    rcases hblk ho2 b o2 hb2 with h3 | ⟨row0, o', h0, ho, e⟩
    ·omega
    ·exact h.inj _ _ _ _ b _ _ h1 h0 ho1 ho hb1 e
   ·rw [lget_lput_ne _ e1] at h1
    rw [lget_lput_ne _ e2] at h2
    rw [upd_ne e1] at hb1
    rw [upd_ne e2] at hb2
    exact h.inj _ _ _ _ b _ _ h1 h2 ho1 ho2 hb1 hb2
 ·intro k rk b o hk ho hb
  by_cases e1 : k = r
  ·subst e1
   rw [lget_lput_same] at hk
   obtain rfl := Option.some.inj hk
   rw [upd_same] at hb
   rcases hblk ho b o hb with h3 | ⟨row0, o', h0, ho', e⟩
   ·exact ⟨fun hn => by have := (h.nlt b hn).1; have := h.size; omega, .inr (Nat.le_trans h.size h3)⟩
   ·exact h.mine k row0 b o' h0 ho' e
  ·rw [lget_lput_ne _ e1] at hk
   rw [upd_ne e1] at hb
   exact h.mine k rk b o hk ho hb
end
end Go.AL
end
