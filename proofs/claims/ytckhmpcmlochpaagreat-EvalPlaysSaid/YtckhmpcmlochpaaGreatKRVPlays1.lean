import GoSem.Dispatch
import GoSem.Core.Region
import GoSem.Core.Float
import GoSem.Op.FloatArith
import GoSem.Op.Complex
import GoSem.Conv.FloatToInt
import GoSem.Conv.IntToFloat
import Derived.Control
import Derived.Orders
import Derived.Laws.Cells
import Derived.Laws.CopyRow
import Derived.Laws.AppendOwn
import Derived.Laws.StructEq
import Derived.Calls
import Derived.Laws.Concat
import Derived.Laws.Strings2
import Derived.Laws.Append
import Derived.Laws.Tables
import Derived.Laws.BytesString
import Derived.Laws.IdiomStrings
set_option linter.unusedSimpArgs false
set_option linter.unusedVariables false
set_option linter.unnecessarySimpa false
set_option linter.unusedSectionVars false
namespace Go.BX
abbrev Bytes := List UInt8
inductive AV where
 | any
 | undef
 | int (k : IntKind) (n : Int)
 | bool (b : Bool)
 | str (s : Bytes)
 | flt (n : Int)
 | cpx (re im : Int)
 | agg (cs : List AV)
 | tuple (vs : List AV)
 | nilS
 | emp
 | vec (k : Nat) (es : List (List AV))
 | slc (b k i n : Nat)
 | ptr (b k i j : Nat)
 | vptr (k : Nat) (es : List (List AV)) (i j : Nat)
 | nilP
 | fn (f : FuncId) (first caps : List AV)
 | yld (l : Nat)
 | mpp (b : Nat)
 | nilF
 | nilI
 deriving Inhabited
def AV.cells : AV → List AV
 | .agg cs => cs
 | v => [v]
def AV.one : AV → Bool
 | .agg _ | .tuple _ | .undef | .any => false
 | _ => true
def AV.plain : AV → Bool
 | .tuple _ | .undef | .any => false
 | _ => true
def AV.flat1 : AV → Bool
 | .int .. | .bool _ | .str _ | .flt _ | .cpx .. | .nilS | .emp | .vec .. | .vptr .. | .nilP | .nilF | .nilI | .undef => true
 | _ => false
def AV.flat2 : AV → Bool
 | .agg cs => cs.all AV.flat1
 | .fn _ first caps => first.all AV.flat1 && caps.all AV.flat1
 | v => v.flat1
def AV.flat : AV → Bool
 | .tuple vs => vs.all AV.flat2
 | v => v.flat2
def AV.solid1 : AV → Bool
 | .int .. | .bool _ | .str _ | .flt _ | .cpx .. | .nilS | .emp | .nilP | .nilF | .nilI | .undef => true
 | _ => false
def AV.solid2 : AV → Bool
 | .agg cs => cs.all AV.solid1
 | v => v.solid1
def AV.solid : AV → Bool
 | .tuple vs => vs.all AV.solid2
 | v => v.solid2
def z3t : AV → Option (Option Nat)
 | .ptr b _ _ _ | .slc b _ _ _ => some (some b)
 | .vptr .. | .vec .. | .nilS | .emp => some none
 | _ => none
def z0k (a b : AV) : Bool :=
 match z3t a, z3t b with
 | some (some x), some (some y) => x != y
 | some _, some _ => true
 | _, _ => false
abbrev i64 (n : Int) : AV := .int .i64 n
inductive TK where
 | bool | int (k : IntKind) | str | flt | cpx
 | ptr
 | slice (elem : TypeId)
 | array (len : Nat) (elem : TypeId)
 | struct (fields : List (TypeId × Nat))
 | func
 | iface
 deriving Inhabited
inductive CK where
 | bool | int (k : IntKind) | str
 deriving DecidableEq, Inhabited
structure TI where
 kind : TK
 size : Nat
 bytes : Nat
 zero : List AV
 eqk : Option (List CK)
 deriving Inhabited
def TK.isAgg : TK → Bool
 | .struct _ | .array _ _ => true
 | _ => false
structure AO where
 dst : Option Nat
 op : Op
 ty : TypeId
 guard : Option (Nat × Bool)
 deriving Inhabited
inductive AC where
 | skip
 | region (ops : List AO) (chk : List (List Nat))
 | seq (a b : AC)
 | cond (c : Operand) (thn els : AC)
 | block (id : Nat) (body : AC)
 | loop (body : AC)
 | rangeFunc (f : Operand) (params : List Nat) (assign body : AC)
 | exit (id : Nat)
 | scope (body : AC)
 | label (l : Nat)
 | goto (l : Nat)
 | ret
 | refuse
 deriving Inhabited
structure FI where
 ntmps : Nat
 results : List ResultVar
 body : AC
 deriving Inhabited
inductive ADef where
 | call (v : AV) (args : List AV)
 | collected (b : Nat)
 deriving Inhabited
inductive LS where
 | ready | busy | done | exhausted
 deriving DecidableEq, Inhabited
structure ALoop where
 state : LS
 pending : Option AC
 fn : FuncId
 T : Nat → AV
 params : List Nat
 assign : AC
 body : AC
 defers : Nat
inductive Blk where
 | dead
 | cells (t : TypeId) (k : Nat) (es : List (List AV))
 | iter (s : Bytes) (pos : Nat)
 | mp (es : List (Bytes × Bytes))
 | loop (l : ALoop)
 | dfr
 deriving Inhabited
structure AHeap where
 next : Nat
 at_ : Nat → Blk
structure Ctx where
 P : Program
 FT : FuncId → Option FI
 TT : TypeId → Option TI
 pure : FuncId → Bool
 ext : FuncId → Option (List AV → AHeap → Option (AV × AHeap))
def upd {α : Type} (f : Nat → α) (a : Nat) (v : α) : Nat → α := fun x => if x = a then v else f x
@[simp] theorem upd_same {α : Type} (f : Nat → α) (a : Nat) (v : α) : upd f a v a = v := by simp [upd]
theorem q2d {α : Type} (f : Nat → α) {a x : Nat} (v : α) (h : x ≠ a) : upd f a v x = f x := by simp [upd, h]
theorem q0b {α : Type} (f : Nat → α) (a x : Nat) (v : α) : upd f a v x = if x = a then v else f x := rfl
def AHeap.empty : AHeap := { next := 0, at_ := fun _ => .dead }
def AHeap.push (H : AHeap) (b : Blk) : AHeap := { next := H.next + 1, at_ := upd H.at_ H.next b }
def AHeap.set (H : AHeap) (i : Nat) (b : Blk) : AHeap := { H with at_ := upd H.at_ i b }
def j9e (b : Nat) : Option Int :=
 match Ieee.double.read b with
 | .number s m e =>
  let N := (m * 2 ^ e.toNat) / 2 ^ (-e).toNat
  if m * 2 ^ e.toNat = N * 2 ^ (-e).toNat then some (if s then -(N : Int) else N) else none
 | _ => none
def ofConst : Value → Option AV
 | .int k n => some (.int k n)
 | .bool b => some (.bool b)
 | .string s => some (.str s.data.toList)
 | .float .f64 b => (j9e b).map .flt
 | .complex .f64 a b => match j9e a, j9e b with
  | some x, some y => some (.cpx x y)
  | _, _ => none
 | .pointer none => some .nilP
 | .slice none 0 0 => some .nilS
 | .nilFunc => some .nilF
 | .nilIface => some .nilI
 | _ => none
def ev (T : Nat → AV) : Operand → Option AV
 | .tmp t => some (T t)
 | .const v => ofConst v
 | .global _ => none
 | .func f => some (.fn f [] [])
def evs (T : Nat → AV) : List Operand → Option (List AV)
 | [] => some []
 | x :: xs => match ev T x, evs T xs with
  | some v, some vs => some (v :: vs)
  | _, _ => none
def q4a (n : Int) : Bool := decide (-9007199254740992 ≤ n) && decide (n ≤ 9007199254740992)
def z4i (op : BinOp) (k : IntKind) (x y : Int) : Int :=
 match op with
 | .and => k.wrap ((BitVec.ofInt k.bits x &&& BitVec.ofInt k.bits y).toNat : Int)
 | .or => k.wrap ((BitVec.ofInt k.bits x ||| BitVec.ofInt k.bits y).toNat : Int)
 | .xor => k.wrap ((BitVec.ofInt k.bits x ^^^ BitVec.ofInt k.bits y).toNat : Int)
 | _ => k.wrap ((BitVec.ofInt k.bits x &&& ~~~BitVec.ofInt k.bits y).toNat : Int)
def intBin (op : BinOp) (k : IntKind) (a b : Int) : Option AV :=
 match op with
 | .add => some (.int k (k.wrap (a + b)))
 | .sub => some (.int k (k.wrap (a - b)))
 | .mul => some (.int k (k.wrap (a * b)))
 | .quo => if b = 0 then none else some (.int k (k.wrap (a.tdiv b)))
 | .rem => if b = 0 then none else some (.int k (a.tmod b))
 | .eql => some (.bool (a == b))
 | .neq => some (.bool (a != b))
 | .lss => some (.bool (decide (a < b)))
 | .leq => some (.bool (decide (a ≤ b)))
 | .gtr => some (.bool (decide (b < a)))
 | .geq => some (.bool (decide (b ≤ a)))
 | .and => some (.int k (z4i .and k a b))
 | .or => some (.int k (z4i .or k a b))
 | .xor => some (.int k (z4i .xor k a b))
 | .andNot => some (.int k (z4i .andNot k a b))
 | _ => none
def z9f (op : BinOp) (k : IntKind) (a b : Int) : Option AV :=
 if b < 0 then none else
 match op with
 | .shl => some (.int k (k.wrap (a * 2 ^ min b.toNat k.bits)))
 | .shr => some (.int k (a.fdiv (2 ^ min b.toNat k.bits)))
 | _ => none
def x6z : Bytes → Bytes → Bool := Op.bytesLess
def strBin (op : BinOp) (x y : Bytes) : Option AV :=
 match op with
 | .add => if x.length + y.length ≤ 9223372036854775807 then some (.str (x ++ y)) else none
 | .eql => some (.bool (x == y))
 | .neq => some (.bool (x != y))
 | .lss => some (.bool (x6z x y))
 | .leq => some (.bool (x6z x y || x == y))
 | .gtr => some (.bool (!(x6z x y || x == y)))
 | .geq => some (.bool (!x6z x y))
 | _ => none
def q9j (op : BinOp) (a b c d : Int) : Option AV :=
 match op with
 | .add => if q4a (a + c) && q4a (b + d) then some (.cpx (a + c) (b + d)) else none
 | .sub => if q4a (a - c) && q4a (b - d) then some (.cpx (a - c) (b - d)) else none
 | .mul => if (q4a (a * c) && q4a (b * d) && q4a (a * c - b * d)) && (q4a (a * d) && q4a (b * c) && q4a (a * d + b * c)) then some (.cpx (a * c - b * d) (a * d + b * c)) else none
 | _ => none
def cellsEq : List CK → List AV → List AV → Option Bool
 | [], [], [] => some true
 | .int k :: ks, .int k1 a :: x, .int k2 b :: y => if k1 = k ∧ k2 = k then (cellsEq ks x y).map ((a == b) && ·) else none
 | .bool :: ks, .bool a :: x, .bool b :: y => (cellsEq ks x y).map ((a == b) && ·)
 | .str :: ks, .str a :: x, .str b :: y => (cellsEq ks x y).map ((a == b) && ·)
 | _, _, _ => none
def z1o : AV → Option Bool
 | .nilS => some true
 | .vec .. | .emp | .slc .. => some false
 | _ => none
def z1p : AV → Option Bool
 | .nilP => some true
 | .ptr .. | .vptr .. => some false
 | _ => none
def z1q : AV → Option Bool
 | .nilF => some true
 | .fn .. | .yld _ => some false
 | _ => none
def eqv (C : Ctx) (t : TypeId) (x y : AV) : Option Bool :=
 match C.TT t with
 | none => none
 | some i =>
  match i.kind, x, y with
  | .bool, .bool a, .bool b => some (a == b)
  | .struct _, .agg xs, .agg ys | .array _ _, .agg xs, .agg ys =>
   match i.eqk with
   | some ks => cellsEq ks xs ys
   | none => none
  | .ptr, x, .nilP => z1p x
  | .ptr, .nilP, y => z1p y
  | .slice _, x, .nilS => z1o x
  | .slice _, .nilS, y => z1o y
  | .func, x, .nilF => z1q x
  | .func, .nilF, y => z1q y
  | _, _, _ => none
def bin (C : Ctx) (op : BinOp) (t : TypeId) (x y : AV) : Option AV :=
 match x, y with
 | .int k a, .int k' b =>
  match op with
  | .shl | .shr => z9f op k a b
  | _ => if k = k' then intBin op k a b else none
 | .str a, .str b => strBin op a b
 | .cpx a b, .cpx c d => q9j op a b c d
 | x, y =>
  match op with
  | .eql => (eqv C t x y).map .bool
  | .neq => (eqv C t x y).map fun r => .bool (!r)
  | _ => none
def un (op : UnOp) (x : AV) : Option AV :=
 match op, x with
 | .neg, .int k n => some (.int k (k.wrap (0 - n)))
 | .not, .bool b => some (.bool !b)
 | .xor, .int k n => some (.int k (z4i .xor k (if k.signed then -1 else k.max) n))
 | _, _ => none
def elems (H : AHeap) (k : Nat) : AV → Option (List (List AV))
 | .nilS | .emp => some []
 | .vec k' es => if k' = k then some es else none
 | .slc b k' i n =>
  match H.at_ b with
  | .cells _ k'' es => if k' = k ∧ k'' = k ∧ i + n ≤ es.length then some ((es.drop i).take n) else none
  | _ => none
 | _ => none
def lenOf : AV → Option Nat
 | .nilS | .emp => some 0
 | .vec _ es => some es.length
 | .slc _ _ _ n => some n
 | _ => none
def byteOf : List AV → Option UInt8
 | [.int .u8 n] => some (UInt8.ofNat n.toNat)
 | _ => none
def bytesOf : List (List AV) → Option Bytes
 | [] => some []
 | e :: es => match byteOf e, bytesOf es with
  | some b, some bs => some (b :: bs)
  | _, _ => none
def q0v (s : Bytes) : List (List AV) := s.map fun b => [.int .u8 b.toNat]
def part (i : TI) (cs : List AV) (off : Nat) : Option AV :=
 if i.kind.isAgg then
  if off + i.size ≤ cs.length then some (.agg ((cs.drop off).take i.size)) else none
 else cs[off]?
def loadA (C : Ctx) (H : AHeap) (t : TypeId) (p : AV) : Option AV :=
 match C.TT t with
 | none => none
 | some ti =>
  match p with
  | .ptr b k i j =>
   match H.at_ b with
   | .cells _ k' es => if k = k' then match es[i]? with
    | some e => part ti e j
    | none => none
    else none
   | _ => none
  | .vptr _ es i j => match es[i]? with
   | some e => part ti e j
   | none => none
  | _ => none
def splice (cs : List AV) (off : Nat) (new : List AV) : List AV := cs.take off ++ new ++ cs.drop (off + new.length)
def storeA (C : Ctx) (H : AHeap) (t : TypeId) (p v : AV) : Option AHeap :=
 match C.TT t with
 | none => none
 | some ti =>
  match p with
  | .ptr b k i j =>
   match H.at_ b with
   | .cells te k' es => if k = k' then match es[i]? with
    | some e => if v.plain ∧ v.cells.length = ti.size ∧ j + ti.size ≤ e.length then some (H.set b (.cells te k (es.set i (splice e j v.cells)))) else none
    | none => none
    else none
   | _ => none
  | _ => none
def fillA (place : Nat → Option (Nat × Nat)) (cells : List AV) : List (Nat × AV) → Option (List AV)
 | [] => some cells
 | (i, v) :: rest =>
  match place i with
  | none => none
  | some (off, size) =>
   if v.plain ∧ v.cells.length = size ∧ off + size ≤ cells.length then fillA place (splice cells off v.cells) rest else none
def sizeT (C : Ctx) (t : TypeId) : Option Nat := (C.TT t).map (·.size)
def buildA (C : Ctx) (t : TypeId) (parts : List (Nat × AV)) : Option AV :=
 match C.TT t with
 | none => none
 | some ti =>
  match ti.kind with
  | .struct fields => (fillA (fun i => (fields[i]?).bind fun f => (sizeT C f.1).map fun s => (f.2, s)) ti.zero parts).map .agg
  | .array _ elem => match sizeT C elem with
   | some s => (fillA (fun i => some (i * s, s)) ti.zero parts).map .agg
   | none => none
  | _ => none
def chunk (k : Nat) : Nat → List AV → List (List AV)
 | 0, _ => []
 | n + 1, cs => cs.take k :: chunk k n (cs.drop k)
def parts_ (T : Nat → AV) : List (Nat × Operand) → Option (List (Nat × AV))
 | [] => some []
 | (i, x) :: rest => match ev T x, parts_ T rest with
  | some v, some vs => some ((i, v) :: vs)
  | _, _ => none
def z3h (v : AV) (q2m : Nat) : Option Nat :=
 match v with
 | .int _ n => if 0 ≤ n ∧ n ≤ q2m then some n.toNat else none
 | _ => none
def j4t (lo hi : Option AV) (n : Nat) : Option (Nat × Nat) :=
 match (match hi with | some h => z3h h n | none => some n) with
 | none => none
 | some h => match (match lo with | some l => z3h l h | none => some 0) with
  | none => none
  | some l => some (l, h)
def q4r (C : Ctx) (t : TypeId) (x : AV) (lo hi mx : Option AV) : Option AV :=
 match C.TT t, mx with
 | some { kind := .str, .. }, none => match x with
  | .str s => (j4t lo hi s.length).map fun p => .str ((s.take p.2).drop p.1)
  | _ => none
 | some { kind := .slice elem, .. }, none => match x with
  | .vec k es => if sizeT C elem = some k then (j4t lo hi es.length).map fun p => .vec k ((es.take p.2).drop p.1) else none
  | .slc b k i n => if sizeT C elem = some k then (j4t lo hi n).map fun p => .slc b k (i + p.1) (p.2 - p.1) else none
  | .nilS => (j4t lo hi 0).map fun _ => .nilS
  | .emp => (j4t lo hi 0).map fun _ => .emp
  | _ => none
 | some { kind := .slice _, .. }, some (.int _ 0) => match lo, hi with
  | none, some (.int _ 0) => match x with
   | .nilS => some .nilS
   | .vec .. | .emp | .slc .. => some .emp
   | _ => none
  | _, _ => none
 | _, _ => none
def indexAddrA (C : Ctx) (t : TypeId) (x ix : AV) : Option AV :=
 match C.TT t, ix with
 | some { kind := .slice elem, .. }, .int _ n => match x with
  | .slc b k i m => if sizeT C elem = some k ∧ 0 ≤ n ∧ n < m then some (.ptr b k (i + n.toNat) 0) else none
  | .vec k es => if sizeT C elem = some k ∧ 0 ≤ n ∧ n < es.length then some (.vptr k es n.toNat 0) else none
  | _ => none
 | some { kind := .array len elem, .. }, .int _ n => match x, sizeT C elem with
  | .ptr b k i j, some s => if 0 ≤ n ∧ n < len then some (.ptr b k i (j + n.toNat * s)) else none
  | _, _ => none
 | _, _ => none
def q0n (C : Ctx) (t : TypeId) (x ix : AV) : Option AV :=
 match C.TT t, x, ix with
 | some { kind := .str, .. }, .str s, .int _ n => if 0 ≤ n then (s[n.toNat]?).map fun b => .int .u8 b.toNat else none
 | some { kind := .array len elem, .. }, .agg cs, .int _ n => match C.TT elem with
  | some te => if 0 ≤ n ∧ n < len then part te cs (n.toNat * te.size) else none
  | none => none
 | _, _, _ => none
def fieldOf (C : Ctx) (t : TypeId) (f : Nat) : Option (TypeId × Nat) :=
 match C.TT t with
 | some { kind := .struct fields, .. } => fields[f]?
 | _ => none
def convA (C : Ctx) (H : AHeap) (src dst : TypeId) (x : AV) : Option AV :=
 match C.TT src, C.TT dst with
 | some s, some d =>
  match s.kind, d.kind, x with
  | .int _, .int k, .int _ n => some (.int k (k.wrap n))
  | .int _, .flt, .int _ n => if q4a n then some (.flt n) else none
  | .flt, .int k, .flt n => if k.min ≤ n ∧ n ≤ k.max then some (.int k n) else none
  | .str, .str, .str b => some (.str b)
  | .slice el, .str, x => match C.TT el, elems H 1 x with
   | some { kind := .int .u8, .. }, some es => (bytesOf es).map .str
   | _, _ => none
  | _, _, _ => none
 | _, _ => none
def q2m : Nat := 2 ^ 47
def q3a (H : AHeap) (k : Nat) (s : AV) : Option (List (List AV)) :=
 match s with
 | .str b => if k = 1 then some (q0v b) else none
 | s => elems H k s
def q2c (C : Ctx) (H : AHeap) (t : TypeId) (d s : AV) : Option (AV × AHeap) :=
 match C.TT t with
 | some { kind := .slice elem, .. } =>
  match C.TT elem with
  | none => none
  | some te =>
   match q3a H te.size s with
   | none => none
   | some new =>
    match d with
    | .nilS | .emp =>
     if new = [] then some (d, H)
     else if new.length * te.bytes ≤ q2m ∧ new.length ≤ q2m then some (.slc H.next te.size 0 new.length, H.push (.cells elem te.size new)) else none
    | .slc b k 0 n =>
     match H.at_ b with
     | .cells t' k' es =>
      if k = te.size ∧ k' = te.size ∧ t' = elem ∧ n ≤ es.length ∧ (n + new.length) * te.bytes ≤ q2m ∧ n + new.length ≤ q2m then
       if new = [] then some (d, H)
       else some (.slc H.next te.size 0 (n + new.length), (H.set b .dead).push (.cells elem te.size (es.take n ++ new)))
      else none
     | _ => none
    | _ => none
 | _ => none
def q9p (C : Ctx) (H : AHeap) (t : TypeId) (d s : AV) : Option (AV × AHeap) :=
 match C.TT t, d, s with
 | some { kind := .slice elem, .. }, .nilS, .int _ n =>
  match C.TT elem with
  | some te => if 0 < n ∧ n * te.bytes ≤ (q2m : Int) ∧ n ≤ (q2m : Int) then some (.slc H.next te.size 0 n.toNat, H.push (.cells elem te.size (List.replicate n.toNat te.zero))) else none
  | none => none
 | _, _, _ => none
def x1g (C : Ctx) (H : AHeap) (t : TypeId) (d s : AV) : Option (AV × AHeap) :=
 match C.TT t with
 | some { kind := .slice elem, .. } =>
  match C.TT elem with
  | none => none
  | some te =>
   match d, q3a H te.size s with
   | .slc b k i n, some new =>
    match H.at_ b with
    | .cells t' k' es =>
     if k = te.size ∧ k' = te.size ∧ i + n ≤ es.length then
      let m := min new.length n
      some (i64 m, H.set b (.cells t' k (es.take i ++ new.take m ++ es.drop (i + m))))
     else none
    | _ => none
   | .nilS, some _ => some (i64 0, H)
   | _, _ => none
 | _ => none
def x7a (k : IntKind) (a : Int) : List AV → Option Int
 | [] => some a
 | .int k' b :: rest => if k = k' then x7a k (if b < a then b else a) rest else none
 | _ => none
def y0m (k : IntKind) (a : Int) : List AV → Option Int
 | [] => some a
 | .int k' b :: rest => if k = k' then y0m k (if a < b then b else a) rest else none
 | _ => none
def builtinP (C : Ctx) (b : Builtin) (ts : List TypeId) (args : List AV) : Option AV :=
 match b, ts, args with
 | .len, t :: _, [x] => match C.TT t with
  | some { kind := .str, .. } => match x with
   | .str s => some (i64 s.length)
   | _ => none
  | some { kind := .slice _, .. } => (lenOf x).map fun (m : Nat) => i64 (m : Int)
  | _ => none
 | .cap, t :: _, [.nilS] => match C.TT t with
  | some { kind := .slice _, .. } => some (i64 0)
  | _ => none
 | .min, _, .int k a :: rest => (x7a k a rest).map fun n => .int k n
 | .max, _, .int k a :: rest => (y0m k a rest).map fun n => .int k n
 | .real, _, [.cpx a _] => some (.flt a)
 | .imag, _, [.cpx _ b] => some (.flt b)
 | .complex, _, [.flt a, .flt b] => some (.cpx a b)
 | _, _, _ => none
def q1n (C : Ctx) (H : AHeap) (b : Builtin) (ts : List TypeId) (args : List AV) : Option (AV × AHeap) :=
 match b, ts, args with
 | .append, [t, t'], [d, s] => match C.TT t' with
  | some { kind := .int _, .. } => q9p C H t d s
  | some _ => q2c C H t d s
  | none => none
 | .copy, [t, _], [d, s] => x1g C H t d s
 | _, _, _ => none
def inertB : Builtin → Bool
 | .append | .copy => false
 | _ => true
def builtinA (C : Ctx) (H : AHeap) (b : Builtin) (ts : List TypeId) (args : List AV) : Option (AV × AHeap) :=
 if inertB b then (builtinP C b ts args).map (·, H) else q1n C H b ts args
def evo (T : Nat → AV) : Option Operand → Option (Option AV)
 | none => some none
 | some x => match ev T x with
  | some v => some (some v)
  | none => none
def primP (C : Ctx) (T : Nat → AV) : Op → Option AV
 | .move x | .assign x => ev T x
 | .pick c a b => match ev T c, ev T a, ev T b with
  | some (.bool t), some x, some y => some (if t then x else y)
  | _, _, _ => none
 | .build t parts => match parts_ T parts.toList with
  | some ps => buildA C t ps
  | none => none
 | .nilCheck x => match ev T x with
  | some (.ptr b k i j) => some (.ptr b k i j)
  | some (.vptr k es i j) => some (.vptr k es i j)
  | some (.fn f a c) => some (.fn f a c)
  | some (.yld l) => some (.yld l)
  | _ => none
 | .binOp op t x y _ => match ev T x, ev T y with
  | some a, some b => bin C op t a b
  | _, _ => none
 | .unOp op _ x => match ev T x with
  | some a => un op a
  | none => none
 | .makeFunc (.func f) first caps => match evs T first.toList, evs T caps.toList with
  | some a, some c => some (.fn f a c)
  | _, _ => none
 | .slice t x lo hi mx => match ev T x, evo T lo, evo T hi, evo T mx with
  | some v, some l, some h, some m => q4r C t v l h m
  | _, _, _, _ => none
 | .fieldAddr s x f => match ev T x, fieldOf C s f with
  | some (.ptr b k i j), some (_, off) => some (.ptr b k i (j + off))
  | some (.vptr k es i j), some (_, off) => some (.vptr k es i (j + off))
  | _, _ => none
 | .field t x f => match ev T x, fieldOf C t f with
  | some (.agg cs), some (tf, off) => match C.TT tf with
   | some ti => part ti cs off
   | none => none
  | _, _ => none
 | .indexAddr t x ix => match ev T x, ev T ix with
  | some v, some n => indexAddrA C t v n
  | _, _ => none
 | .index t x ix => match ev T x, ev T ix with
  | some v, some n => q0n C t v n
  | _, _ => none
 | .extract x i => match ev T x with
  | some (.tuple vs) => vs[i]?
  | _ => none
 | _ => none
def z2j (P : Program) (t : TypeId) : Bool :=
 match P.underlying t with
 | some (.map k _) => match P.underlying k with
  | some .string => true
  | _ => false
 | _ => false
def j4q : List (Bytes × Bytes) → Bytes → Option Bytes
 | [], _ => none
 | p :: es, k => if k == p.1 then some p.2 else j4q es k
def primM (C : Ctx) (T : Nat → AV) (H : AHeap) : Op → Option (AV × AHeap)
 | .alloc t => match C.TT t with
  | some ti => some (.ptr H.next ti.size 0 0, H.push (.cells t ti.size [ti.zero]))
  | none => none
 | .box t x => match C.TT t, ev T x with
  | some ti, some v => if v.plain ∧ v.cells.length = ti.size then some (.ptr H.next ti.size 0 0, H.push (.cells t ti.size [v.cells])) else none
  | _, _ => none
 | .buildSlice t len parts => match C.TT t, parts_ T parts.toList with
  | some { kind := .slice elem, .. }, some ps => match C.TT elem with
   | some te =>
    if len * te.size ≤ 16777216 then
     match fillA (fun i => some (i * te.size, te.size)) (List.replicate len te.zero).flatten ps with
     | some cells => some (.slc H.next te.size 0 len, H.push (.cells elem te.size (chunk te.size len cells)))
     | none => none
    else none
   | none => none
  | _, _ => none
 | .load t a => match ev T a with
  | some p => (loadA C H t p).map (·, H)
  | none => none
 | .store t a x => match ev T a, ev T x with
  | some p, some v => (storeA C H t p v).map (.undef, ·)
  | _, _ => none
 | .convert s d x => match ev T x with
  | some a => (convA C H s d a).map (·, H)
  | none => none
 | .makeSlice t l c => match C.TT t, ev T l, ev T c with
  | some { kind := .slice elem, .. }, some (.int _ n), some (.int _ m) => match C.TT elem with
   | some te => if 0 ≤ n ∧ n ≤ m ∧ m * te.bytes ≤ (q2m : Int) ∧ m ≤ (q2m : Int) then some (.slc H.next te.size 0 n.toNat, H.push (.cells elem te.size (List.replicate n.toNat te.zero))) else none
   | none => none
  | _, _, _ => none
 | .range t x => match C.TT t, ev T x with
  | some { kind := .str, .. }, some (.str s) => some (.ptr H.next 0 0 0, H.push (.iter s 0))
  | _, _ => none
 | .next it true => match ev T it with
  | some (.ptr b _ 0 0) => match H.at_ b with
   | .iter s pos =>
    if pos < s.length then
     some (.tuple [.bool true, i64 pos, .int .i32 (Utf8.decode ⟨s.toArray⟩ pos).1], H.set b (.iter s (pos + (Utf8.decode ⟨s.toArray⟩ pos).2)))
    else some (.tuple [.bool false], H)
   | _ => none
  | _ => none
 | .makeMap t none => if z2j C.P t then some (.mpp H.next, H.push (.mp [])) else none
 | .insert t m k x => match ev T m, ev T k, ev T x with
  | some (.mpp b), some (.str kk), some (.str v) => match H.at_ b with
   | .mp es => if z2j C.P t ∧ j4q es kk = none then some (.undef, H.set b (.mp (es ++ [(kk, v)]))) else none
   | _ => none
  | _, _, _ => none
 | .lookup t m k false => match ev T m, ev T k with
  | some (.mpp b), some (.str kk) => match H.at_ b with
   | .mp es => if z2j C.P t then (j4q es kk).map fun v => (.str v, H) else none
   | _ => none
  | _, _ => none
 | _ => none
inductive Cls where
 | inert | reader | writer
 deriving DecidableEq
def cls (pure : FuncId → Bool) : Op → Cls
 | .move _ | .assign _ | .pick .. | .build .. | .nilCheck _ | .binOp .. | .unOp .. | .makeFunc .. | .slice .. | .fieldAddr .. | .field .. | .indexAddr .. | .index .. | .extract .. => .inert
 | .alloc _ | .box .. | .buildSlice .. | .load .. | .convert .. | .makeSlice .. | .range .. => .reader
 | .call { callee := .builtin b, .. } => if inertB b then .inert else .writer
 | .call { callee := .value (.func f), .. } => if pure f then .reader else .writer
 | _ => .writer
def q1c : Op → Bool
 | .move _ | .assign _ | .pick .. | .build .. | .nilCheck _ | .binOp .. | .unOp .. | .makeFunc .. | .slice .. | .fieldAddr .. | .field .. | .indexAddr .. | .index .. | .extract .. => true
 | _ => false
def q7f (C : Ctx) (T : Nat → AV) (H : AHeap) (op : Op) : Option (AV × AHeap) :=
 if q1c op then (primP C T op).map (·, H) else primM C T H op
def q3t {α β : Type} (f : α → Option β) : List α → Option (List β)
 | [] => some []
 | x :: xs => match f x, q3t f xs with
  | some y, some ys => some (y :: ys)
  | _, _ => none
def q1h (H : AHeap) : Nat → AV → Option AV
 | d + 1, .slc b k i n => match elems H k (.slc b k i n) with
  | some es => (q3t (q3t (q1h H d)) es).map (.vec k)
  | none => none
 | _, v => if v.flat1 then some v else none
def q2s (H : AHeap) : AV → Option AV
 | .agg cs => (q3t (q1h H 4) cs).map .agg
 | .fn f first caps => if (AV.fn f first caps).flat2 then some (.fn f first caps) else none
 | v => q1h H 4 v
def freeze (H : AHeap) : AV → Option AV
 | .tuple vs => (q3t (q2s H) vs).map .tuple
 | v => q2s H v
inductive AItem where
 | code (c : AC)
 | inBlock (id : Nat)
 | inLoop (body : AC)
 | inScope (body : AC)
 | beginRound
def z4j (id : Nat) : List AItem → Option (List AItem)
 | .inBlock id' :: k => if id' == id then some k else z4j id k
 | _ :: k => z4j id k
 | [] => none
def z0l : AC → Nat → Option AC
 | .seq a b, l => match z0l a l with
  | some rest => some (.seq rest b)
  | none => z0l b l
 | .label l', l => if l' == l then some .skip else none
 | _, _ => none
def z1r (l : Nat) : List AItem → Option (List AItem)
 | .inScope body :: k => match z0l body l with
  | some rest => some (.code rest :: .inScope body :: k)
  | none => z1r l k
 | _ :: k => z1r l k
 | [] => none
structure AFr where
 fn : FuncId
 T : Nat → AV
 defers : List ADef
 round : Option Nat
structure Cl where
 call : FuncId → List AV → AHeap → Option (AV × AHeap)
 round : Nat → List AV → AHeap → Option (AV × AHeap)
def x7b (H : AHeap) (a : AV) : Option AV :=
 if a.solid2 then some a else
 match a with
 | .slc b k i n => match elems H k (.slc b k i n) with
  | some es => if es.all (fun e => e.all AV.solid1) then some (.vec k es) else none
  | none => none
 | _ => none
def y3g (H : AHeap) : AV → Option AV
 | .tuple vs => (q3t (x7b H) vs).map .tuple
 | v => x7b H v
def q4i (C : Ctx) (cl : Cl) (f : FuncId) (args : List AV) (H : AHeap) : Option (AV × AHeap) :=
 if C.pure f then
  if args.all AV.flat then match cl.call f args AHeap.empty with
   | some (r, H') => (freeze H' r).map (·, H)
   | none => none
  else match q3t (freeze H) args with
   | some args' => match cl.call f args' AHeap.empty with
    | some (r, H') => match freeze H' r with
     | some r' => if r'.solid then some (r', H) else (y3g H' r).map (·, H)
     | none => none
    | none => none
   | none => none
 else cl.call f args H
def z9g (C : Ctx) (cl : Cl) (v : AV) (args : List AV) (H : AHeap) : Option (AV × AHeap) :=
 match v with
 | .fn f first caps => q4i C cl f (first ++ args ++ caps) H
 | .yld l => cl.round l args H
 | _ => none
def q7k (C : Ctx) (cl : Cl) (T : Nat → AV) (H : AHeap) (c : Call) : Option (AV × AHeap) :=
 match evs T c.args.toList with
 | none => none
 | some args => match c.callee with
  | .builtin b => builtinA C H b c.argTypes.toList args
  | .invoke .. => none
  | .value x => match ev T x with
   | some v => z9g C cl v args H
   | none => none
def putA (T : Nat → AV) (dst : Option Nat) (v : AV) : Nat → AV :=
 match dst with
 | some d => upd T d v
 | none => T
def q4o (T : Nat → AV) : Option (Nat × Bool) → Option Bool
 | none => some true
 | some (j, want) => match T j with
  | .bool b => some (b == want)
  | .any => none
  | _ => some false
def q1l (C : Ctx) (cl : Cl) (inRound : Bool) (T : Nat → AV) (ds : List ADef) (H : AHeap) (op : Op) : Option (AV × List ADef × AHeap) :=
 match op with
 | .call c => match q7k C cl T H c with
  | some (v, H') => some (v, ds, H')
  | none => none
 | .defer c =>
  if inRound then none else
  match c.callee, evs T c.args.toList with
  | .value x, some args => match ev T x with
   | some (.fn f first caps) => some (.undef, .call (.fn f first caps) args :: ds, H)
   | _ => none
  | _, _ => none
 | op => match q7f C T H op with
  | some (v, H') => some (v, ds, H')
  | none => none
def q3f (C : Ctx) (cl : Cl) (inRound : Bool) (o : AO) (T : Nat → AV) (ds : List ADef) (H : AHeap) : Option (AV × List ADef × AHeap) :=
 match q4o T o.guard with
 | some true => q1l C cl inRound T ds H o.op
 | some false => some (.undef, ds, H)
 | none => none
def q1z (C : Ctx) (cl : Cl) (inRound : Bool) : List AO → (Nat → AV) → List ADef → AHeap → Option ((Nat → AV) × List ADef × AHeap)
 | [], T, ds, H => some (T, ds, H)
 | o :: rest, T, ds, H => match q3f C cl inRound o T ds H with
  | some (v, ds', H') => q1z C cl inRound rest (putA T o.dst v) ds' H'
  | none => none
def ldT : Op → Option Nat
 | .load _ (.tmp t) => some t
 | _ => none
def fwT : Op → Option Nat
 | .store _ (.tmp t) _ => some t
 | .call { callee := .builtin .append, args := args, .. } => match args.toList with
  | .tmp t :: _ => some t
  | _ => none
 | _ => none
def adT (op : Op) : Option Nat :=
 match ldT op with
 | some t => some t
 | none => fwT op
def j9f (C : Ctx) (cl : Cl) (inRound : Bool) : List AO → List (List Nat) → (Nat → AV) → List ADef → AHeap → Bool
 | _, [], _, _, _ => true
 | [], _ :: _, _, _, _ => true
 | o :: os, c :: cs, T, ds, H =>
  (c.all fun t => match adT o.op with
   | some t' => z0k (T t) (T t')
   | none => false) &&
  match q3f C cl inRound o T ds H with
  | some (v, ds', H') => j9f C cl inRound os cs (putA T o.dst v) ds' H'
  | none => false
def q1g (args : List AV) : Nat → AV := fun t => (args[t]?).getD .undef
def q1i (C : Ctx) (cl : Cl) : List ADef → AHeap → Option AHeap
 | [], H => some H
 | .collected b :: ds, H => match H.at_ b with
  | .dfr => q1i C cl ds (H.set b .dead)
  | _ => none
 | .call (.fn f first caps) args :: ds, H =>
  if (C.ext f).isSome then none else
  match cl.call f (first ++ args ++ caps) H with
  | some (_, H') => q1i C cl ds H'
  | none => none
 | .call _ _ :: _, _ => none
def resultsA (C : Ctx) (T : Nat → AV) (H : AHeap) : List ResultVar → Option (List AV)
 | [] => some []
 | .tmp t :: rs => (resultsA C T H rs).map (T t :: ·)
 | .cell a t :: rs => match loadA C H t (T a), resultsA C T H rs with
  | some v, some vs => some (v :: vs)
  | _, _ => none
def oneOf : List AV → AV
 | [v] => v
 | vs => .tuple vs
def z9h (T : Nat → AV) : List Nat → List AV → Nat → AV
 | p :: ps, v :: vs => z9h (upd T p v) ps vs
 | _, _ => T
def z7p : Option AC → Bool
 | none | some .ret => true
 | _ => false
def q5q : Option AC → Bool
 | none | some .ret | some (.exit _) | some (.goto _) => true
 | _ => false
def q5b (C : Ctx) (cl : Cl) (fr : AFr) (jump : Option AC) (H : AHeap) : Option (AV × AHeap) :=
 match fr.round with
 | none =>
  if z7p jump then
   match q1i C cl fr.defers H with
   | some H' => match C.FT fr.fn with
    | some fi => (resultsA C fr.T H' fi.results).map fun vs => (oneOf vs, H')
    | none => none
   | none => none
  else none
 | some l => match H.at_ l with
  | .loop L => some (.bool jump.isNone, H.set l (.loop { L with state := if jump.isNone then .ready else .done, pending := jump }))
  | _ => none
def q9d (C : Ctx) (ex : AFr → List AItem → AHeap → Option (AV × AHeap)) : Cl := {
 call := fun f args H => match C.ext f with
  | some g => g args H
  | none => match C.FT f with
   | some fi => ex { fn := f, T := q1g args, defers := [], round := none } [.code fi.body] H
   | none => none
 round := fun l args H => match H.at_ l with
  | .loop L =>
   if args.length = L.params.length then
    ex { fn := L.fn, T := z9h L.T L.params args, defers := [], round := some l } [.code L.assign, .beginRound, .code L.body] H
   else none
  | _ => none }
def q6i (fr : AFr) (params : List Nat) (assign body : AC) (H : AHeap) : Option (Nat × List ADef × AHeap) :=
 match fr.round with
 | none =>
  let H1 := H.push .dfr
  some (H1.next, [ADef.collected H.next], H1.push (.loop { state := .ready, pending := none, fn := fr.fn, T := fr.T, params := params, assign := assign, body := body, defers := H.next }))
 | some l => match H.at_ l with
  | .loop L => some (H.next, [], H.push (.loop { state := .ready, pending := none, fn := fr.fn, T := fr.T, params := params, assign := assign, body := body, defers := L.defers }))
  | _ => none
def q9q (C : Ctx) (ex : AFr → List AItem → AHeap → Option (AV × AHeap)) (fr : AFr) (items : List AItem) (H : AHeap) : Option (AV × AHeap) :=
 match items with
 | [] => q5b C (q9d C ex) fr none H
 | .inBlock _ :: k => ex fr k H
 | .inScope _ :: k => ex fr k H
 | .inLoop body :: k => ex fr (.code body :: .inLoop body :: k) H
 | .beginRound :: k => match fr.round with
  | some l => match H.at_ l with
   | .loop L => if L.state = .ready then ex fr k (H.set l (.loop { L with state := .busy })) else none
   | _ => none
  | none => none
 | .code .skip :: k => ex fr k H
 | .code (.label _) :: k => ex fr k H
 | .code (.region ops chk) :: k => match q1z C (q9d C ex) fr.round.isSome ops fr.T fr.defers H with
  | some (T, ds, H') => if j9f C (q9d C ex) fr.round.isSome ops chk fr.T fr.defers H then ex { fr with T := T, defers := ds } k H' else none
  | none => none
 | .code (.seq a b) :: k => ex fr (.code a :: .code b :: k) H
 | .code (.cond c a b) :: k => match ev fr.T c with
  | some (.bool t) => ex fr (.code (if t then a else b) :: k) H
  | _ => none
 | .code (.block id body) :: k => ex fr (.code body :: .inBlock id :: k) H
 | .code (.loop body) :: k => ex fr (.code body :: .inLoop body :: k) H
 | .code (.scope body) :: k => ex fr (.code body :: .inScope body :: k) H
 | .code (.exit id) :: k => match z4j id k with
  | some k' => ex fr k' H
  | none => q5b C (q9d C ex) fr (some (.exit id)) H
 | .code (.goto l) :: k => match z1r l k with
  | some k' => ex fr k' H
  | none => q5b C (q9d C ex) fr (some (.goto l)) H
 | .code .ret :: _ => q5b C (q9d C ex) fr (some .ret) H
 | .code .refuse :: _ => none
 | .code (.rangeFunc f params assign body) :: k =>
  match ev fr.T f, q6i fr params assign body H with
  | some (.fn g first caps), some (l, mark, H2) =>
   match q4i C (q9d C ex) g (first ++ [.yld l] ++ caps) H2 with
   | none => none
   | some (_, H3) => match H3.at_ l with
    | .loop L =>
     if L.state = .busy ∨ q5q L.pending = false then none else
     ex { fr with defers := mark ++ fr.defers } ((L.pending.map AItem.code).toList ++ k) (H3.set l (.loop { L with state := .exhausted }))
    | _ => none
  | _, _ => none
def exec (C : Ctx) : Nat → AFr → List AItem → AHeap → Option (AV × AHeap)
 | 0 => fun _ _ _ => none
 | n + 1 => q9q C (exec C n)
def y8k (C : Ctx) (n : Nat) : Cl := q9d C (exec C n)
def z7c (C : Ctx) (n : Nat) (f : FuncId) (args : List AV) : Option AV :=
 match (y8k C n).call f args AHeap.empty with
 | some (r, H') => freeze H' r
 | none => none
end Go.BX
namespace Go.BX.Flt
open Ieee Go
def MagIs (m : Nat) (e : Int) (N : Nat) : Prop := m * 2 ^ e.toNat = N * 2 ^ (-e).toNat
def IsInt (d : Datum) (n : Int) : Prop := ∃ s m e N, d = .number s m e ∧ MagIs m e N ∧ n = if s then -(N : Int) else N
theorem MagIs.zero_iff {m : Nat} {e : Int} {N : Nat} (h : MagIs m e N) : m = 0 ↔ N = 0 := by
 unfold MagIs at h
 have h1 : 0 < 2 ^ e.toNat := Nat.two_pow_pos _
 have h2 : 0 < 2 ^ (-e).toNat := Nat.two_pow_pos _
 constructor
 ·intro hm
  rw [hm, Nat.zero_mul] at h
  exact (Nat.mul_eq_zero.mp h.symm).resolve_right (by omega)
 ·intro hn
  rw [hn, Nat.zero_mul] at h
  exact (Nat.mul_eq_zero.mp h).resolve_right (by omega)
theorem j1d (neg : Bool) (n d : Nat) (hd : d ≤ n.log2 + 2) (x1f : 2 ^ d ∣ n) :
  Toward.even.cut neg n d = n / 2 ^ d := by
 have hg : (1 <<< min d (n.log2 + 2)) = 2 ^ d := by
  rw [Nat.min_eq_left hd, Nat.shiftLeft_eq, Nat.one_mul]
 have hr : n % 2 ^ d = 0 := Nat.mod_eq_zero_of_dvd x1f
 unfold Toward.cut
 simp only [hg, hr]
 have e2 : (2 ^ d == 2 * 0) = false := by
  rw [beq_eq_false_iff_ne]; omega
 simp [e2]
theorem q7l (m k : Nat) (hm : m ≠ 0) : (m * 2 ^ k).log2 = m.log2 + k := by
 have h1 := Nat.log2_self_le hm
 have h2 := @Nat.lt_log2_self m
 have hk : 0 < 2 ^ k := Nat.two_pow_pos _
 have hne : m * 2 ^ k ≠ 0 := Nat.mul_ne_zero hm (by omega)
 apply (Nat.log2_eq_iff hne).mpr
 constructor
 ·rw [Nat.pow_add]; exact Nat.mul_le_mul_right _ h1
 ·rw [show m.log2 + k + 1 = (m.log2 + 1) + k from by omega, Nat.pow_add]
  exact Nat.mul_lt_mul_of_pos_right h2 hk
theorem MagIs.log {m : Nat} {e : Int} {N : Nat} (h : MagIs m e N) (hN : N ≠ 0) : (m.log2 : Int) + e = N.log2 := by
 have hm : m ≠ 0 := fun x => hN (h.zero_iff.mp x)
 unfold MagIs at h
 have h1 := q7l m e.toNat hm
 have h2 := q7l N (-e).toNat hN
 rw [h, h2] at h1
 omega
theorem j1e {neg : Bool} {m : Nat} {e : Int} {N : Nat} (h : MagIs m e N) (hN : N ≤ 9007199254740992) :
  ∃ m' e', double.read (double.nearest neg m e) = .number neg m' e' ∧ MagIs m' e' N := by
 by_cases hz : N = 0
 ·have hm : m = 0 := h.zero_iff.mpr hz
  subst hz hm
  refine ⟨0, -1074, ?_, by unfold MagIs; simp only [Nat.zero_mul]⟩
  unfold Format.nearest
  rw [if_pos rfl]
  cases neg <;> decide
 ·have hm : m ≠ 0 := fun x => hz (h.zero_iff.mp x)
  have hlog := h.log hz
  have hNlog : N.log2 ≤ 53 := by
   have := (Nat.log2_lt hz (k := 54)).mpr (by omega)
   omega
  have v0z : max (e + (m.log2 : Int) - 52) (-1074) = (N.log2 : Int) - 52 := by omega
  have key : ∃ kept : Nat, Toward.even.cut neg (m <<< (e - ((N.log2 : Int) - 52)).toNat) (((N.log2 : Int) - 52) - e).toNat = kept ∧
    MagIs kept ((N.log2 : Int) - 52) N := by
   refine ⟨_, rfl, ?_⟩
   by_cases hle : ((N.log2 : Int) - 52) ≤ e
   ·-- shifted left, nothing dropped
    have hd : (((N.log2 : Int) - 52) - e).toNat = 0 := by omega
    rw [hd, j1d _ _ 0 (by omega) (by simp), Nat.shiftLeft_eq, Nat.pow_zero, Nat.div_one]
    unfold MagIs at h ⊢
    have : m * 2 ^ (e - ((N.log2 : Int) - 52)).toNat * 2 ^ ((N.log2 : Int) - 52).toNat * 2 ^ (-e).toNat = N * 2 ^ (-((N.log2 : Int) - 52)).toNat * 2 ^ (-e).toNat := by
     have hp : 2 ^ (e - ((N.log2 : Int) - 52)).toNat * 2 ^ ((N.log2 : Int) - 52).toNat * 2 ^ (-e).toNat = 2 ^ e.toNat * 2 ^ (-((N.log2 : Int) - 52)).toNat := by
      rw [← Nat.pow_add, ← Nat.pow_add, ← Nat.pow_add]; congr 1; omega
     calc m * 2 ^ (e - ((N.log2 : Int) - 52)).toNat * 2 ^ ((N.log2 : Int) - 52).toNat * 2 ^ (-e).toNat
       = m * (2 ^ (e - ((N.log2 : Int) - 52)).toNat * 2 ^ ((N.log2 : Int) - 52).toNat * 2 ^ (-e).toNat) := by simp only [Nat.mul_assoc]
      _ = m * 2 ^ e.toNat * 2 ^ (-((N.log2 : Int) - 52)).toNat := by rw [hp, Nat.mul_assoc]
      _ = N * 2 ^ (-e).toNat * 2 ^ (-((N.log2 : Int) - 52)).toNat := by rw [h]
      _ = N * 2 ^ (-((N.log2 : Int) - 52)).toNat * 2 ^ (-e).toNat := by ac_rfl
    exact Nat.eq_of_mul_eq_mul_right (Nat.two_pow_pos _) this
   ·have h0 : (e - ((N.log2 : Int) - 52)).toNat = 0 := by omega
    rw [h0, Nat.shiftLeft_zero]
    generalize hd : (((N.log2 : Int) - 52) - e).toNat = d
    have hdl : d ≤ m.log2 + 2 := by omega
    have x1f : 2 ^ d ∣ m := by
     unfold MagIs at h
     by_cases he : e < 0
     ·have h1 : e.toNat = 0 := by omega
      rw [h1, Nat.pow_zero, Nat.mul_one] at h
      by_cases h53 : N.log2 = 53
      ·-- N = 2^53
       have hge := (Nat.log2_eq_iff hz).mp h53
       have hN' : N = 2 ^ 53 := by omega
       rw [h, hN', ← Nat.pow_add]
       exact Nat.pow_dvd_pow 2 (by omega)
      ·rw [h]
       exact Nat.dvd_trans (Nat.pow_dvd_pow 2 (by omega)) (Nat.dvd_mul_left _ _)
     ·have he0 : e = 0 := by omega
      subst he0
      have h53 : N.log2 = 53 := by omega
      have hge := (Nat.log2_eq_iff hz).mp h53
      have hN' : N = 2 ^ 53 := by omega
      simp at h
      rw [h, hN']
      exact Nat.pow_dvd_pow 2 (by omega)
    rw [j1d _ _ d hdl x1f]
    obtain ⟨q, hq⟩ := x1f
    rw [hq, Nat.mul_div_cancel_left _ (Nat.two_pow_pos _)]
    unfold MagIs at h ⊢
    rw [hq] at h
    have hp : 2 ^ d * 2 ^ e.toNat * 2 ^ (-((N.log2 : Int) - 52)).toNat = 2 ^ ((N.log2 : Int) - 52).toNat * 2 ^ (-e).toNat := by
     rw [← Nat.pow_add, ← Nat.pow_add, ← Nat.pow_add]; congr 1; omega
    have : q * 2 ^ ((N.log2 : Int) - 52).toNat * 2 ^ (-e).toNat = N * 2 ^ (-((N.log2 : Int) - 52)).toNat * 2 ^ (-e).toNat := by
     calc q * 2 ^ ((N.log2 : Int) - 52).toNat * 2 ^ (-e).toNat
       = q * (2 ^ d * 2 ^ e.toNat * 2 ^ (-((N.log2 : Int) - 52)).toNat) := by rw [hp, Nat.mul_assoc]
      _ = 2 ^ d * q * 2 ^ e.toNat * 2 ^ (-((N.log2 : Int) - 52)).toNat := by
        rw [Nat.mul_comm (2 ^ d) q]; simp only [Nat.mul_assoc]
      _ = N * 2 ^ (-e).toNat * 2 ^ (-((N.log2 : Int) - 52)).toNat := by rw [h]
      _ = N * 2 ^ (-((N.log2 : Int) - 52)).toNat * 2 ^ (-e).toNat := by ac_rfl
    exact Nat.eq_of_mul_eq_mul_right (Nat.two_pow_pos _) this
  obtain ⟨kept, hk, hmag⟩ := key
  have hkl := hmag.log hz
  have z6y : kept ≠ 0 := fun x => hz (hmag.zero_iff.mp x)
  have v1f : kept.log2 = 52 := by omega
  have hkb := (Nat.log2_eq_iff z6y).mp v1f
  refine ⟨kept, (N.log2 : Int) - 52, ?_, hmag⟩
  have hb : double.binade = 4503599627370496 := rfl
  have hi : double.infRung = 9218868437227405312 := rfl
  have hl : double.leastPlace = -1074 := rfl
  have hf : (double.fractionBits : Int) = 52 := rfl
  have hw : double.signWeight = 9223372036854775808 := rfl
  have w6z : double.nearest neg m e = double.word neg (((N.log2 : Int) - 52 + 1074).toNat * 4503599627370496 + kept) := by
   unfold Format.nearest
   rw [if_neg hm]
   simp only [hl, hf, hb, hi]
   rw [show max (e + (m.log2 : Int) - 52) (-1074) = (N.log2 : Int) - 52 from v0z, hk]
   congr 1
   rw [show ((N.log2 : Int) - 52 - -1074) = ((N.log2 : Int) - 52 + 1074) from by omega]
   apply Nat.min_eq_left
   have hle : ((N.log2 : Int) - 52 + 1074).toNat ≤ 1075 := by omega
   generalize ((N.log2 : Int) - 52 + 1074).toNat = L at hle
   omega
  generalize hL : ((N.log2 : Int) - 52 + 1074).toNat = L at w6z
  have hL0 : (L : Int) = (N.log2 : Int) - 52 + 1074 := by omega
  rw [w6z]
  generalize hr : L * 4503599627370496 + kept = r
  have hrb : r < 9218868437227405312 := by omega
  have hrl : 4503599627370496 ≤ r := by omega
  have hrd : r / 4503599627370496 = L + 1 := by omega
  have hrm : r % 4503599627370496 = kept - 4503599627370496 := by omega
  unfold Format.read
  simp only [hb, hi, hl, hw]
  have hmod : double.word neg r % 9223372036854775808 = r := by
   unfold Format.word; rw [hw]; cases neg <;> simp <;> omega
  have hsgn : (double.word neg r / 9223372036854775808 % 2 == 1) = neg := by
   unfold Format.word; rw [hw]
   cases neg
   ·have : r / 9223372036854775808 = 0 := by omega
    simp [this]
   ·have : (9223372036854775808 + r) / 9223372036854775808 = 1 := by omega
    simp [this]
  have g1 : 4503599627370496 + (kept - 4503599627370496) = kept := by omega
  have g2 : (-1074 : Int) + ((L + 1 - 1 : Nat) : Int) = (N.log2 : Int) - 52 := by omega
  rw [hmod, hsgn, if_neg (by omega), if_pos hrb, hrd, hrm, g1, g2]
theorem q8j {d : Datum} {n : Int} (h : IsInt d n) (h1 : -9007199254740992 ≤ n) (h2 : n ≤ 9007199254740992) : IsInt (double.read (double.write d)) n := by
 obtain ⟨s, m, e, N, rfl, hm, hn⟩ := h
 have hN : N ≤ 9007199254740992 := by cases s <;> simp at hn <;> omega
 obtain ⟨m', e', hr, hm'⟩ := j1e (neg := s) hm hN
 exact ⟨s, m', e', N, hr, hm', hn⟩
def FInt (b : Nat) (n : Int) : Prop := IsInt (double.read b) n
theorem fint_nearest (n : Int) (h1 : -9007199254740992 ≤ n) (h2 : n ≤ 9007199254740992) : FInt (FloatKind.f64.nearest n) n := by
 refine q8j (d := .number (n < 0) n.natAbs 0) ⟨_, _, _, n.natAbs, rfl, by simp [MagIs], ?_⟩ h1 h2
 by_cases h : n < 0 <;> simp [h] <;> omega
theorem z2k {s : Bool} {m : Nat} {k : Nat} : signed s m k = if s then -((m * 2 ^ k : Nat) : Int) else ((m * 2 ^ k : Nat) : Int) := by
 unfold signed; rw [Nat.shiftLeft_eq]
theorem x1h {x y : Datum} {a b : Int} (hx : IsInt x a) (hy : IsInt y b) : ∃ z, x.sum y = some z ∧ IsInt z (a + b) := by
 obtain ⟨s, m, i, M, rfl, hm, ha⟩ := hx
 obtain ⟨t, n, j, N, rfl, hn, hb⟩ := hy
 refine ⟨_, rfl, ?_⟩
 generalize hbase : min i j = base
 have scale : ∀ {s : Bool} {m : Nat} {i : Int} {M : Nat} {a : Int}, MagIs m i M → (a = if s then -(M : Int) else M) → base ≤ i →
   signed s m (i - base).toNat * (2 ^ base.toNat : Nat) = a * (2 ^ (-base).toNat : Nat) := by
  intro s m i M a hm ha hbi
  have hk : m * 2 ^ (i - base).toNat * 2 ^ base.toNat = M * 2 ^ (-base).toNat := by
   unfold MagIs at hm
   have hp : 2 ^ (i - base).toNat * 2 ^ base.toNat * 2 ^ (-i).toNat = 2 ^ i.toNat * 2 ^ (-base).toNat := by
    rw [← Nat.pow_add, ← Nat.pow_add, ← Nat.pow_add]; congr 1; omega
   apply Nat.eq_of_mul_eq_mul_right (Nat.two_pow_pos (-i).toNat)
   calc m * 2 ^ (i - base).toNat * 2 ^ base.toNat * 2 ^ (-i).toNat
     = m * (2 ^ (i - base).toNat * 2 ^ base.toNat * 2 ^ (-i).toNat) := by simp only [Nat.mul_assoc]
    _ = m * 2 ^ i.toNat * 2 ^ (-base).toNat := by rw [hp, Nat.mul_assoc]
    _ = M * 2 ^ (-i).toNat * 2 ^ (-base).toNat := by rw [hm]
    _ = M * 2 ^ (-base).toNat * 2 ^ (-i).toNat := by ac_rfl
  rw [z2k, ha]
  have hk' : ((m * 2 ^ (i - base).toNat : Nat) : Int) * (2 ^ base.toNat : Nat) = (M : Int) * (2 ^ (-base).toNat : Nat) := by
   rw [← Int.natCast_mul, ← Int.natCast_mul, hk]
  cases s
  ·simpa using hk'
  ·simp only [if_true]
   rw [Int.neg_mul, Int.neg_mul, hk']
 have hs1 := scale hm ha (by omega)
 have hs2 := scale hn hb (by omega)
 generalize hp : signed s m (i - base).toNat = p at *
 generalize hq : signed t n (j - base).toNat = q at *
 have v1g : (p + q) * (2 ^ base.toNat : Nat) = (a + b) * (2 ^ (-base).toNat : Nat) := by
  rw [Int.add_mul, Int.add_mul, hs1, hs2]
 have v1h : (0 : Int) < (2 ^ base.toNat : Nat) := by exact_mod_cast Nat.two_pow_pos _
 have v1p : (0 : Int) < (2 ^ (-base).toNat : Nat) := by exact_mod_cast Nat.two_pow_pos _
 have w7l : (p + q).natAbs * 2 ^ base.toNat = (a + b).natAbs * 2 ^ (-base).toNat := by
  have := congrArg Int.natAbs v1g
  rwa [Int.natAbs_mul, Int.natAbs_mul, Int.natAbs_natCast, Int.natAbs_natCast] at this
 have hsg0 : p + q = 0 → a + b = 0 := by
  intro h0
  rw [h0, Int.zero_mul] at v1g
  exact (Int.mul_eq_zero.mp v1g.symm).resolve_right (by omega)
 have w7g : p + q < 0 → a + b < 0 := by
  intro h0
  by_cases h : a + b < 0
  ·exact h
  ·exfalso
   have h1 : (p + q) * (2 ^ base.toNat : Nat) < 0 := Int.mul_neg_of_neg_of_pos h0 v1h
   have h2 : 0 ≤ (a + b) * (2 ^ (-base).toNat : Nat) := Int.mul_nonneg (by omega) (by omega)
   omega
 have w7h : ¬ p + q < 0 → ¬ a + b < 0 := by
  intro h0 h
  have h1 : (a + b) * (2 ^ (-base).toNat : Nat) < 0 := Int.mul_neg_of_neg_of_pos h v1p
  have h2 : 0 ≤ (p + q) * (2 ^ base.toNat : Nat) := Int.mul_nonneg (by omega) (by omega)
  omega
 refine ⟨_, _, _, (a + b).natAbs, rfl, ?_, ?_⟩
 ·exact w7l
 ·by_cases h0 : p + q = 0
  ·have := hsg0 h0
   rw [if_pos h0, this]
   split <;> simp
  ·rw [if_neg h0]
   by_cases h1 : p + q < 0
   ·have := w7g h1
    simp [h1]; omega
   ·have := w7h h1
    simp [h1]; omega
theorem j1f {x : Datum} {a : Int} (hx : IsInt x a) : IsInt x.opposite (-a) := by
 obtain ⟨s, m, i, M, rfl, hm, ha⟩ := hx
 refine ⟨!s, m, i, M, rfl, hm, ?_⟩
 rw [ha]; cases s <;> simp
theorem j4u {x y : Datum} {a b : Int} (hx : IsInt x a) (hy : IsInt y b) : ∃ z, x.product y = some z ∧ IsInt z (a * b) := by
 obtain ⟨s, m, i, M, rfl, hm, ha⟩ := hx
 obtain ⟨t, n, j, N, rfl, hn, hb⟩ := hy
 refine ⟨_, rfl, s ^^ t, m * n, i + j, M * N, rfl, ?_, ?_⟩
 ·unfold MagIs at *
  have hp : 2 ^ (i + j).toNat * (2 ^ (-i).toNat * 2 ^ (-j).toNat) = 2 ^ (-(i + j)).toNat * (2 ^ i.toNat * 2 ^ j.toNat) := by
   rw [← Nat.pow_add, ← Nat.pow_add, ← Nat.pow_add, ← Nat.pow_add]; congr 1; omega
  apply Nat.eq_of_mul_eq_mul_right (m := 2 ^ i.toNat * 2 ^ j.toNat) (Nat.mul_pos (Nat.two_pow_pos _) (Nat.two_pow_pos _))
  calc m * n * 2 ^ (i + j).toNat * (2 ^ i.toNat * 2 ^ j.toNat)
    = (m * 2 ^ i.toNat) * (n * 2 ^ j.toNat) * 2 ^ (i + j).toNat := by ac_rfl
   _ = (M * 2 ^ (-i).toNat) * (N * 2 ^ (-j).toNat) * 2 ^ (i + j).toNat := by rw [hm, hn]
   _ = M * N * (2 ^ (i + j).toNat * (2 ^ (-i).toNat * 2 ^ (-j).toNat)) := by ac_rfl
   _ = M * N * (2 ^ (-(i + j)).toNat * (2 ^ i.toNat * 2 ^ j.toNat)) := by rw [hp]
   _ = M * N * 2 ^ (-(i + j)).toNat * (2 ^ i.toNat * 2 ^ j.toNat) := by ac_rfl
 ·rw [ha, hb]
  cases s <;> cases t <;> simp [Int.neg_mul, Int.mul_neg]
theorem add_int {x y : Nat} {a b : Int} (hx : FInt x a) (hy : FInt y b) (h1 : -9007199254740992 ≤ a + b) (h2 : a + b ≤ 9007199254740992) :
  ∃ z, double.add x y = some z ∧ FInt z (a + b) := by
 obtain ⟨z, hz, hi⟩ := x1h hx hy
 refine ⟨double.write z, by unfold Format.add; rw [hz]; rfl, q8j hi h1 h2⟩
theorem sub_int {x y : Nat} {a b : Int} (hx : FInt x a) (hy : FInt y b) (h1 : -9007199254740992 ≤ a - b) (h2 : a - b ≤ 9007199254740992) :
  ∃ z, double.sub x y = some z ∧ FInt z (a - b) := by
 obtain ⟨z, hz, hi⟩ := x1h hx (j1f hy)
 rw [← Int.sub_eq_add_neg] at hi
 refine ⟨double.write z, by unfold Format.sub; rw [hz]; rfl, q8j hi h1 h2⟩
theorem mul_int {x y : Nat} {a b : Int} (hx : FInt x a) (hy : FInt y b) (h1 : -9007199254740992 ≤ a * b) (h2 : a * b ≤ 9007199254740992) :
  ∃ z, double.mul x y = some z ∧ FInt z (a * b) := by
 obtain ⟨z, hz, hi⟩ := j4u hx hy
 refine ⟨double.write z, by unfold Format.mul; rw [hz]; rfl, q8j hi h1 h2⟩
theorem toInt_int {x : Nat} {a : Int} (hx : FInt x a) : (double.read x).toInt .zero = some a := by
 obtain ⟨s, m, i, M, hr, hm, ha⟩ := hx
 rw [hr]
 unfold Datum.toInt Datum.integral
 simp only [Option.some.injEq]
 have hc : Toward.zero.cut s (m <<< i.toNat) (-i).toNat = M := by
  unfold Toward.cut
  simp only [Bool.toNat_false, Nat.add_zero]
  rw [Nat.shiftLeft_eq]
  unfold MagIs at hm
  rw [hm]
  by_cases hz : M = 0
  ·subst hz; simp
  ·have hl := q7l M (-i).toNat hz
   rw [hl, Nat.min_eq_left (by omega), Nat.shiftLeft_eq, Nat.one_mul]
   exact Nat.mul_div_cancel _ (Nat.two_pow_pos _)
 rw [hc, z2k, ha]
 simp
end Go.BX.Flt
namespace Go.BX
inductive VRel (w : World) (U : Nat → Prop) : (Nat → Option Nat) → AV → Value → Prop
 | any {ι} (v) : VRel w U ι .any v
 | undef {ι} : VRel w U ι .undef (.tuple #[])
 | int {ι} (k n) : VRel w U ι (.int k n) (.int k n)
 | bool {ι} (b) : VRel w U ι (.bool b) (.bool b)
 | str {ι} (l) (s : ByteArray) (h : s.data.toList = l) : VRel w U ι (.str l) (.string s)
 | flt {ι} (n b) (h : Flt.FInt b n) : VRel w U ι (.flt n) (.float .f64 b)
 | cpx {ι} (n m b c) (h : Flt.FInt b n) (h' : Flt.FInt c m) : VRel w U ι (.cpx n m) (.complex .f64 b c)
 | agg {ι} (cs : List AV) (vs : List Value) (hl : vs.length = cs.length) (h1 : ∀ a, a ∈ cs → a.one = true)
   (h : ∀ (i : Nat) (a : AV) (v : Value), cs[i]? = some a → vs[i]? = some v → VRel w U ι a v) : VRel w U ι (.agg cs) (.agg vs.toArray)
 | tuple {ι} (cs : List AV) (vs : List Value) (hl : vs.length = cs.length)
   (h : ∀ (i : Nat) (a : AV) (v : Value), cs[i]? = some a → vs[i]? = some v → VRel w U ι a v) : VRel w U ι (.tuple cs) (.tuple vs.toArray)
 | nilS {ι} : VRel w U ι .nilS (.slice none 0 0)
 | emp {ι} (a) : VRel w U ι .emp (.slice (some a) 0 0)
 | vec {ι} (es : List (List AV)) (a : Addr) (k cap : Nat) (ys : Nat → Nat → Value) (hcap : es.length ≤ cap) (hk : ∀ e, e ∈ es → e.length = k)
   (hU : es ≠ [] → U a.block) (hs : es ≠ [] → a.spot = none)
   (hc : ∀ i j, i < es.length → j < k → w.cell? ⟨a.block, a.off + i * k + j, none⟩ = some (ys i j))
   (h1 : ∀ e, e ∈ es → ∀ x, x ∈ e → x.one = true)
   (h : ∀ (i : Nat) (e : List AV) (j : Nat) (x : AV), es[i]? = some e → e[j]? = some x → VRel w U (fun _ => none) x (ys i j)) : VRel w U ι (.vec k es) (.slice (some a) es.length cap)
 | slc {ι} (b k i n c off cap m t) (hb : ι b = some c) (ho : (n ≠ 0 ∨ i = 0) → off = i * k) (hn : n ≤ cap) (hs : w.shape? c = some (t, m)) (hm : off + cap * k ≤ m) :
   VRel w U ι (.slc b k i n) (.slice (some ⟨c, off, none⟩) n cap)
 | ptr {ι} (b k i j c) (hb : ι b = some c) : VRel w U ι (.ptr b k i j) (.pointer (some ⟨c, i * k + j, none⟩))
 | vptr {ι} (es : List (List AV)) (c o k i j : Nat) (ys : Nat → Nat → Value) (hk : ∀ e, e ∈ es → e.length = k) (hU : U c)
   (hc : ∀ i j, i < es.length → j < k → w.cell? ⟨c, o + i * k + j, none⟩ = some (ys i j))
   (h1 : ∀ e, e ∈ es → ∀ x, x ∈ e → x.one = true)
   (h : ∀ (i : Nat) (e : List AV) (j : Nat) (x : AV), es[i]? = some e → e[j]? = some x → VRel w U (fun _ => none) x (ys i j)) : VRel w U ι (.vptr k es i j) (.pointer (some ⟨c, o + i * k + j, none⟩))
 | nilP {ι} : VRel w U ι .nilP (.pointer none)
 | fn {ι} (f : FuncId) (az cs : List AV) (us vs : List Value) (hl : us.length = az.length) (hl' : vs.length = cs.length)
   (h : ∀ (i : Nat) (a : AV) (v : Value), az[i]? = some a → us[i]? = some v → VRel w U ι a v) (h' : ∀ (i : Nat) (a : AV) (v : Value), cs[i]? = some a → vs[i]? = some v → VRel w U ι a v) :
   VRel w U ι (.fn f az cs) (.func (.func f) us.toArray vs.toArray)
 | yld {ι} (l c) (hl : ι l = some c) : VRel w U ι (.yld l) (.func (.yield c) #[] #[])
 | mpp {ι} (b c) (hb : ι b = some c) : VRel w U ι (.mpp b) (.map (some c))
 | nilF {ι} : VRel w U ι .nilF .nilFunc
 | nilI {ι} : VRel w U ι .nilI .nilIface
structure Ext (w : World) (U : Nat → Prop) (ι : Nat → Option Nat) (w' : World) (U' : Nat → Prop) (ι' : Nat → Option Nat) : Prop where
 map : ∀ b c, ι b = some c → ι' b = some c
 rng : ∀ b c, ι' b = some c → (∃ b0, ι b0 = some c) ∨ w.heap.size ≤ c
 imm : ∀ c, U c → U' c
 new : ∀ c, U' c → U c ∨ w.heap.size ≤ c
 size : w.heap.size ≤ w'.heap.size
 kept : ∀ c, c < w.heap.size → (∀ b, ι b ≠ some c) → w'.heap[c]? = w.heap[c]?
 shape : ∀ c, c < w.heap.size → w'.shape? c = w.shape? c
 env : w'.os = w.os ∧ w'.tape = w.tape ∧ w'.output = w.output
theorem q4j {w w' : World} {a : Addr} (h : w'.heap[a.block]? = w.heap[a.block]?) : w'.cell? a = w.cell? a := by
 unfold World.cell?; rw [h]
theorem y3h {w : World} {a : Addr} {v : Value} (h : w.cell? a = some v) : a.block < w.heap.size := by
 unfold World.cell? at h
 rcases Nat.lt_or_ge a.block w.heap.size with h' | h'
 ·exact h'
 ·rw [Array.getElem?_eq_none h'] at h; cases h
theorem z0m {w : World} {c : Nat} {x : TypeId × Nat} (h : w.shape? c = some x) : c < w.heap.size := by
 unfold World.shape? at h
 rcases Nat.lt_or_ge c w.heap.size with h' | h'
 ·exact h'
 ·rw [Array.getElem?_eq_none h'] at h; cases h
theorem VRel.mono {w : World} {U : Nat → Prop} {w' : World} {U' : Nat → Prop}
  (hU : ∀ c, U c → U' c) (hUk : ∀ c, U c → w'.heap[c]? = w.heap[c]?) (hsh : ∀ c x, w.shape? c = some x → w'.shape? c = some x) {ι : Nat → Option Nat} {a : AV} {v : Value} (h : VRel w U ι a v) :
  ∀ ι' : Nat → Option Nat, (∀ b c, ι b = some c → ι' b = some c) → VRel w' U' ι' a v := by
 induction h with
 | any v => exact fun _ _ => .any v
 | undef => exact fun _ _ => .undef
 | int k n => exact fun _ _ => .int k n
 | bool b => exact fun _ _ => .bool b
 | str l s h => exact fun _ _ => .str l s h
 | flt n b h => exact fun _ _ => .flt n b h
 | cpx n m b c h h' => exact fun _ _ => .cpx n m b c h h'
 | agg cs vs hl h1 _ ih => exact fun ι' hι => .agg cs vs hl h1 fun i a v ha hv => ih i a v ha hv ι' hι
 | tuple cs vs hl _ ih => exact fun ι' hι => .tuple cs vs hl fun i a v ha hv => ih i a v ha hv ι' hι
 | nilS => exact fun _ _ => .nilS
 | emp a => exact fun _ _ => .emp a
 | vec es a k cap ys hcap hk hUa hs hc h1 _ ih =>
  refine fun ι' hι => .vec es a k cap ys hcap hk (fun hne => hU _ (hUa hne)) hs (fun i j hi hj => ?_) h1 fun i e j x he hx => ih i e j x he hx _ fun _ _ hh => hh
  rw [← hc i j hi hj]
  exact q4j (hUk _ (hUa (by rintro rfl; simp at hi)))
 | slc b k i n c off cap m t hb ho hn hs hm => exact fun ι' hι => .slc b k i n c off cap m t (hι b c hb) ho hn (hsh c _ hs) hm
 | ptr b k i j c hb => exact fun ι' hι => .ptr b k i j c (hι b c hb)
 | vptr es c o k i j ys hk hUc hc h1 _ ih =>
  refine fun ι' hι => .vptr es c o k i j ys hk (hU _ hUc) (fun i j hi hj => ?_) h1 fun i e j x he hx => ih i e j x he hx _ fun _ _ hh => hh
  rw [← hc i j hi hj]
  exact q4j (hUk _ hUc)
 | nilP => exact fun _ _ => .nilP
 | fn f az cs us vs hl hl' _ _ ih ih' => exact fun ι' hι => .fn f az cs us vs hl hl' (fun i a v ha hv => ih i a v ha hv ι' hι) (fun i a v ha hv => ih' i a v ha hv ι' hι)
 | yld l c hl => exact fun ι' hι => .yld l c (hι l c hl)
 | mpp b c hb => exact fun ι' hι => .mpp b c (hι b c hb)
 | nilF => exact fun _ _ => .nilF
 | nilI => exact fun _ _ => .nilI
theorem VRel.flat1 {w : World} {U : Nat → Prop} {ι : Nat → Option Nat} {a : AV} {v : Value} (h : VRel w U ι a v) (hf : a.flat1 = true) (ι' : Nat → Option Nat) : VRel w U ι' a v := by
 cases h <;> first | (simp [AV.flat1] at hf; done) | (constructor <;> assumption) | constructor
theorem VRel.flat2 {w : World} {U : Nat → Prop} {ι : Nat → Option Nat} {a : AV} {v : Value} (h : VRel w U ι a v) (hf : a.flat2 = true) (ι' : Nat → Option Nat) : VRel w U ι' a v := by
 cases h with
 | agg cs vs hl h1 h =>
  simp only [AV.flat2, List.all_eq_true] at hf
  exact .agg cs vs hl h1 fun i a v ha hv => (h i a v ha hv).flat1 (hf a (List.mem_of_getElem? ha)) ι'
 | fn f az cs us vs hl hl' h h' =>
  simp only [AV.flat2, Bool.and_eq_true, List.all_eq_true] at hf
  exact .fn f az cs us vs hl hl' (fun i a v ha hv => (h i a v ha hv).flat1 (hf.1 a (List.mem_of_getElem? ha)) ι') (fun i a v ha hv => (h' i a v ha hv).flat1 (hf.2 a (List.mem_of_getElem? ha)) ι')
 | _ => exact VRel.flat1 (ι := ι) (by first | (constructor <;> assumption) | constructor) (by simpa [AV.flat2] using hf) ι'
theorem VRel.flat {w : World} {U : Nat → Prop} {ι : Nat → Option Nat} {a : AV} {v : Value} (h : VRel w U ι a v) (hf : a.flat = true) (ι' : Nat → Option Nat) : VRel w U ι' a v := by
 cases h with
 | tuple cs vs hl h =>
  simp only [AV.flat, List.all_eq_true] at hf
  exact .tuple cs vs hl fun i a v ha hv => (h i a v ha hv).flat2 (hf a (List.mem_of_getElem? ha)) ι'
 | _ => exact VRel.flat2 (ι := ι) (by first | (constructor <;> assumption) | constructor) (by simpa [AV.flat] using hf) ι'
def Blk.isDead : Blk → Bool
 | .dead => true
 | _ => false
def TRel (w : World) (U : Nat → Prop) (ι : Nat → Option Nat) (T : Nat → AV) (tmps : Array Value) : Prop :=
 ∀ t, VRel w U ι (T t) (tmps.getD t undef)
def y8l : LS → LoopState → Prop
 | .ready, .ready | .busy, .busy | .done, .done | .exhausted, .exhausted => True
 | _, _ => False
def q3d (xs : List Operand) : List Nat := xs.filterMap fun
 | .tmp t => some t
 | _ => none
def q6j (ops : Array Oper) (j : Nat) : Option Nat := (ops[j]?).bind (·.dst)
def q4s (ops : Array Oper) (o : Oper) : List Nat :=
 q3d o.op.operands.toList ++ (match o.guard with
  | some (j, _) => (q6j ops j).toList
  | none => [])
def q5r (acc : Array Nat) : List Edge → Nat
 | [] => 0
 | e :: es => (if Region.binds .any e then 2 ^ e.on ||| acc.getD e.on 0 else 0) ||| q5r acc es
def z0n : List Oper → Array Nat → Array Nat
 | [], acc => acc
 | o :: os, acc => z0n os (acc.push (q5r acc o.after.toList))
def q2t : Op → Bool
 | .defer _ => true
 | _ => false
def q9r (pure : FuncId → Bool) (ops : Array Oper) (x y : Oper) : Bool :=
 (match x.dst with
  | some d => !(q4s ops y).contains d && !(y.dst == some d)
  | none => true) &&
 (match y.dst with
  | some d => !(q4s ops x).contains d
  | none => true) &&
 !q2t x.op && !q2t y.op &&
 !(cls pure x.op == .writer && !(cls pure y.op == .inert)) &&
 !(cls pure y.op == .writer && !(cls pure x.op == .inert))
def z4k (ops : Array Oper) (x y : Oper) : Bool :=
 (match x.dst with
  | some d => !(q4s ops y).contains d && !(y.dst == some d)
  | none => true) &&
 (match y.dst with
  | some d => !(q4s ops x).contains d
  | none => true)
def w8h (ops : Array Oper) (i : Nat) (x : Oper) (j : Nat) (y : Oper) : Bool :=
 z4k ops x y && ((ldT x.op).isSome && (fwT y.op).isSome || (fwT x.op).isSome && (ldT y.op).isSome) &&
 (match adT x.op with
  | some t => (List.range j).all fun l => decide (l < i) || !(q6j ops l == some t)
  | none => false)
def x1i (pure : FuncId → Bool) (ops : Array Oper) (ms : Array Nat) (j : Nat) : List Nat :=
 (List.range j).filterMap fun i => if (ms.getD j 0).testBit i then none else match ops[i]?, ops[j]? with
  | some x, some y => if q9r pure ops x y then none else adT x.op
  | _, _ => none
def y3i (pure : FuncId → Bool) (ops : Array Oper) : List (List Nat) :=
 let l := (List.range ops.size).map (x1i pure ops (z0n ops.toList #[]))
 if l.all (·.isEmpty) then [] else l
def x1j (pure : FuncId → Bool) (ops : Array Oper) (ms : Array Nat) : Bool :=
 (List.range ops.size).all fun j => (List.range j).all fun i =>
  (ms.getD j 0).testBit i || (match ops[i]?, ops[j]? with
   | some x, some y => q9r pure ops x y || w8h ops i x j y
   | _, _ => true)
def x1k (ops : Array Oper) : Bool :=
 (List.range ops.size).all fun i => match ops[i]? with
  | some o => o.after.toList.all fun e => !Region.binds .any e || decide (e.on < i)
  | none => true
def q6k (pure : FuncId → Bool) (ops : Array Oper) : Bool :=
 x1k ops && x1j pure ops (z0n ops.toList #[]) && ops.toList.all (fun o => !q2t o.op)
def y8m (nt : Nat) (o : Oper) : Bool :=
 match o.dst with
 | some d => decide (d < nt)
 | none => true
def q4p (nt : Nat) (ops : Array Oper) (o : Oper) : Option AO :=
 if y8m nt o = true then
  match o.guard with
  | none => some { dst := o.dst, op := o.op, ty := o.type, guard := none }
  | some (j, b) => match q6j ops j with
   | some t => some { dst := o.dst, op := o.op, ty := o.type, guard := some (t, b) }
   | none => none
 else none
def q5c (pure : FuncId → Bool) (nt : Nat) : Code → Option AC
 | .skip => some .skip
 | .region _ ops draw => if draw && !q6k pure ops then none else (q3t (q4p nt ops) ops.toList).map fun l => .region l (if draw then y3i pure ops else [])
 | .seq a b => match q5c pure nt a, q5c pure nt b with
  | some x, some y => some (.seq x y)
  | _, _ => none
 | .cond c a b => match q5c pure nt a, q5c pure nt b with
  | some x, some y => some (.cond c x y)
  | _, _ => none
 | .block id a => (q5c pure nt a).map (.block id)
 | .loop a => (q5c pure nt a).map .loop
 | .rangeFunc f ps a b => match q5c pure nt a, q5c pure nt b with
  | some x, some y => if ps.toList.all (fun t => decide (t < nt)) then some (.rangeFunc f ps.toList x y) else none
  | _, _ => none
 | .exit id => some (.exit id)
 | .scope a => (q5c pure nt a).map .scope
 | .label l => some (.label l)
 | .goto l => some (.goto l)
 | .ret => some .ret
 | .refuse _ => some .refuse
def z4l (ops : Array Oper) (S : Nat → Prop) : Prop :=
 ∀ j o, ops[j]? = some o → S j → ∀ e, e ∈ o.after.toList → Region.binds .any e = true → S e.on
theorem j1g (acc : Array Nat) (i : Nat) : ∀ es : List Edge, (q5r acc es).testBit i = true →
  ∃ e, e ∈ es ∧ Region.binds .any e = true ∧ (e.on = i ∨ (acc.getD e.on 0).testBit i = true) := by
 intro es
 induction es with
 | nil => intro h; simp [q5r] at h
 | cons e es ih =>
  intro h
  simp only [q5r, Nat.testBit_or, Bool.or_eq_true] at h
  rcases h with h | h
  ·by_cases hb : Region.binds .any e = true
   ·rw [if_pos hb] at h
    simp only [Nat.testBit_or, Bool.or_eq_true, Nat.testBit_two_pow, decide_eq_true_eq] at h
    exact ⟨e, by simp, hb, h⟩
   ·rw [if_neg hb] at h; simp at h
  ·obtain ⟨e', he, hb, hh⟩ := ih h
   exact ⟨e', by simp [he], hb, hh⟩
theorem j1h {ops : Array Oper} {S : Nat → Prop} (hS : z4l ops S) : ∀ (l : List Oper) (acc : Array Nat),
  (∀ j, l[j]? = ops[acc.size + j]?) →
  (∀ j i, j < acc.size → (acc.getD j 0).testBit i = true → S j → S i) →
  ∀ j i, ((z0n l acc).getD j 0).testBit i = true → S j → S i := by
 intro l
 induction l with
 | nil =>
  intro acc _ h j i hb hj
  simp only [z0n] at hb
  by_cases hlt : j < acc.size
  ·exact h j i hlt hb hj
  ·simp [Array.getD, hlt] at hb
 | cons o l ih =>
  intro acc hl h
  simp only [z0n]
  have ho : ops[acc.size]? = some o := by simpa using (hl 0).symm
  refine ih _ (fun j => ?_) ?_
  ·have := hl (j + 1)
   simp only [List.getElem?_cons_succ] at this
   rw [this, Array.size_push]; congr 1; omega
  ·intro j i hj hb hSj
   rw [Array.size_push] at hj
   by_cases hlt : j < acc.size
   ·have e1 : (acc.push (q5r acc o.after.toList)).getD j 0 = acc.getD j 0 := by
     simp [Array.getD, hlt, Array.getElem_push_lt, Nat.lt_succ_of_lt hlt]
    rw [e1] at hb
    exact h j i hlt hb hSj
   ·have hje : j = acc.size := by omega
    subst hje
    have e1 : (acc.push (q5r acc o.after.toList)).getD acc.size 0 = q5r acc o.after.toList := by simp [Array.getD]
    rw [e1] at hb
    obtain ⟨e, he, hbd, hor⟩ := j1g acc i _ hb
    have hSe := hS _ _ ho hSj e he hbd
    rcases hor with hor | hor
    ·exact hor ▸ hSe
    ·by_cases y8h : e.on < acc.size
     ·exact h _ _ y8h hor hSe
     ·simp [Array.getD, y8h] at hor
theorem z4m {ops : Array Oper} {S : Nat → Prop} (hS : z4l ops S) {j i : Nat} (h : ((z0n ops.toList #[]).getD j 0).testBit i = true) (hj : S j) : S i :=
 j1h hS ops.toList #[] (fun j => by simp) (fun j i hj => by simp at hj) j i h hj
theorem j4v {pure : FuncId → Bool} {ops : Array Oper} (h : q6k pure ops = true) {i j : Nat} (hij : i < j) {x y : Oper} (hx : ops[i]? = some x) (hy : ops[j]? = some y) :
  ((z0n ops.toList #[]).getD j 0).testBit i = true ∨ q9r pure ops x y = true ∨ (w8h ops i x j y = true ∧ ∀ t, adT x.op = some t → ∃ c, (y3i pure ops)[j]? = some c ∧ t ∈ c) := by
 have hchk : ((z0n ops.toList #[]).getD j 0).testBit i = false → q9r pure ops x y = false → ∀ t, adT x.op = some t → ∃ c, (y3i pure ops)[j]? = some c ∧ t ∈ c := by
  intro h1 h2 t ht
  have hj : j < ops.size := (Array.getElem?_eq_some_iff.mp hy).1
  have y3a : t ∈ x1i pure ops (z0n ops.toList #[]) j := by
   unfold x1i
   rw [List.mem_filterMap]
   exact ⟨i, List.mem_range.mpr hij, by rw [h1, hx, hy]; simp [h2, ht]⟩
  have j7b : ((List.range ops.size).map (x1i pure ops (z0n ops.toList #[])))[j]? = some (x1i pure ops (z0n ops.toList #[]) j) := by
   rw [List.getElem?_map, List.getElem?_range hj]; rfl
  refine ⟨_, ?_, y3a⟩
  unfold y3i
  simp only
  rw [if_neg ?_]
  ·exact j7b
  ·intro z1n
   rw [List.all_eq_true] at z1n
   have := z1n _ (List.mem_of_getElem? j7b)
   rw [List.isEmpty_iff] at this
   rw [this] at y3a
   cases y3a
 unfold q6k x1j at h
 simp only [Bool.and_eq_true, List.all_eq_true, List.mem_range] at h
 have hj : j < ops.size := (Array.getElem?_eq_some_iff.mp hy).1
 have := h.1.2 j hj i hij
 rw [hx, hy] at this
 simp only [Bool.or_eq_true] at this
 rcases this with h1 | h2 | h3
 ·exact .inl h1
 ·exact .inr (.inl h2)
 ·cases h1 : ((z0n ops.toList #[]).getD j 0).testBit i with
  | true => exact .inl rfl
  | false => cases h2 : q9r pure ops x y with
   | true => exact .inr (.inl rfl)
   | false => exact .inr (.inr ⟨h3, hchk h1 h2⟩)
theorem j4w {pure : FuncId → Bool} {ops : Array Oper} (h : q6k pure ops = true) {i : Nat} {x : Oper} (hx : ops[i]? = some x) {e : Edge} (he : e ∈ x.after.toList) (hb : Region.binds .any e = true) : e.on < i := by
 unfold q6k x1k at h
 simp only [Bool.and_eq_true, List.all_eq_true, List.mem_range] at h
 have hi : i < ops.size := (Array.getElem?_eq_some_iff.mp hx).1
 have := h.1.1 i hi
 rw [hx] at this
 simp only [List.all_eq_true] at this
 have := this e he
 simpa [hb] using this
theorem z2l {pure : FuncId → Bool} {ops : Array Oper} (h : q6k pure ops = true) {i : Nat} {x : Oper} (hx : ops[i]? = some x) : q2t x.op = false := by
 unfold q6k at h
 simp only [Bool.and_eq_true, List.all_eq_true] at h
 have := h.2 x (List.mem_of_getElem? (by rw [Array.getElem?_toList]; exact hx))
 simpa using this
def q7j (pure : FuncId → Bool) (nt : Nat) (c : Code) (a : AC) : Prop := q5c pure nt c = some a
inductive IRel (pure : FuncId → Bool) (nt : Nat) : Item → AItem → Prop
 | code {c a} (h : q7j pure nt c a) : IRel pure nt (.code c) (.code a)
 | inBlock (id) : IRel pure nt (.inBlock id) (.inBlock id)
 | inLoop {c a} (h : q7j pure nt c a) : IRel pure nt (.inLoop c) (.inLoop a)
 | inScope {c a} (h : q7j pure nt c a) : IRel pure nt (.inScope c) (.inScope a)
 | beginRound : IRel pure nt .beginRound .beginRound
inductive IsRel (pure : FuncId → Bool) (nt : Nat) : List Item → List AItem → Prop
 | nil : IsRel pure nt [] []
 | cons {x a xs az} (h : IRel pure nt x a) (hs : IsRel pure nt xs az) : IsRel pure nt (x :: xs) (a :: az)
structure LRel (C : Ctx) (w : World) (U : Nat → Prop) (ι : Nat → Option Nat) (nt : Nat) (L : ALoop) (R : Loop) : Prop where
 size : nt ≤ R.tmps.size
 state : y8l L.state R.state
 pending : (L.pending = none ∧ R.pending = none) ∨ ∃ a c, L.pending = some a ∧ R.pending = some c ∧ q7j C.pure nt c a
 fn : L.fn = R.fn
 T : TRel w U ι L.T R.tmps
 params : L.params = R.params.toList
 assign : q7j C.pure nt R.assign L.assign
 body : q7j C.pure nt R.body L.body
 lt : ∀ t, t ∈ L.params → t < nt
 defers : ι L.defers = some R.defers
def BRel (C : Ctx) (w : World) (U : Nat → Prop) (ι : Nat → Option Nat) (c : Nat) : Blk → Prop
 | .dead => True
 | .cells t k es => ∃ cs : Array Value, w.heap[c]? = some (.cells cs t (0, 0)) ∧ (∀ e, e ∈ es → e.length = k) ∧
   ∀ (i : Nat) (e : List AV) (j : Nat) (a : AV), es[i]? = some e → e[j]? = some a → a.one = true ∧ ∃ v, cs[i * k + j]? = some v ∧ VRel w U ι a v
 | .iter s pos => ∃ b : ByteArray, b.data.toList = s ∧ w.heap[c]? = some (.stringIter b pos)
 | .mp es => ∃ (ents : Array MapEntry) (clock : Nat), w.heap[c]? = some (.map ents clock) ∧ ents.toList.map (fun e => (e.key, e.val)) = es.map fun p => (Value.string ⟨p.1.toArray⟩, Value.string ⟨p.2.toArray⟩)
 | .loop L => ∃ R nt, w.heap[c]? = some (.loop R) ∧ LRel C w U ι nt L R
 | .dfr => w.heap[c]? = some (.deferred (some []))
structure HRel (C : Ctx) (w : World) (U : Nat → Prop) (ι : Nat → Option Nat) (H : AHeap) : Prop where
 dom : ∀ b c, ι b = some c → b < H.next ∧ c < w.heap.size
 inj : ∀ b b' c, ι b = some c → ι b' = some c → (H.at_ b).isDead = false → (H.at_ b').isDead = false → b = b'
 imm : ∀ c, U c → c < w.heap.size ∧ ∀ b, ι b ≠ some c
 blk : ∀ b c, ι b = some c → BRel C w U ι c (H.at_ b)
def q6l (P : Program) (rec_ : TypeId → Option (List CK)) : List Field → Nat → Option (List CK)
 | [], _ => some []
 | f :: fs, off =>
  if f.name = "_" ∨ f.offset ≠ off then none else
  match rec_ f.type with
  | some ks => if P.cellsOf f.type = ks.length ∧ ks.length ≠ 0 then (q6l P rec_ fs (off + ks.length)).map (ks ++ ·) else none
  | none => none
def z7d (P : Program) : Nat → TypeId → Option (List CK)
 | 0, _ => none
 | d + 1, t =>
  match P.underlying t with
  | some .bool => some [.bool]
  | some (.int k) => some [.int k]
  | some .string => some [.str]
  | some (.struct fs) => if P.stoodInHeld t then none else q6l P (z7d P d) fs.toList 0
  | some (.array n e) => match z7d P d e with
   | some ks => if P.cellsOf e = ks.length ∧ ks.length ≠ 0 then some (List.replicate n ks).flatten else none
   | none => none
  | _ => none
def KOk (C : Ctx) (t : TypeId) (ti : TI) : Prop :=
 match ti.kind with
 | .bool => C.P.underlying t = some .bool ∧ ti.size = 1
 | .int k => C.P.underlying t = some (.int k) ∧ ti.size = 1
 | .str => C.P.underlying t = some .string ∧ ti.size = 1
 | .flt => C.P.underlying t = some (.float .f64) ∧ ti.size = 1
 | .cpx => C.P.underlying t = some (.complex .f64) ∧ ti.size = 1
 | .ptr => (∃ e, C.P.underlying t = some (.pointer e)) ∧ ti.size = 1
 | .slice e => C.P.underlying t = some (.slice e) ∧ ti.size = 1 ∧ ∃ te, C.TT e = some te
 | .array n e => C.P.underlying t = some (.array n e) ∧ ∃ te, C.TT e = some te ∧ te.size ≠ 0 ∧ ti.size = n * te.size
 | .struct fs => ∃ fl : Array Field, C.P.underlying t = some (.struct fl) ∧ fs = fl.toList.map (fun f => (f.type, f.offset)) ∧
   ∀ f, f ∈ fl.toList → ∃ tf, C.TT f.type = some tf ∧ tf.size ≠ 0 ∧ f.offset + tf.size ≤ ti.size
 | .func => (∃ a b c, C.P.underlying t = some (.func a b c)) ∧ ti.size = 1
 | .iface => (∃ ms, C.P.underlying t = some (.interface ms)) ∧ ti.size = 1
structure TIok (C : Ctx) (t : TypeId) (ti : TI) : Prop where
 info : ∃ info, C.P.info? t = some info ∧ info.size = ti.size ∧ info.bytes = ti.bytes ∧
  ∃ z, info.zero = some z ∧ q3t ofConst z.cells.toList = some ti.zero ∧ z.cells.size = ti.size ∧ (ti.kind.isAgg = true → ∃ cs, z = .agg cs) ∧ (ti.kind.isAgg = false → z.cells = #[z])
 kind : KOk C t ti
 eq : ∀ ks, ti.eqk = some ks → z7d C.P Op.maxDepth t = some ks ∧ C.P.eqGuardType C.P.depth t = false
structure FIok (C : Ctx) (f : FuncId) (fi : FI) : Prop where
 fn : ∃ fn c, C.P.funcs[f]? = some fn ∧ fn.body = some c ∧ q5c C.pure fi.ntmps c = some fi.body ∧ fn.ntmps = fi.ntmps ∧ fn.results.toList = fi.results ∧ (fn.name == "runtime.NumGoroutine") = false
variable {C : Ctx} {w : World} {U : Nat → Prop} {ι : Nat → Option Nat}
theorem q4g {α β : Type} {f : α → Option β} : ∀ {l : List α} {r : List β}, q3t f l = some r → r.length = l.length
 | [], r, h => by simp [q3t] at h; subst h; rfl
 | x :: xs, r, h => by
  simp only [q3t] at h
  split at h
  ·rename_i y ys _ hys
   cases h
   simp [q4g hys]
  ·cases h
theorem z9i {α β : Type} {f : α → Option β} : ∀ {l : List α} {r : List β}, q3t f l = some r → ∀ (i : Nat) (x : α), l[i]? = some x → ∃ y, r[i]? = some y ∧ f x = some y
 | [], r, h, i, x, hx => by simp at hx
 | z :: zs, r, h, i, x, hx => by
  simp only [q3t] at h
  split at h
  ·rename_i y ys hy hys
   cases h
   cases i with
   | zero => simp at hx; subst hx; exact ⟨y, rfl, hy⟩
   | succ i => simp at hx ⊢; exact z9i hys i x hx
  ·cases h
theorem q3b {α β : Type} {f : α → Option β} {l : List α} {r : List β} (h : q3t f l = some r) (i : Nat) (y : β) (hy : r[i]? = some y) : ∃ x, l[i]? = some x ∧ f x = some y := by
 have hi : i < l.length := by
  rw [← q4g h]; exact (List.getElem?_eq_some_iff.mp hy).1
 obtain ⟨y', hy', hf⟩ := z9i h i l[i] (List.getElem?_eq_getElem hi)
 rw [hy] at hy'
 cases hy'
 exact ⟨_, List.getElem?_eq_getElem hi, hf⟩
theorem z4n {b : Nat} {n : Int} (h : j9e b = some n) : Flt.FInt b n := by
 unfold j9e at h
 unfold Flt.FInt Flt.IsInt
 split at h
 ·rename_i s m e hd
  simp only at h
  split at h
  ·rename_i hm
   rw [hd]
   refine ⟨s, m, e, _, rfl, hm, ?_⟩
   cases h; rfl
  ·cases h
 ·cases h
theorem z4o {v : Value} {a : AV} (h : ofConst v = some a) : VRel w U ι a v := by
 unfold ofConst at h
 split at h
 ·cases h; constructor
 ·cases h; constructor
 ·cases h; exact .str _ _ rfl
 ·simp only [Option.map_eq_some_iff] at h
  obtain ⟨n, hn, rfl⟩ := h
  exact .flt _ _ (z4n hn)
 ·split at h
  ·rename_i x y hx hy
   cases h
   exact .cpx _ _ _ _ (z4n hx) (z4n hy)
  ·cases h
 ·cases h; constructor
 ·cases h; constructor
 ·cases h; constructor
 ·cases h; constructor
 ·cases h
theorem j4x {v : Value} {a : AV} (h : ofConst v = some a) : a.one = true := by
 unfold ofConst at h
 split at h <;> first | (cases h; rfl) | (simp only [Option.map_eq_some_iff] at h; obtain ⟨n, hn, rfl⟩ := h; rfl) | (split at h <;> first | (cases h; rfl) | cases h) | cases h
theorem VRel.one {a : AV} {v : Value} (h : VRel w U ι a v) (h1 : a.one = true) : v.oneCell' = true ∧ v.cells = #[v] := by
 cases h <;> first | (simp [AV.one] at h1; done) | exact ⟨rfl, rfl⟩
theorem TIok.run_isAgg {t : TypeId} {ti : TI} (h : TIok C t ti) : (isAgg t).run C.P w = .ok ti.kind.isAgg w := by
 have hk := h.kind
 unfold KOk at hk
 unfold isAgg
 cases e : ti.kind <;> rw [e] at hk <;> simp only [TK.isAgg] <;> first
  | simp [run_underlying hk.1]
  | (obtain ⟨⟨_, hu⟩, _⟩ := hk; simp [run_underlying hu])
  | (obtain ⟨_, hu, _⟩ := hk; simp [run_underlying hu])
  | (obtain ⟨⟨_, _, _, hu⟩, _⟩ := hk; simp [run_underlying hu])
theorem TIok.run_sizeOf {t : TypeId} {ti : TI} (h : TIok C t ti) : (sizeOf t).run C.P w = .ok ti.size w := by
 obtain ⟨i, hi, hs, _⟩ := h.info
 simp [sizeOf, typeInfo, hi, hs]
theorem TIok.run_bytes {t : TypeId} {ti : TI} (h : TIok C t ti) : ∃ i, (typeInfo t).run C.P w = .ok i w ∧ i.bytes = ti.bytes ∧ i.size = ti.size := by
 obtain ⟨i, hi, hs, hb, _⟩ := h.info
 exact ⟨i, by simp [typeInfo, hi], hb, hs⟩
theorem TIok.run_zero {t : TypeId} {ti : TI} (h : TIok C t ti) : ∃ z, (zeroValue t).run C.P w = .ok z w ∧ q3t ofConst z.cells.toList = some ti.zero ∧ z.cells.size = ti.size := by
 obtain ⟨i, hi, _, _, z, hz, hm, hs, _⟩ := h.info
 exact ⟨z, by simp [zeroValue, typeInfo, hi, hz], hm, hs⟩
theorem TIok.zero_len {t : TypeId} {ti : TI} (h : TIok C t ti) : ti.zero.length = ti.size := by
 obtain ⟨i, hi, _, _, z, hz, hm, hs, _⟩ := h.info
 rw [q4g hm, ← hs]; simp
theorem TIok.zero_one {t : TypeId} {ti : TI} (h : TIok C t ti) : ∀ a, a ∈ ti.zero → a.one = true := by
 obtain ⟨i, hi, _, _, z, hz, hm, hs, _⟩ := h.info
 intro a ha
 obtain ⟨j, hj⟩ := List.getElem?_of_mem ha
 obtain ⟨x, _, hx⟩ := q3b hm j a hj
 exact j4x hx
def LsRel (w : World) (U : Nat → Prop) (ι : Nat → Option Nat) (cs : List AV) (vs : List Value) : Prop :=
 vs.length = cs.length ∧ ∀ (i : Nat) (a : AV) (v : Value), cs[i]? = some a → vs[i]? = some v → VRel w U ι a v
theorem LsRel.nil : LsRel w U ι [] [] := ⟨rfl, fun i a v h => by simp at h⟩
theorem LsRel.cons {a : AV} {v : Value} {cs : List AV} {vs : List Value} (h : VRel w U ι a v) (hs : LsRel w U ι cs vs) : LsRel w U ι (a :: cs) (v :: vs) :=
 ⟨by simp [hs.1], fun i b u hb hu => by
  cases i with
  | zero => simp at hb hu; subst hb hu; exact h
  | succ i => simp at hb hu; exact hs.2 i b u hb hu⟩
theorem LsRel.get {cs : List AV} {vs : List Value} (h : LsRel w U ι cs vs) {i : Nat} {a : AV} (ha : cs[i]? = some a) : ∃ v, vs[i]? = some v ∧ VRel w U ι a v := by
 have hi : i < cs.length := (List.getElem?_eq_some_iff.mp ha).1
 have hi' : i < vs.length := by rw [h.1]; exact hi
 exact ⟨vs[i], List.getElem?_eq_getElem hi', h.2 i a _ ha (List.getElem?_eq_getElem hi')⟩
theorem LsRel.take {cs : List AV} {vs : List Value} (h : LsRel w U ι cs vs) (n : Nat) : LsRel w U ι (cs.take n) (vs.take n) :=
 ⟨by simp [h.1], fun i a v ha hv => by
  rw [List.getElem?_take] at ha hv
  split at ha
  ·rename_i hlt; rw [if_pos hlt] at hv; exact h.2 i a v ha hv
  ·cases ha⟩
theorem LsRel.drop {cs : List AV} {vs : List Value} (h : LsRel w U ι cs vs) (n : Nat) : LsRel w U ι (cs.drop n) (vs.drop n) :=
 ⟨by simp [h.1], fun i a v ha hv => by
  rw [List.getElem?_drop] at ha hv
  exact h.2 _ a v ha hv⟩
theorem LsRel.append {cs ds : List AV} {vs us : List Value} (h : LsRel w U ι cs vs) (h' : LsRel w U ι ds us) : LsRel w U ι (cs ++ ds) (vs ++ us) :=
 ⟨by simp [h.1, h'.1], fun i a v ha hv => by
  rw [List.getElem?_append] at ha hv
  rw [h.1] at hv
  split at ha
  ·rename_i hlt; rw [if_pos hlt] at hv; exact h.2 i a v ha hv
  ·rename_i hlt; rw [if_neg hlt] at hv; exact h'.2 _ a v ha hv⟩
theorem LsRel.ofConsts : ∀ {vs : List Value} {cs : List AV}, q3t ofConst vs = some cs → LsRel w U ι cs vs := by
 intro vs cs h
 refine ⟨(q4g h).symm, fun i a v ha hv => ?_⟩
 obtain ⟨b, hb, hf⟩ := z9i h i v hv
 rw [ha] at hb; cases hb
 exact z4o hf
theorem z7q {t : TypeId} {ti : TI} (ht : TIok C t ti) {cs : List AV} {vs : List Value} {off : Nat} {a : AV} (hr : LsRel w U ι cs vs) (h1 : ∀ a, a ∈ cs → a.one = true) (h : part ti cs off = some a) :
  ∃ v, (Go.part t vs.toArray off).run C.P w = .ok v w ∧ VRel w U ι a v := by
 unfold part at h
 unfold Go.part
 simp only [Sem.run_bind, ht.run_isAgg, Result.andThen_ok]
 by_cases hg : ti.kind.isAgg = true
 ·rw [if_pos hg] at h
  split at h
  ·rename_i hle
   cases h
   refine ⟨.agg ((vs.drop off).take ti.size).toArray, ?_, ?_⟩
   ·simp only [hg, if_true, Sem.run_bind, ht.run_sizeOf, Result.andThen_ok, Sem.run_pure]
    congr 2
    apply Array.ext'
    simp [List.extract_eq_take_drop]
   ·have hh := (hr.drop off).take ti.size
    exact .agg _ _ hh.1 (fun a ha => h1 a (List.mem_of_mem_drop (List.mem_of_mem_take ha))) hh.2
  ·cases h
 ·rw [if_neg hg] at h
  obtain ⟨v, hv, hvr⟩ := hr.get h
  refine ⟨v, ?_, hvr⟩
  simp [hg, hv]
theorem VRel.cells_rel {a : AV} {v : Value} (h : VRel w U ι a v) (hp : a.plain = true) : LsRel w U ι a.cells v.cells.toList ∧ ∀ x, x ∈ a.cells → x.one = true := by
 cases h with
 | agg cs vs hl h1 h => exact ⟨⟨by simpa [Value.cells, AV.cells] using hl, fun i a v ha hv => h i a v ha (by simpa [Value.cells] using hv)⟩, h1⟩
 | any => simp [AV.plain] at hp
 | undef => simp [AV.plain] at hp
 | tuple => simp [AV.plain] at hp
 | _ =>
  refine ⟨?_, by simp [AV.cells, AV.one]⟩
  simp only [Value.cells, AV.cells]
  refine LsRel.cons ?_ LsRel.nil
  first | (constructor <;> assumption) | constructor
end Go.BX
namespace Go.BX
variable {C : Ctx} {w : World} {U : Nat → Prop} {ι : Nat → Option Nat}
theorem q4b : ∀ {ks : List CK} {a b : List AV} {r : Bool}, cellsEq ks a b = some r → a.length = ks.length ∧ b.length = ks.length
 | [], [], [], _, _ => ⟨rfl, rfl⟩
 | [], [], _ :: _, r, h => by simp [cellsEq] at h
 | [], _ :: _, b, r, h => by simp [cellsEq] at h
 | k :: ks, [], b, r, h => by cases k <;> simp [cellsEq] at h
 | k :: ks, x :: a, [], r, h => by cases k <;> cases x <;> simp [cellsEq] at h
 | k :: ks, x :: a, y :: b, r, h => by
  cases k <;> cases x <;> cases y <;> simp only [cellsEq, reduceCtorEq] at h
  ·simp only [Option.map_eq_some_iff] at h
   obtain ⟨q, hq, _⟩ := h
   have := q4b hq
   simp [this.1, this.2]
  ·split at h
   ·simp only [Option.map_eq_some_iff] at h
    obtain ⟨q, hq, _⟩ := h
    have := q4b hq
    simp [this.1, this.2]
   ·cases h
  ·simp only [Option.map_eq_some_iff] at h
   obtain ⟨q, hq, _⟩ := h
   have := q4b hq
   simp [this.1, this.2]
theorem q3u : ∀ {ks ls : List CK} {a b : List AV} {r : Bool}, cellsEq (ks ++ ls) a b = some r →
  ∃ r1 r2, cellsEq ks (a.take ks.length) (b.take ks.length) = some r1 ∧ cellsEq ls (a.drop ks.length) (b.drop ks.length) = some r2 ∧ r = (r1 && r2)
 | [], ls, a, b, r, h => ⟨true, r, rfl, by simpa using h, by simp⟩
 | k :: ks, ls, [], b, r, h => by cases k <;> simp [cellsEq] at h
 | k :: ks, ls, x :: a, [], r, h => by cases k <;> cases x <;> simp [cellsEq] at h
 | k :: ks, ls, x :: a, y :: b, r, h => by
  cases k <;> cases x <;> cases y <;> simp only [List.cons_append, cellsEq, reduceCtorEq, List.length_cons, List.take_succ_cons, List.drop_succ_cons] at h ⊢
  ·rename_i n m
   simp only [Option.map_eq_some_iff] at h
   obtain ⟨q, hq, rfl⟩ := h
   obtain ⟨r1, r2, h1, h2, rfl⟩ := q3u hq
   exact ⟨(n == m) && r1, r2, by simp [h1], h2, by simp [Bool.and_assoc]⟩
  ·split at h
   ·rename_i k0 k1 n k2 m hk
    simp only [Option.map_eq_some_iff] at h
    obtain ⟨q, hq, rfl⟩ := h
    obtain ⟨r1, r2, h1, h2, rfl⟩ := q3u hq
    exact ⟨(n == m) && r1, r2, by simp [hk, h1], h2, by simp [Bool.and_assoc]⟩
   ·cases h
  ·rename_i n m
   simp only [Option.map_eq_some_iff] at h
   obtain ⟨q, hq, rfl⟩ := h
   obtain ⟨r1, r2, h1, h2, rfl⟩ := q3u hq
   exact ⟨(n == m) && r1, r2, by simp [h1], h2, by simp [Bool.and_assoc]⟩
def z3i (agg : Bool) (vs : List Value) : Value := if agg then .agg vs.toArray else vs.getD 0 undef
theorem z3u {P : Program} {t : TypeId} {agg : Bool} {vs : List Value} {off n : Nat} (ha : (isAgg t).run P w = .ok agg w) (hs : (sizeOf t).run P w = .ok n w)
  (hl : off + n ≤ vs.length) (h1 : agg = false → n = 1) : (Go.part t vs.toArray off).run P w = .ok (z3i agg ((vs.drop off).take n)) w := by
 unfold Go.part z3i
 simp only [Sem.run_bind, ha, Result.andThen_ok]
 cases agg with
 | true =>
  simp only [if_true, Sem.run_bind, hs, Result.andThen_ok, Sem.run_pure]
  congr 2
  apply Array.ext'
  simp [List.extract_eq_take_drop]
 | false =>
  have := h1 rfl
  subst this
  have hlt : off < vs.length := by omega
  simp [hlt, List.getD, List.getElem?_drop]
theorem j7d {P : Program} {d : Nat} {t : TypeId} {ks : List CK} (h : z7d P d t = some ks) : ∃ g, (∀ w : World, (isAgg t).run P w = .ok g w) ∧ (g = false → ks.length = 1) := by
 cases d with
 | zero => cases h
 | succ d =>
  simp only [z7d] at h
  split at h
  ·rename_i hu; cases h; exact ⟨false, fun w => by simp [isAgg, run_underlying hu], fun _ => rfl⟩
  ·rename_i hu; cases h; exact ⟨false, fun w => by simp [isAgg, run_underlying hu], fun _ => rfl⟩
  ·rename_i hu; cases h; exact ⟨false, fun w => by simp [isAgg, run_underlying hu], fun _ => rfl⟩
  ·rename_i hu; exact ⟨true, fun w => by simp [isAgg, run_underlying hu], fun h => by cases h⟩
  ·rename_i hu; exact ⟨true, fun w => by simp [isAgg, run_underlying hu], fun h => by cases h⟩
  ·cases h
theorem j1i {P : Program} {t : TypeId} {n : Nat} (h : P.cellsOf t = n) (hn : n ≠ 0) (w : World) : (sizeOf t).run P w = .ok n w := by
 unfold Program.cellsOf at h
 cases hi : P.info? t with
 | none => rw [hi] at h; simp at h; omega
 | some i => rw [hi] at h; simp at h; simp [sizeOf, typeInfo, hi, h]
theorem z9j {P : Program} (w : World) {d : Nat} {rec_ : TypeId → Option (List CK)} (hrec : rec_ = z7d P d)
  (ih : ∀ (t : TypeId) (ks : List CK), z7d P d t = some ks → ∀ (g : Bool), (isAgg t).run P w = .ok g w → ∀ (cs ds : List AV) (vs us : List Value) (b : Bool), LsRel w U ι cs vs → LsRel w U ι ds us → cellsEq ks cs ds = some b →
   (Op.equalIn d t (z3i g vs) (z3i g us)).run P w = .ok b w) :
  ∀ (fs : List Field) (off : Nat) (ks : List CK), q6l P rec_ fs off = some ks → ∀ (cs ds : List AV) (vs us : List Value) (b : Bool), LsRel w U ι cs vs → LsRel w U ι ds us →
   cellsEq ks (cs.drop off) (ds.drop off) = some b → (Op.eqFields d vs.toArray us.toArray fs).run P w = .ok b w := by
 intro fs
 induction fs with
 | nil =>
  intro off ks h cs ds vs us b hv hu he
  simp only [q6l, Option.some.injEq] at h
  subst h
  have hb : b = true := by
   generalize cs.drop off = x at he; generalize ds.drop off = y at he
   cases x <;> cases y <;> simp [cellsEq] at he; exact he
  subst hb
  simp [Op.eqFields]
 | cons f fs ihf =>
  intro off ks h cs ds vs us b hv hu he
  simp only [q6l] at h
  split at h
  ·cases h
  ·rename_i hne
   split at h
   ·rename_i k1 hk1
    split at h
    ·rename_i hsz
     simp only [Option.map_eq_some_iff] at h
     obtain ⟨k2, hk2, rfl⟩ := h
     obtain ⟨r1, r2, h1, h2, rfl⟩ := q3u he
     have q2u := q4b h1
     have hname : f.name ≠ "_" := fun e => hne (.inl e)
     have x6n : f.offset = off := by
      rcases Decidable.em (f.offset = off) with h | h
      ·exact h
      ·exact absurd (.inr h) hne
     rw [hrec] at hk1
     obtain ⟨g, hg, hg1⟩ := j7d hk1
     have hs := j1i hsz.1 hsz.2 w
     have hl1 : off + k1.length ≤ vs.length := by
      rw [hv.1]; have := q2u.1; simp at this; omega
     have hl2 : off + k1.length ≤ us.length := by
      rw [hu.1]; have := q2u.2; simp at this; omega
     have hp1 := z3u (w := w) (hg w) hs hl1 hg1
     have hp2 := z3u (w := w) (hg w) hs hl2 hg1
     have heq := ih f.type k1 hk1 g (hg w) _ _ _ _ r1 ((hv.drop off).take k1.length) ((hu.drop off).take k1.length) h1
     simp only [Op.eqFields, if_pos hname, Sem.run_bind, x6n, hp1, hp2, Result.andThen_ok, heq]
     cases r1 with
     | false => simp
     | true =>
      have h2' : cellsEq k2 (cs.drop (off + k1.length)) (ds.drop (off + k1.length)) = some r2 := by
       rw [← List.drop_drop, ← List.drop_drop]; exact h2
      have := ihf (off + k1.length) k2 hk2 cs ds vs us r2 hv hu h2'
      simp [this]
    ·cases h
   ·cases h
theorem j9g {P : Program} (w : World) : ∀ (d : Nat) (t : TypeId) (ks : List CK), z7d P d t = some ks → ∀ (g : Bool), (isAgg t).run P w = .ok g w →
  ∀ (cs ds : List AV) (vs us : List Value) (b : Bool), LsRel w U ι cs vs → LsRel w U ι ds us → cellsEq ks cs ds = some b →
   (Op.equalIn d t (z3i g vs) (z3i g us)).run P w = .ok b w := by
 intro d
 induction d with
 | zero => intro t ks h; cases h
 | succ d ih =>
  intro t ks h g hg cs ds vs us b hv hu he
  have q2u := q4b he
  simp only [z7d] at h
  split at h
  ·rename_i ht
   cases h
   have hgf : g = false := by simp [isAgg, run_underlying ht] at hg; simp [hg]
   subst hgf
   obtain ⟨x, rfl⟩ := List.length_eq_one_iff.mp q2u.1
   obtain ⟨y, rfl⟩ := List.length_eq_one_iff.mp q2u.2
   obtain ⟨v, rfl⟩ := List.length_eq_one_iff.mp hv.1
   obtain ⟨u, rfl⟩ := List.length_eq_one_iff.mp hu.1
   have hx := hv.2 0 x v rfl rfl
   have hy := hu.2 0 y u rfl rfl
   cases hx <;> cases hy <;> simp [cellsEq] at he
   subst he
   simp [z3i, Op.equalIn, run_underlying ht]
  ·rename_i k ht
   cases h
   have hgf : g = false := by simp [isAgg, run_underlying ht] at hg; simp [hg]
   subst hgf
   obtain ⟨x, rfl⟩ := List.length_eq_one_iff.mp q2u.1
   obtain ⟨y, rfl⟩ := List.length_eq_one_iff.mp q2u.2
   obtain ⟨v, rfl⟩ := List.length_eq_one_iff.mp hv.1
   obtain ⟨u, rfl⟩ := List.length_eq_one_iff.mp hu.1
   have hx := hv.2 0 x v rfl rfl
   have hy := hu.2 0 y u rfl rfl
   cases hx <;> cases hy <;> simp [cellsEq] at he
   obtain ⟨⟨rfl, rfl⟩, rfl⟩ := he
   simp [z3i, Op.equalIn, run_underlying ht]
  ·rename_i ht
   cases h
   have hgf : g = false := by simp [isAgg, run_underlying ht] at hg; simp [hg]
   subst hgf
   obtain ⟨x, rfl⟩ := List.length_eq_one_iff.mp q2u.1
   obtain ⟨y, rfl⟩ := List.length_eq_one_iff.mp q2u.2
   obtain ⟨v, rfl⟩ := List.length_eq_one_iff.mp hv.1
   obtain ⟨u, rfl⟩ := List.length_eq_one_iff.mp hu.1
   have hx := hv.2 0 x v rfl rfl
   have hy := hu.2 0 y u rfl rfl
   cases hx <;> cases hy <;> simp [cellsEq] at he
   rename_i h0 l1 s1 h1
   subst h1
   subst h0
   subst he
   simp [z3i, Op.equalIn, run_underlying ht, beq_toListBytes, ByteArray.toList_eq]
  ·rename_i fs ht
   have hgt : g = true := by simp [isAgg, run_underlying ht] at hg; simp [hg]
   subst hgt
   split at h
   ·cases h
   ·rename_i hst
    have x1e : P.stoodInHeld t = false := by simpa using hst
    have hfo : P.fieldsOf t = fs := by simp [Program.fieldsOf, ht]
    simp only [z3i, if_true]
    rw [run_equalIn_struct w d t vs.toArray us.toArray (by rw [hfo]; exact ht) x1e, hfo]
    exact z9j w rfl ih fs.toList 0 ks h cs ds vs us b hv hu (by simpa using he)
  ·rename_i n e ht
   have hgt : g = true := by simp [isAgg, run_underlying ht] at hg; simp [hg]
   subst hgt
   split at h
   ·rename_i k1 hk1
    split at h
    ·rename_i hsz
     cases h
     obtain ⟨g, hgg, hg1⟩ := j7d hk1
     have hs := j1i hsz.1 hsz.2 w
     simp only [z3i, if_true, Op.equalIn, Sem.run_bind, run_underlying ht, Result.andThen_ok, hs]
     rw [Std.Legacy.Range.forIn_eq_forIn_range']
     simp only [Std.Legacy.Range.size, Nat.sub_zero, Nat.add_sub_cancel, Nat.div_one]
     have key : ∀ (m s : Nat) (b : Bool), s + m = n → cellsEq (List.replicate m k1).flatten (cs.drop (s * k1.length)) (ds.drop (s * k1.length)) = some b →
       ((forIn (List.range' s m 1) ((none, ()) : Option Bool × Unit) fun i __s => do
        let a ← Go.part e vs.toArray (i * k1.length)
        let a' ← Go.part e us.toArray (i * k1.length)
        let r ← Op.equalIn d e a a'
        if (!r) = true then pure (ForInStep.done (some false, ())) else pure (ForInStep.yield (none, ())) : Sem (Option Bool × Unit)).run P w) =
        .ok (if b then none else some false, ()) w := by
      intro m
      induction m with
      | zero =>
       intro s b _ he
       have hb : b = true := by
        generalize cs.drop (s * k1.length) = x at he; generalize ds.drop (s * k1.length) = y at he
        cases x <;> cases y <;> simp [cellsEq] at he; exact he
       subst hb
       simp
      | succ m ihm =>
       intro s b hsm he
       rw [List.replicate_succ, List.flatten_cons] at he
       obtain ⟨r1, r2, h1, h2, rfl⟩ := q3u he
       have hl := q4b h1
       have hl1 : s * k1.length + k1.length ≤ vs.length := by
        rw [hv.1]; have := hl.1; simp at this; omega
       have hl2 : s * k1.length + k1.length ≤ us.length := by
        rw [hu.1]; have := hl.2; simp at this; omega
       have hp1 := z3u (w := w) (hgg w) hs hl1 hg1
       have hp2 := z3u (w := w) (hgg w) hs hl2 hg1
       have heq := ih e k1 hk1 g (hgg w) _ _ _ _ r1 ((hv.drop (s * k1.length)).take k1.length) ((hu.drop (s * k1.length)).take k1.length) h1
       rw [List.range'_succ, List.forIn_cons]
       simp only [Sem.run_bind, hp1, hp2, Result.andThen_ok, heq]
       cases r1 with
       | false => simp
       | true =>
        simp only [Bool.not_true, Bool.false_eq_true, if_false, Sem.run_pure, Result.andThen_ok, Bool.true_and]
        refine ihm (s + 1) r2 (by omega) ?_
        rw [Nat.add_mul, Nat.one_mul, ← List.drop_drop, ← List.drop_drop]
        exact h2
     have := key n 0 b (by omega) (by simpa using he)
     rw [this]
     cases b <;> simp
    ·cases h
   ·cases h
  ·cases h
end Go.BX
namespace Go.BX
variable {C : Ctx} {w : World} {U : Nat → Prop} {ι : Nat → Option Nat}
structure TOk (C : Ctx) : Prop where
 tt : ∀ t ti, C.TT t = some ti → TIok C t ti
theorem q0u {T : Nat → AV} {a : Act} (hT : TRel w U ι T a.tmps) {x : Operand} {b : AV} (h : ev T x = some b) : VRel w U ι b (a.eval x) := by
 cases x with
 | tmp t => simp only [ev, Option.some.injEq] at h; subst h; exact hT t
 | const v => exact z4o h
 | global g => cases h
 | func f => simp only [ev, Option.some.injEq] at h; subst h; exact .fn f [] [] [] [] rfl rfl (fun i a v h => by simp at h) (fun i a v h => by simp at h)
theorem q7m {T : Nat → AV} {a : Act} (hT : TRel w U ι T a.tmps) : ∀ {xs : List Operand} {bs : List AV}, evs T xs = some bs → LsRel w U ι bs (xs.map a.eval)
 | [], bs, h => by simp [evs] at h; subst h; exact LsRel.nil
 | x :: xs, bs, h => by
  simp only [evs] at h
  split at h
  ·rename_i v vs hv hvs
   cases h
   exact LsRel.cons (q0u hT hv) (q7m hT hvs)
  ·cases h
theorem q9s {T : Nat → AV} {a : Act} (hT : TRel w U ι T a.tmps) : ∀ {xs : List (Nat × Operand)} {bs : List (Nat × AV)}, parts_ T xs = some bs →
  bs.length = xs.length ∧ ∀ (i : Nat) (p : Nat × AV) (q : Nat × Operand), bs[i]? = some p → xs[i]? = some q → p.1 = q.1 ∧ VRel w U ι p.2 (a.eval q.2)
 | [], bs, h => by simp [parts_] at h; subst h; exact ⟨rfl, fun i p q h => by simp at h⟩
 | (i, x) :: xs, bs, h => by
  simp only [parts_] at h
  split at h
  ·rename_i v vs hv hvs
   cases h
   obtain ⟨hl, hr⟩ := q9s hT hvs
   refine ⟨by simp [hl], fun j p q hp hq => ?_⟩
   cases j with
   | zero => simp at hp hq; subst hp hq; exact ⟨rfl, q0u hT hv⟩
   | succ j => simp at hp hq; exact hr j p q hp hq
  ·cases h
theorem j1j {op : BinOp} {k : IntKind} {a b : Int} {t : TypeId} {r : AV} (h : intBin op k a b = some r) : ∃ v, (Go.binOp op t (.int k a) (.int k b)).run C.P w = .ok v w ∧ VRel w U ι r v := by
 cases op <;> simp only [intBin, reduceCtorEq] at h
 ·cases h; exact ⟨_, by simp [Go.binOp, Op.intArith], .int _ _⟩
 ·cases h; exact ⟨_, by simp [Go.binOp, Op.intArith], .int _ _⟩
 ·cases h; exact ⟨_, by simp [Go.binOp, Op.intArith], .int _ _⟩
 ·split at h
  ·cases h
  ·rename_i hb; cases h; exact ⟨_, by simp [Go.binOp, Op.intDiv, hb], .int _ _⟩
 ·split at h
  ·cases h
  ·rename_i hb; cases h; exact ⟨_, by simp [Go.binOp, Op.intDiv, hb], .int _ _⟩
 all_goals first
  | (cases h; exact ⟨_, by rw [show Go.binOp .and t (.int k a) (.int k b) = Op.intBits .and k a b by simp [Go.binOp]]; rfl, .int k (z4i .and k a b)⟩)
  | (cases h; exact ⟨_, by rw [show Go.binOp .or t (.int k a) (.int k b) = Op.intBits .or k a b by simp [Go.binOp]]; rfl, .int k (z4i .or k a b)⟩)
  | (cases h; exact ⟨_, by rw [show Go.binOp .xor t (.int k a) (.int k b) = Op.intBits .xor k a b by simp [Go.binOp]]; rfl, .int k (z4i .xor k a b)⟩)
  | (cases h; exact ⟨_, by rw [show Go.binOp .andNot t (.int k a) (.int k b) = Op.intBits .andNot k a b by simp [Go.binOp]]; rfl, .int k (z4i .andNot k a b)⟩)
  | (cases h; exact ⟨_, by simp [Go.binOp, Op.intCmp], .bool _⟩)
theorem q9k {op : BinOp} {k k' : IntKind} {a b : Int} {t : TypeId} {r : AV} (h : z9f op k a b = some r) : ∃ v, (Go.binOp op t (.int k a) (.int k' b)).run C.P w = .ok v w ∧ VRel w U ι r v := by
 unfold z9f at h
 split at h
 ·cases h
 ·rename_i hb
  cases op <;> simp only [reduceCtorEq] at h
  ·cases h; exact ⟨_, by simp [Go.binOp, Op.shift, hb], .int _ _⟩
  ·cases h; exact ⟨_, by simp [Go.binOp, Op.shift, hb], .int _ _⟩
theorem j1k {op : BinOp} {x y : ByteArray} {t : TypeId} {r : AV} (h : strBin op x.data.toList y.data.toList = some r) : ∃ v, (Go.binOp op t (.string x) (.string y)).run C.P w = .ok v w ∧ VRel w U ι r v := by
 cases op <;> simp only [strBin, reduceCtorEq] at h
 ·split at h
  ·rename_i hl
   cases h
   have hl' : x.size + y.size ≤ 9223372036854775807 := by simpa using hl
   refine ⟨.string (x ++ y), ?_, .str _ _ ?_⟩
   ·rw [show Go.binOp .add t (.string x) (.string y) = Op.stringOp .add x y from by simp [Go.binOp]]
    exact run_string_add_sum w x y hl'
   ·rw [ByteArray.data_append, Array.toList_append]
  ·cases h
 all_goals
  cases h
  refine ⟨.bool _, ?_, .bool _⟩
  simp only [Go.binOp, Op.stringOp, ByteArray.toList_eq]
  rfl
theorem fits_iff {n : Int} : q4a n = true ↔ -9007199254740992 ≤ n ∧ n ≤ 9007199254740992 := by simp [q4a]
theorem z9k {x y : Nat} {a b : Int} (hx : Flt.FInt x a) (hy : Flt.FInt y b) (h : q4a (a + b) = true) : ∃ z, (Op.floatArith .add .f64 x y).run C.P w = .ok (.float .f64 z) w ∧ Flt.FInt z (a + b) := by
 obtain ⟨z, hz, hr⟩ := Flt.add_int hx hy (fits_iff.mp h).1 (fits_iff.mp h).2
 exact ⟨z, by simp [Op.floatArith, FloatKind.format, hz], hr⟩
theorem z9l {x y : Nat} {a b : Int} (hx : Flt.FInt x a) (hy : Flt.FInt y b) (h : q4a (a - b) = true) : ∃ z, (Op.floatArith .sub .f64 x y).run C.P w = .ok (.float .f64 z) w ∧ Flt.FInt z (a - b) := by
 obtain ⟨z, hz, hr⟩ := Flt.sub_int hx hy (fits_iff.mp h).1 (fits_iff.mp h).2
 exact ⟨z, by simp [Op.floatArith, FloatKind.format, hz], hr⟩
theorem z3v {x y : Nat} {a b : Int} (hx : Flt.FInt x a) (hy : Flt.FInt y b) (h : q4a (a * b) = true) : ∃ z, (Op.floatArith .mul .f64 x y).run C.P w = .ok (.float .f64 z) w ∧ Flt.FInt z (a * b) := by
 obtain ⟨z, hz, hr⟩ := Flt.mul_int hx hy (fits_iff.mp h).1 (fits_iff.mp h).2
 exact ⟨z, by simp [Op.floatArith, FloatKind.format, hz], hr⟩
theorem j1l {op : BinOp} {a b c d : Int} {x y u v : Nat} {t : TypeId} {r : AV} (hx : Flt.FInt x a) (hy : Flt.FInt y b) (hu : Flt.FInt u c) (hv : Flt.FInt v d) (h : q9j op a b c d = some r) :
  ∃ z, (Go.binOp op t (.complex .f64 x y) (.complex .f64 u v)).run C.P w = .ok z w ∧ VRel w U ι r z := by
 cases op <;> simp only [q9j, reduceCtorEq] at h
 ·split at h
  ·rename_i hf
   simp only [Bool.and_eq_true] at hf
   cases h
   obtain ⟨z1, h1, r1⟩ := z9k (C := C) (w := w) hx hu hf.1
   obtain ⟨z2, h2, r2⟩ := z9k (C := C) (w := w) hy hv hf.2
   exact ⟨.complex .f64 z1 z2, by simp [Go.binOp, Op.complexOp, Op.Complex.arith, h1, h2], .cpx _ _ _ _ r1 r2⟩
  ·cases h
 ·split at h
  ·rename_i hf
   simp only [Bool.and_eq_true] at hf
   cases h
   obtain ⟨z1, h1, r1⟩ := z9l (C := C) (w := w) hx hu hf.1
   obtain ⟨z2, h2, r2⟩ := z9l (C := C) (w := w) hy hv hf.2
   exact ⟨.complex .f64 z1 z2, by simp [Go.binOp, Op.complexOp, Op.Complex.arith, h1, h2], .cpx _ _ _ _ r1 r2⟩
  ·cases h
 ·split at h
  ·rename_i hf
   simp only [Bool.and_eq_true] at hf
   cases h
   obtain ⟨p1, h1, r1⟩ := z3v (C := C) (w := w) hx hu hf.1.1.1
   obtain ⟨p2, h2, r2⟩ := z3v (C := C) (w := w) hy hv hf.1.1.2
   obtain ⟨p3, h3, r3⟩ := z9l (C := C) (w := w) r1 r2 hf.1.2
   obtain ⟨p4, h4, r4⟩ := z3v (C := C) (w := w) hx hv hf.2.1.1
   obtain ⟨p5, h5, r5⟩ := z3v (C := C) (w := w) hy hu hf.2.1.2
   obtain ⟨p6, h6, r6⟩ := z9k (C := C) (w := w) r4 r5 hf.2.2
   exact ⟨.complex .f64 p3 p6, by
    simp [Go.binOp, Op.complexOp, Op.Complex.product, Op.Complex.mul, Op.Complex.sub, Op.Complex.add, Op.Complex.arith, Op.Complex.conv, h1, h2, h3, h4, h5, h6], .cpx _ _ _ _ r3 r6⟩
  ·cases h
theorem q4c (t : TypeId) (x y : Value) : Op.equal t x y = Op.equalIn (9999 + 1) t x y := rfl
theorem z4p {P : Program} {a : AV} {v : Value} {r : Bool} {t e : TypeId} (ht : P.underlying t = some (.slice e)) (h : VRel w U ι a v) (hn : z1o a = some r) :
  (Op.equal t v (.slice none 0 0)).run P w = .ok r w ∧ (Op.equal t (.slice none 0 0) v).run P w = .ok r w := by
 rw [q4c, q4c]
 generalize 9999 = d
 cases h <;> simp [z1o] at hn <;> subst hn <;> simp [Op.equalIn, run_underlying ht]
theorem j1m {P : Program} {a : AV} {v : Value} {r : Bool} {t e : TypeId} (ht : P.underlying t = some (.pointer e)) (h : VRel w U ι a v) (hn : z1p a = some r) :
  (Op.equal t v (.pointer none)).run P w = .ok r w ∧ (Op.equal t (.pointer none) v).run P w = .ok r w := by
 rw [q4c, q4c]
 generalize 9999 = d
 cases h <;> simp [z1p] at hn <;> subst hn <;> simp [Op.equalIn, run_underlying ht]
theorem z7r {P : Program} {a : AV} {v : Value} {r : Bool} {t : TypeId} {x y : Array TypeId} {z : Bool} (ht : P.underlying t = some (.func x y z)) (h : VRel w U ι a v) (hn : z1q a = some r) :
  (Op.equal t v .nilFunc).run P w = .ok r w ∧ (Op.equal t .nilFunc v).run P w = .ok r w := by
 rw [q4c, q4c]
 generalize 9999 = d
 cases h <;> simp [z1q] at hn <;> subst hn <;> simp [Op.equalIn, run_underlying ht]
theorem z3w {cs : List AV} {v : Value} (h : VRel w U ι (.agg cs) v) : ∃ vs, v = .agg vs.toArray ∧ LsRel w U ι cs vs := by
 cases h with
 | agg _ vs hl h1 h => exact ⟨vs, rfl, hl, h⟩
theorem j1n (hC : TOk C) {t : TypeId} {i : TI} (hi : C.TT t = some i) {ks : List CK} (hk : i.eqk = some ks) (ha : i.kind.isAgg = true) {xs ys : List AV} {v u : Value} {r : Bool} (hx : VRel w U ι (.agg xs) v) (hy : VRel w U ι (.agg ys) u) (h : cellsEq ks xs ys = some r) :
  (Op.equal t v u).run C.P w = .ok r w := by
 obtain ⟨vs, rfl, hv⟩ := z3w hx
 obtain ⟨us, rfl, hu⟩ := z3w hy
 have hok := hC.tt t i hi
 obtain ⟨hf, hg⟩ := hok.eq ks hk
 have := j9g (P := C.P) w Op.maxDepth t ks hf true (by rw [hok.run_isAgg, ha]) xs ys vs us r hv hu h
 simpa [z3i, Op.equal] using this
theorem j1o (hC : TOk C) {t : TypeId} {a b : AV} {v u : Value} {r : Bool} (ha : VRel w U ι a v) (hb : VRel w U ι b u) (h : eqv C t a b = some r) :
  (Op.equal t v u).run C.P w = .ok r w ∧ (∀ k n, v ≠ .int k n) ∧ (∀ s, v ≠ .string s) ∧ (∀ k n m, v ≠ .complex k n m) ∧ (∀ k n, v ≠ .float k n) ∧ (∀ (op : BinOp) (x y : Operand), (eqGuard op t x y v u).run C.P w = .ok () w) := by
 unfold eqv at h
 split at h
 ·cases h
 ·rename_i i hi
  have hk := (hC.tt t i hi).kind
  unfold KOk at hk
  split at h
  ·rename_i e
   rw [e] at hk
   cases ha; cases hb
   simp only [Option.some.injEq] at h
   subst h
   refine ⟨?_, by simp, by simp, by simp, by simp, fun op x y => by cases op <;> simp [eqGuard]⟩
   rw [q4c]
   exact run_equalIn_bool' w 9999 t _ _ hk.1
  ·rename_i fs e
   split at h
   ·rename_i ks hks
    refine ⟨j1n hC hi hks (by rw [e]; rfl) ha hb h, ?_⟩
    cases ha; cases hb
    exact ⟨by simp, by simp, by simp, by simp, fun op x y => run_eqGuard_agg w op t x y _ _ ((hC.tt t i hi).eq ks hks).2⟩
   ·cases h
  ·rename_i n el e
   split at h
   ·rename_i ks hks
    refine ⟨j1n hC hi hks (by rw [e]; rfl) ha hb h, ?_⟩
    cases ha; cases hb
    exact ⟨by simp, by simp, by simp, by simp, fun op x y => run_eqGuard_agg w op t x y _ _ ((hC.tt t i hi).eq ks hks).2⟩
   ·cases h
  ·rename_i e
   rw [e] at hk
   obtain ⟨⟨el, hu⟩, _⟩ := hk
   have hh := (j1m hu ha h).1
   cases hb
   refine ⟨hh, ?_⟩
   cases ha <;> simp [z1p] at h <;> exact ⟨by simp, by simp, by simp, by simp, fun op x y => by cases op <;> simp [eqGuard]⟩
  ·have e : i.kind = TK.ptr := ‹_›
   rw [e] at hk
   obtain ⟨⟨el, hu⟩, _⟩ := hk
   have hh := (j1m hu hb h).2
   cases ha
   refine ⟨hh, ?_⟩
   cases hb <;> simp [z1p] at h <;> exact ⟨by simp, by simp, by simp, by simp, fun op x y => by cases op <;> simp [eqGuard]⟩
  ·rename_i el e
   rw [e] at hk
   have hh := (z4p hk.1 ha h).1
   cases hb
   refine ⟨hh, ?_⟩
   cases ha <;> simp [z1o] at h <;> exact ⟨by simp, by simp, by simp, by simp, fun op x y => by cases op <;> simp [eqGuard]⟩
  ·rename_i el _ _
   have e : i.kind = TK.slice el := ‹_›
   rw [e] at hk
   have hh := (z4p hk.1 hb h).2
   cases ha
   refine ⟨hh, ?_⟩
   cases hb <;> simp [z1o] at h <;> exact ⟨by simp, by simp, by simp, by simp, fun op x y => by cases op <;> simp [eqGuard]⟩
  ·rename_i e
   rw [e] at hk
   obtain ⟨⟨_, _, _, hu⟩, _⟩ := hk
   have hh := (z7r hu ha h).1
   cases hb
   refine ⟨hh, ?_⟩
   cases ha <;> simp [z1q] at h <;> exact ⟨by simp, by simp, by simp, by simp, fun op x y => by cases op <;> simp [eqGuard]⟩
  ·have e : i.kind = TK.func := ‹_›
   rw [e] at hk
   obtain ⟨⟨_, _, _, hu⟩, _⟩ := hk
   have hh := (z7r hu hb h).2
   cases ha
   refine ⟨hh, ?_⟩
   cases hb <;> simp [z1q] at h <;> exact ⟨by simp, by simp, by simp, by simp, fun op x y => by cases op <;> simp [eqGuard]⟩
  ·cases h
theorem x1l (hC : TOk C) {op : BinOp} {t : TypeId} {a b r : AV} {va vb : Value} {x y : Operand} (ha : VRel w U ι a va) (hb : VRel w U ι b vb) (h : bin C op t a b = some r) :
  ∃ v, (do eqGuard op t x y va vb; Go.binOp op t va vb : Sem Value).run C.P w = .ok v w ∧ VRel w U ι r v := by
 unfold bin at h
 split at h
 ·rename_i k n k' m
  cases ha; cases hb
  have hg : (eqGuard op t x y (.int k n) (.int k' m)).run C.P w = .ok () w := by cases op <;> simp [eqGuard]
  simp only [Sem.run_bind, hg, Result.andThen_ok]
  split at h
  ·exact q9k h
  ·exact q9k h
  ·split at h
   ·rename_i hk; subst hk; exact j1j h
   ·cases h
 ·rename_i s s'
  cases ha with
  | str _ p hp =>
   cases hb with
   | str _ q hq =>
    have hg : (eqGuard op t x y (.string p) (.string q)).run C.P w = .ok () w := by cases op <;> simp [eqGuard]
    simp only [Sem.run_bind, hg, Result.andThen_ok]
    subst hp hq
    exact j1k h
 ·cases ha with
  | cpx _ _ _ _ h1 h2 =>
   cases hb with
   | cpx _ _ _ _ h3 h4 =>
    have hg : ∀ p q p' q', (eqGuard op t x y (.complex .f64 p q) (.complex .f64 p' q')).run C.P w = .ok () w := by intros; cases op <;> simp [eqGuard]
    simp only [Sem.run_bind, hg, Result.andThen_ok]
    exact j1l h1 h2 h3 h4 h
 ·split at h
  ·simp only [Option.map_eq_some_iff] at h
   obtain ⟨q, hq, rfl⟩ := h
   obtain ⟨h1, h2, h3, h4, h5, h6⟩ := j1o hC ha hb hq
   refine ⟨.bool q, ?_, .bool q⟩
   simp only [Sem.run_bind, h6, Result.andThen_ok]
   have : Go.binOp .eql t va vb = (do pure (.bool (← Op.equal t va vb)) : Sem Value) := by
    cases va <;> first | rfl | (exact absurd rfl (h2 _ _)) | (exact absurd rfl (h3 _)) | (exact absurd rfl (h4 _ _ _)) | (exact absurd rfl (h5 _ _)) | (cases vb <;> rfl)
   rw [this]
   simp [h1]
  ·simp only [Option.map_eq_some_iff] at h
   obtain ⟨q, hq, rfl⟩ := h
   obtain ⟨h1, h2, h3, h4, h5, h6⟩ := j1o hC ha hb hq
   refine ⟨.bool (!q), ?_, .bool _⟩
   simp only [Sem.run_bind, h6, Result.andThen_ok]
   have : Go.binOp .neq t va vb = (do pure (.bool (!(← Op.equal t va vb))) : Sem Value) := by
    cases va <;> first | rfl | (exact absurd rfl (h2 _ _)) | (exact absurd rfl (h3 _)) | (exact absurd rfl (h4 _ _ _)) | (exact absurd rfl (h5 _ _)) | (cases vb <;> rfl)
   rw [this]
   simp [h1]
  ·cases h
end Go.BX
namespace Go.BX
variable {C : Ctx} {w : World} {U : Nat → Prop} {ι : Nat → Option Nat}
theorem j7e (off : Nat) : ∀ (l : List Value) (n : Nat) (cs : Array Value), off + n + l.length ≤ cs.size →
  ((l.zipIdx n).foldl (fun (cs : Array Value) (p : Value × Nat) => cs.setIfInBounds (off + p.2) p.1) cs).toList = cs.toList.take (off + n) ++ l ++ cs.toList.drop (off + n + l.length)
 | [], n, cs, _ => by simp
 | x :: l, n, cs, h => by
  simp only [List.zipIdx_cons, List.foldl_cons]
  rw [j7e off l (n + 1) _ (by simp at h ⊢; omega)]
  have := list_seg_step cs.toList (off + n) x l (by simp at h ⊢; omega)
  simpa [Array.toList_setIfInBounds, Nat.add_assoc] using this
theorem x1m (off : Nat) (l : Array Value) (cs : Array Value) (h : off + l.size ≤ cs.size) :
  l.zipIdx.foldl (fun (cs : Array Value) (p : Value × Nat) => cs.setIfInBounds (off + p.2) p.1) cs = (cs.toList.take off ++ l.toList ++ cs.toList.drop (off + l.size)).toArray := by
 apply Array.ext'
 rw [← Array.foldl_toList, Array.toList_zipIdx]
 have := j7e off l.toList 0 cs (by simpa using h)
 simpa using this
theorem j9h {cs ds : List AV} {vs us : List Value} {off : Nat} (h : LsRel w U ι cs vs) (h' : LsRel w U ι ds us) :
  LsRel w U ι (splice cs off ds) (vs.take off ++ us ++ vs.drop (off + us.length)) := by
 unfold splice
 rw [h'.1]
 exact ((h.take off).append h').append (h.drop _)
theorem j9i {cs ds : List AV} {off : Nat} (h : ∀ a, a ∈ cs → a.one = true) (h' : ∀ a, a ∈ ds → a.one = true) : ∀ a, a ∈ splice cs off ds → a.one = true := by
 intro a ha
 unfold splice at ha
 simp only [List.mem_append] at ha
 rcases ha with (ha | ha) | ha
 ·exact h a (List.mem_of_mem_take ha)
 ·exact h' a ha
 ·exact h a (List.mem_of_mem_drop ha)
theorem z7s {cs ds : List AV} {off : Nat} (h : off + ds.length ≤ cs.length) : (splice cs off ds).length = cs.length := by
 unfold splice; simp; omega
theorem q8k {pa pc : Nat → Option (Nat × Nat)} (hp : ∀ i p, pa i = some p → pc i = some p) : ∀ {ps : List (Nat × AV)} {us : List (Nat × Value)} {cs r : List AV} {vs : List Value},
  us.length = ps.length → (∀ (i : Nat) (p : Nat × AV) (u : Nat × Value), ps[i]? = some p → us[i]? = some u → p.1 = u.1 ∧ VRel w U ι p.2 u.2) →
  LsRel w U ι cs vs → (∀ a, a ∈ cs → a.one = true) → fillA pa cs ps = some r →
   ∃ xs, Instr.fill pc vs.toArray us = some xs.toArray ∧ LsRel w U ι r xs ∧ (∀ a, a ∈ r → a.one = true) ∧ r.length = cs.length
 | [], us, cs, r, vs, hl, _, hv, h1, h => by
  have : us = [] := List.eq_nil_of_length_eq_zero (by simpa using hl)
  subst this
  simp only [fillA, Option.some.injEq] at h
  subst h
  exact ⟨vs, rfl, hv, h1, rfl⟩
 | (i, a) :: ps, [], cs, r, vs, hl, _, _, _, _ => by simp at hl
 | (i, a) :: ps, (j, u) :: us, cs, r, vs, hl, hr, hv, h1, h => by
  obtain ⟨hij, hau⟩ := hr 0 (i, a) (j, u) rfl rfl
  simp only at hij hau
  subst hij
  simp only [fillA] at h
  split at h
  ·cases h
  ·rename_i off size hpl
   split at h
   ·rename_i hc
    obtain ⟨hpla, hsz, hle⟩ := hc
    obtain ⟨hcr, hco⟩ := hau.cells_rel hpla
    have hus : u.cells.size = size := by rw [← hsz, ← hcr.1]; simp
    have hvs : vs.length = cs.length := hv.1
    have hspl := j9h (off := off) hv hcr
    have q2u : off + a.cells.length ≤ cs.length := by omega
    obtain ⟨xs, hx, hxr, hxo, hxl⟩ := q8k hp (us := us) (by simpa using hl) (fun k p q hp hq => hr (k + 1) p q hp hq) hspl (j9i h1 hco) h
    refine ⟨xs, ?_, hxr, hxo, by rw [hxl, z7s q2u]⟩
    simp only [Instr.fill, hp i _ hpl]
    rw [if_neg (by simp [hus]; omega), x1m off u.cells _ (by simp [hus]; omega)]
    simpa using hx
   ·cases h
theorem j7f {α β : Type} {P : Program} {f : α → Sem β} {g : α → β} : ∀ {l : List α}, (∀ x, x ∈ l → (f x).run P w = .ok (g x) w) → (l.mapM f).run P w = .ok (l.map g) w
 | [], _ => by simp
 | x :: l, h => by
  rw [List.mapM_cons]
  simp [h x (by simp), j7f (l := l) (fun y hy => h y (by simp [hy]))]
theorem j4y (hC : TOk C) {t : TypeId} {ps : List (Nat × AV)} {us : List (Nat × Value)} {r : AV}
  (hl : us.length = ps.length) (hr : ∀ (i : Nat) (p : Nat × AV) (u : Nat × Value), ps[i]? = some p → us[i]? = some u → p.1 = u.1 ∧ VRel w U ι p.2 u.2)
  (h : buildA C t ps = some r) : ∃ v, (Instr.build t us.toArray).run C.P w = .ok v w ∧ VRel w U ι r v := by
 unfold buildA at h
 split at h
 ·cases h
 ·rename_i ti hti
  have hok := hC.tt t ti hti
  have hk := hok.kind
  obtain ⟨z, hz, hzm, hzs⟩ := hok.run_zero (w := w)
  have hzr : LsRel w U ι ti.zero z.cells.toList := LsRel.ofConsts hzm
  unfold KOk at hk
  split at h
  ·rename_i fields e
   rw [e] at hk
   obtain ⟨fl, hu, rfl, hfl⟩ := hk
   simp only [Option.map_eq_some_iff] at h
   obtain ⟨cs, hcs, rfl⟩ := h
   let g : Field → Nat × Nat := fun f => (f.offset, (C.P.cellsOf f.type))
   have hg : ∀ f, f ∈ fl.toList → (do pure (f.offset, ← sizeOf f.type) : Sem (Nat × Nat)).run C.P w = .ok (g f) w := by
    intro f hf
    obtain ⟨tf, htf, _, _⟩ := hfl f hf
    obtain ⟨i, hi, hs, _⟩ := (hC.tt _ _ htf).info
    simp [g, sizeOf, typeInfo, hi, Program.cellsOf]
   have hpl : ∀ (i : Nat) (p : Nat × Nat), ((fl.toList.map (fun f => (f.type, f.offset)))[i]?).bind (fun (f : TypeId × Nat) => (sizeT C f.1).map fun s => (f.2, s)) = some p → (fl.map g)[i]? = some p := by
    intro i p hp
    rw [List.getElem?_map] at hp
    cases hfi : fl.toList[i]? with
    | none => rw [hfi] at hp; simp at hp
    | some f =>
     rw [hfi] at hp
     obtain ⟨tf, htf, _, _⟩ := hfl f (List.mem_of_getElem? hfi)
     obtain ⟨inf, hi, hs, _⟩ := (hC.tt _ _ htf).info
     simp only [Option.map_some, Option.bind_some, sizeT, htf, Option.some.injEq] at hp
     subst hp
     have : fl[i]? = some f := by rw [← Array.getElem?_toList]; exact hfi
     simp [this, g, Program.cellsOf, hi, hs]
   obtain ⟨xs, hx, hxr, hxo, _⟩ := q8k (pc := fun i => (fl.map g)[i]?) hpl hl hr hzr hok.zero_one hcs
   refine ⟨.agg xs.toArray, ?_, .agg _ _ hxr.1 hxo hxr.2⟩
   unfold Instr.build
   simp only [Sem.run_bind, hz, run_underlying hu, Result.andThen_ok]
   have hm : (fl.mapM fun f => (do pure (f.offset, ← sizeOf f.type) : Sem (Nat × Nat))).run C.P w = .ok (fl.map g) w := by
    rw [Array.mapM_eq_mapM_toList]
    simp only [Sem.run_map, j7f hg, Result.andThen_ok]
    congr 1
    apply Array.ext'
    simp
   simp only [hm, Result.andThen_ok]
   have e2 : z.cells = z.cells.toList.toArray := by simp
   rw [e2, hx]
   rfl
  ·rename_i n el e
   rw [e] at hk
   obtain ⟨hu, te, hte, _, _⟩ := hk
   simp only [sizeT, hte, Option.map_some] at h
   simp only [Option.map_eq_some_iff] at h
   obtain ⟨cs, hcs, rfl⟩ := h
   obtain ⟨xs, hx, hxr, hxo, _⟩ := q8k (pc := fun i => some (i * te.size, te.size)) (fun i p hp => hp) hl hr hzr hok.zero_one hcs
   refine ⟨.agg xs.toArray, ?_, .agg _ _ hxr.1 hxo hxr.2⟩
   unfold Instr.build
   simp only [Sem.run_bind, hz, run_underlying hu, Result.andThen_ok, (hC.tt _ _ hte).run_sizeOf]
   have e2 : z.cells = z.cells.toList.toArray := by simp
   rw [e2, hx]
   rfl
  ·cases h
theorem z4q {b : AV} {v : Value} {y n : Nat} {code : BoundsCode} (hb : VRel w U ι b v) {y' : Nat} (hy : y ≤ y') (h : z3h b y = some n) : (Instr.sliceBound v y' code).run C.P w = .ok n w ∧ n ≤ y := by
 unfold z3h at h
 cases hb with
 | int k m =>
  simp only at h
  split at h
  ·rename_i hm
   cases h
   refine ⟨?_, by omega⟩
   have : 0 ≤ m ∧ m ≤ (y' : Int) := by omega
   simp [Instr.sliceBound, asIntOf, this]
  ·cases h
 | _ => simp at h
def j1p (w : World) (U : Nat → Prop) (ι : Nat → Option Nat) : Option AV → Option Value → Prop
 | none, none => True
 | some a, some v => VRel w U ι a v
 | _, _ => False
theorem z4r {T : Nat → AV} {a : Act} (hT : TRel w U ι T a.tmps) {x : Option Operand} {b : Option AV} (h : evo T x = some b) : j1p w U ι b (x.map a.eval) := by
 unfold evo at h
 split at h
 ·cases h; trivial
 ·split at h
  ·rename_i hv; cases h; exact q0u hT hv
  ·cases h
theorem j1q {lo hi : Option AV} {vlo vhi : Option Value} (hlo : j1p w U ι lo vlo) (hhi : j1p w U ι hi vhi) {isS : Bool} {n cap h l : Nat} (hn : n ≤ cap)
  (eh : (match (generalizing := false) hi with | some h => z3h h n | none => some n) = some h) (el : (match (generalizing := false) lo with | some l => z3h l h | none => some 0) = some l) :
  (Instr.sliceBounds isS n cap vlo vhi none).run C.P w = .ok (l, h, cap) w ∧ l ≤ h ∧ h ≤ n := by
 have hh : (match (generalizing := false) vhi with | some v => Instr.sliceBound v cap (if isS then .sliceAcap else .sliceAlen) | none => pure n : Sem Nat).run C.P w = .ok h w ∧ h ≤ n := by
  cases hi <;> cases vhi <;> simp only [j1p] at hhi
  ·simp only [Option.some.injEq] at eh; subst eh; exact ⟨by simp, Nat.le_refl _⟩
  ·exact z4q hhi hn eh
 have hl : (match (generalizing := false) vlo with | some v => Instr.sliceBound v h (if (none : Option Value).isSome then .slice3C else .sliceB) | none => pure 0 : Sem Nat).run C.P w = .ok l w ∧ l ≤ h := by
  cases lo <;> cases vlo <;> simp only [j1p] at hlo
  ·simp only [Option.some.injEq] at el; subst el; exact ⟨by simp, Nat.zero_le _⟩
  ·exact z4q hlo (Nat.le_refl _) el
 refine ⟨?_, hl.2, hh.2⟩
 unfold Instr.sliceBounds
 cases vhi <;> cases vlo <;> simp at hh hl ⊢ <;> simp [hh.1, hl.1]
end Go.BX
namespace Go.BX
variable {C : Ctx} {w : World} {U : Nat → Prop} {ι : Nat → Option Nat}
theorem q8l {lo hi : Option AV} {vlo vhi : Option Value} (hlo : j1p w U ι lo vlo) (hhi : j1p w U ι hi vhi) {isS : Bool} {n cap : Nat} {p : Nat × Nat} (hn : n ≤ cap) (h : j4t lo hi n = some p) :
  (Instr.sliceBounds isS n cap vlo vhi none).run C.P w = .ok (p.1, p.2, cap) w ∧ p.1 ≤ p.2 ∧ p.2 ≤ n := by
 unfold j4t at h
 split at h
 ·cases h
 ·rename_i hh ehh
  split at h
  ·cases h
  ·rename_i l el
   cases h
   exact j1q hlo hhi hn ehh el
theorem q7n (hC : TOk C) {t : TypeId} {k : Nat} (h : sizeT C t = some k) : (sizeOf t).run C.P w = .ok k w := by
 unfold sizeT at h
 simp only [Option.map_eq_some_iff] at h
 obtain ⟨ti, hti, rfl⟩ := h
 exact (hC.tt _ _ hti).run_sizeOf
theorem Addr.add_eq (c off n : Nat) : (⟨c, off, none⟩ : Addr).add n = ⟨c, off + n, none⟩ := by
 unfold Addr.add; split <;> simp_all
theorem Addr.add_none {a : Addr} (n : Nat) (h : a.spot = none) : a.add n = ⟨a.block, a.off + n, none⟩ := by
 cases a; simp at h; subst h; exact Addr.add_eq _ _ _
theorem j1r {k : Nat} {es : List (List AV)} {a : Addr} {cap : Nat} (hv : VRel w U ι (.vec k es) (.slice (some a) es.length cap)) {l h : Nat} (hlh : l ≤ h) (hh : h ≤ es.length) (b : Addr) (cap' : Nat) (hcap' : h - l ≤ cap')
  (hb : l < h → b = a.add (l * k)) : VRel w U ι (.vec k ((es.take h).drop l)) (.slice (some b) (h - l) cap') := by
 cases hv with
 | vec _ _ _ _ ys hcap hk hU hs hc h1 hr =>
  have q2u : ((es.take h).drop l).length = h - l := by simp; omega
  rw [show h - l = ((es.take h).drop l).length from q2u.symm]
  have j7b : ∀ (i : Nat) (e : List AV), ((es.take h).drop l)[i]? = some e → es[l + i]? = some e := by
   intro i e he
   rw [List.getElem?_drop, List.getElem?_take] at he
   split at he
   ·exact he
   ·cases he
  have y3a : ∀ e, e ∈ (es.take h).drop l → e ∈ es := fun e he => List.mem_of_mem_take (List.mem_of_mem_drop he)
  have hne : (es.take h).drop l ≠ [] → l < h := by
   intro hne
   rcases Nat.lt_or_ge l h with h' | h'
   ·exact h'
   ·exact absurd (List.eq_nil_of_length_eq_zero (by rw [q2u]; omega)) hne
  have y0d : l < h → es ≠ [] := by rintro hl rfl; simp at hh; omega
  refine .vec _ b k cap' (fun i j => ys (l + i) j) (by rw [q2u]; exact hcap') (fun e he => hk e (y3a e he)) (fun h' => ?_) (fun h' => ?_) (fun i j hi hj => ?_) (fun e he => h1 e (y3a e he)) (fun i e j x he hx => hr (l + i) e j x (j7b i e he) hx)
  ·rw [hb (hne h'), Addr.add_none _ (hs (y0d (hne h')))]; exact hU (y0d (hne h'))
  ·rw [hb (hne h'), Addr.add_none _ (hs (y0d (hne h')))]
  ·rw [q2u] at hi
   have hl : l < h := by omega
   have hba := hb hl
   rw [Addr.add_none _ (hs (y0d hl))] at hba
   subst hba
   have := hc (l + i) j (by omega) hj
   simpa [Nat.add_mul, Nat.add_assoc] using this
theorem j4z (hC : TOk C) {t : TypeId} {x r : AV} {v : Value} {lo hi mx : Option AV} {vlo vhi vmx : Option Value} (hx : VRel w U ι x v) (hlo : j1p w U ι lo vlo) (hhi : j1p w U ι hi vhi) (hmx : j1p w U ι mx vmx)
  (h : q4r C t x lo hi mx = some r) : ∃ u, (Instr.sliceAt t v vlo vhi vmx).run C.P w = .ok u w ∧ VRel w U ι r u := by
 unfold q4r at h
 split at h
 ·-- a string
  rename_i sz by_ zr eq hti
  have hk := (hC.tt _ _ hti).kind
  simp only [KOk] at hk
  cases vmx with
  | some _ => simp [j1p] at hmx
  | none =>
   split at h
   ·rename_i s
    simp only [Option.map_eq_some_iff] at h
    obtain ⟨p, hp, rfl⟩ := h
    cases hx with
    | str _ b hb =>
     subst hb
     obtain ⟨hr, hle, hle'⟩ := q8l (C := C) (isS := false) (cap := b.size) hlo hhi (by simp) hp
     refine ⟨.string (b.extract p.1 p.2), ?_, .str _ _ ?_⟩
     ·unfold Instr.sliceAt
      simp only [Sem.run_bind, run_underlying hk.1, Result.andThen_ok]
      unfold Instr.slice
      simp only [Sem.run_bind, run_underlying hk.1, Result.andThen_ok]
      have hsz : b.data.toList.length = b.size := by simp
      rw [hsz] at hr
      simp [hr]
     ·rw [ByteArray.data_extract, Array.toList_extract, List.extract_eq_take_drop, List.drop_take]
   ·cases h
 ·-- a slice
  rename_i elem sz by_ zr eq hti
  have hk := (hC.tt _ _ hti).kind
  simp only [KOk] at hk
  cases vmx with
  | some _ => simp [j1p] at hmx
  | none =>
   have main : ∀ (a : Option Addr) (len cap : Nat) (p : Nat × Nat), v = .slice a len cap → len ≤ cap → j4t lo hi len = some p → ∀ (k : Nat), (p.1 ≠ cap → (sizeOf elem).run C.P w = .ok k w) → (∃ k', (sizeOf elem).run C.P w = .ok k' w) →
     (Instr.sliceAt t v vlo vhi none).run C.P w = .ok (.slice (if cap = p.1 then a else a.map (·.add (p.1 * k))) (p.2 - p.1) (cap - p.1)) w ∧ p.1 ≤ p.2 ∧ p.2 ≤ len := by
    intro a len cap p hv hle hp k hsz y0g
    obtain ⟨hr, h1, h2⟩ := q8l (C := C) (isS := true) (cap := cap) hlo hhi hle hp
    refine ⟨?_, h1, h2⟩
    subst hv
    unfold Instr.sliceAt
    simp only [Sem.run_bind, run_underlying hk.1, Result.andThen_ok]
    unfold Instr.slice
    simp only [Sem.run_bind, run_underlying hk.1, Result.andThen_ok, hr]
    obtain ⟨k', hk'⟩ := y0g
    simp only [hk', Result.andThen_ok, Sem.run_pure]
    by_cases e : cap = p.1
    ·simp [e]
    ·have := hsz (fun h => e h.symm)
     rw [hk'] at this
     cases this
     simp [e]
   split at h
   ·rename_i k es
    split at h
    ·rename_i hsz
     have q3e := q7n (w := w) hC hsz
     simp only [Option.map_eq_some_iff] at h
     obtain ⟨p, hp, rfl⟩ := h
     have hx' := hx
     cases hx with
     | vec _ a _ cap ys hcap hkk hU hs hc h1 hr =>
      obtain ⟨hr, hle, hle'⟩ := main (some a) es.length cap p rfl hcap hp k (fun _ => q3e) ⟨k, q3e⟩
      refine ⟨_, hr, ?_⟩
      by_cases e : cap = p.1
      ·simp only [e, if_true]
       exact j1r hx' hle hle' a _ (by omega) (fun hl => by omega)
      ·simp only [e, if_false, Option.map_some]
       exact j1r hx' hle hle' _ _ (by omega) (fun _ => rfl)
    ·cases h
   ·rename_i b k i n
    split at h
    ·rename_i hsz
     have q3e := q7n (w := w) hC hsz
     simp only [Option.map_eq_some_iff] at h
     obtain ⟨p, hp, rfl⟩ := h
     cases hx with
     | slc _ _ _ _ c off cap m tt hb ho hn hs hm =>
      obtain ⟨hr, hle, hle'⟩ := main (some ⟨c, off, none⟩) n cap p rfl hn hp k (fun _ => q3e) ⟨k, q3e⟩
      refine ⟨_, hr, ?_⟩
      by_cases e : cap = p.1
      ·simp only [e, if_true]
       have h0 : p.2 - p.1 = 0 := by omega
       rw [h0]
       refine .slc b k _ 0 c off _ m tt hb (fun hh => ?_) (by omega) hs (by simp; omega)
       rcases hh with hh | hh
       ·exact absurd rfl hh
       ·have : i = 0 ∧ p.1 = 0 := by omega
        rw [this.1, this.2]
        have := ho (.inr this.1)
        rw [this, ‹i = 0 ∧ p.1 = 0›.1]
      ·simp only [e, if_false, Option.map_some, Addr.add_eq]
       have hlt : p.1 < cap := by omega
       refine .slc b k _ _ c _ _ m tt hb (fun hh => ?_) (by omega) hs ?_
       ·rcases hh with hh | hh
        ·rw [ho (.inl (by omega)), Nat.add_mul]
        ·have : i = 0 ∧ p.1 = 0 := by omega
         rw [ho (.inr this.1), this.1, this.2]; simp
       ·have : cap * k = p.1 * k + (cap - p.1) * k := by rw [← Nat.add_mul]; congr 1; omega
        omega
    ·cases h
   ·simp only [Option.map_eq_some_iff] at h
    obtain ⟨p, hp, rfl⟩ := h
    cases hx
    have y0g : ∃ k', (sizeOf elem).run C.P w = .ok k' w := by obtain ⟨te, hte⟩ := hk.2.2; exact ⟨_, (hC.tt _ _ hte).run_sizeOf⟩
    obtain ⟨hr, hle, hle'⟩ := main none 0 0 p rfl (Nat.le_refl _) hp 0 (fun hne => by
     obtain ⟨_, h1, h2⟩ := q8l (C := C) (w := w) (isS := true) (cap := 0) hlo hhi (Nat.le_refl _) hp
     omega) y0g
    refine ⟨_, hr, ?_⟩
    have h0 : p.1 = 0 ∧ p.2 = 0 := by omega
    simp [h0]
    exact .nilS
   ·simp only [Option.map_eq_some_iff] at h
    obtain ⟨p, hp, rfl⟩ := h
    cases hx with
    | emp a =>
     have y0g : ∃ k', (sizeOf elem).run C.P w = .ok k' w := by obtain ⟨te, hte⟩ := hk.2.2; exact ⟨_, (hC.tt _ _ hte).run_sizeOf⟩
     obtain ⟨hr, hle, hle'⟩ := main (some a) 0 0 p rfl (Nat.le_refl _) hp 0 (fun hne => by
      obtain ⟨_, h1, h2⟩ := q8l (C := C) (w := w) (isS := true) (cap := 0) hlo hhi (Nat.le_refl _) hp
      omega) y0g
     refine ⟨_, hr, ?_⟩
     have h0 : p.1 = 0 ∧ p.2 = 0 := by omega
     simp [h0]
     exact .emp a
   ·cases h
 ·rename_i elem sz by_ zr eq k0 hti
  have hk := (hC.tt _ _ hti).kind
  simp only [KOk] at hk
  obtain ⟨te, hte⟩ := hk.2.2
  have hsz := (hC.tt _ _ hte).run_sizeOf (w := w)
  cases vmx with
  | none => simp [j1p] at hmx
  | some m0 =>
   simp only [j1p] at hmx
   cases hmx
   split at h
   ·rename_i k1
    cases vlo with
    | some _ => simp [j1p] at hlo
    | none =>
     cases vhi with
     | none => simp [j1p] at hhi
     | some h0 =>
      simp only [j1p] at hhi
      cases hhi
      have run : ∀ (a : Option Addr) (n cap : Nat), (Instr.sliceAt t (.slice a n cap) none (some (.int k1 0)) (some (.int k0 0))).run C.P w = .ok (.slice a 0 0) w := by
       intro a n cap
       unfold Instr.sliceAt
       simp only [Sem.run_bind, run_underlying hk.1, Result.andThen_ok]
       unfold Instr.slice
       simp only [Sem.run_bind, run_underlying hk.1, Result.andThen_ok]
       simp [Instr.sliceBounds, Instr.sliceBound, asIntOf, hsz]
      split at h
      ·cases h; cases hx; exact ⟨_, run _ _ _, .nilS⟩
      ·cases h
       cases hx with
       | vec _ a => exact ⟨_, run _ _ _, .emp a⟩
      ·cases h
       cases hx with
       | emp a => exact ⟨_, run _ _ _, .emp a⟩
      ·cases h
       cases hx with
       | slc => exact ⟨_, run _ _ _, .emp _⟩
      ·cases h
   ·cases h
 ·cases h
theorem z4s (hC : TOk C) {t : TypeId} {x ix r : AV} {v u : Value} (hx : VRel w U ι x v) (hi : VRel w U ι ix u) (h : indexAddrA C t x ix = some r) :
  ∃ z, (Instr.indexAt t v u).run C.P w = .ok z w ∧ VRel w U ι r z := by
 unfold indexAddrA at h
 split at h
 ·rename_i elem sz by_ zr eq kk n hti
  have hk := (hC.tt _ _ hti).kind
  simp only [KOk] at hk
  cases hi
  split at h
  ·rename_i b k i m
   split at h
   ·rename_i hc
    obtain ⟨hsz, h0, h1⟩ := hc
    cases h
    have q3e := q7n (w := w) hC hsz
    cases hx with
    | slc _ _ _ _ c off cap mm tt hb ho hn hs hm =>
     have x6n := ho (.inl (by omega))
     refine ⟨.pointer (some ⟨c, (i + n.toNat) * k + 0, none⟩), ?_, .ptr _ _ _ _ _ hb⟩
     unfold Instr.indexAt
     simp only [asIntOf, Sem.run_pure, Sem.run_bind, run_underlying hk.1, Result.andThen_ok]
     have hc2 : 0 ≤ n ∧ n < (m : Int) := ⟨h0, h1⟩
     simp [hc2, q3e, Addr.add_eq, x6n, Nat.add_mul]
   ·cases h
  ·rename_i k es
   split at h
   ·rename_i hc
    obtain ⟨hsz, h0, h1⟩ := hc
    cases h
    have q3e := q7n (w := w) hC hsz
    cases hx with
    | vec _ a _ cap ys hcap hkk hU hs hc h1' hr =>
     have hne : es ≠ [] := by rintro rfl; simp at h1; omega
     refine ⟨.pointer (some ⟨a.block, a.off + n.toNat * k + 0, none⟩), ?_, .vptr es a.block a.off k _ _ ys hkk (hU hne) hc h1' hr⟩
     unfold Instr.indexAt
     simp only [asIntOf, Sem.run_pure, Sem.run_bind, run_underlying hk.1, Result.andThen_ok]
     have hc2 : 0 ≤ n ∧ n < (es.length : Int) := ⟨h0, h1⟩
     simp [hc2, q3e, Addr.add_none _ (hs hne)]
   ·cases h
  ·cases h
 ·rename_i len elem sz by_ zr eq kk n hti
  have hk := (hC.tt _ _ hti).kind
  simp only [KOk] at hk
  cases hi
  split at h
  ·rename_i b k i j s hsz
   split at h
   ·rename_i hc
    cases h
    have q3e := q7n (w := w) hC hsz
    cases hx with
    | ptr _ _ _ _ c hb =>
     refine ⟨.pointer (some ⟨c, i * k + (j + n.toNat * s), none⟩), ?_, .ptr _ _ _ _ _ hb⟩
     unfold Instr.indexAt
     simp only [asIntOf, Sem.run_pure, Sem.run_bind, run_underlying hk.1, Result.andThen_ok]
     simp [Instr.sureAddr, hc, q3e, Addr.add_eq, Nat.add_assoc]
   ·cases h
  ·cases h
 ·cases h
theorem j5a (hC : TOk C) {t : TypeId} {x ix r : AV} {v u : Value} (hx : VRel w U ι x v) (hi : VRel w U ι ix u) (h : q0n C t x ix = some r) :
  ∃ z, (Instr.index t v u).run C.P w = .ok z w ∧ VRel w U ι r z := by
 unfold q0n at h
 split at h
 ·rename_i sz by_ zr eq s kk n hti
  have hk := (hC.tt _ _ hti).kind
  simp only [KOk] at hk
  cases hi
  cases hx with
  | str _ b hb =>
   split at h
   ·rename_i h0
    simp only [Option.map_eq_some_iff] at h
    obtain ⟨c, hc, rfl⟩ := h
    refine ⟨.int .u8 c.toNat, ?_, .int _ _⟩
    unfold Instr.index
    simp only [asIntOf, Sem.run_pure, Sem.run_bind, run_underlying hk.1, Result.andThen_ok]
    have hb2 : b[n.toNat]? = some c := by
     subst hb
     obtain ⟨hlt, he⟩ := List.getElem?_eq_some_iff.mp hc
     have y8h : n.toNat < b.size := by simpa using hlt
     rw [ByteArray.getElem?_lt' b _ y8h]
     congr 1
    simp [h0, hb2]
   ·cases h
 ·rename_i len elem sz by_ zr eq cs kk n hti
  have hk := (hC.tt _ _ hti).kind
  simp only [KOk] at hk
  cases hi
  split at h
  ·rename_i te hte
   split at h
   ·rename_i hc
    obtain ⟨vs, rfl, hv⟩ := z3w hx
    have h1 : ∀ a, a ∈ cs → a.one = true := by cases hx; assumption
    obtain ⟨z, hz, hzr⟩ := z7q (hC.tt _ _ hte) hv h1 h
    refine ⟨z, ?_, hzr⟩
    unfold Instr.index
    simp only [asIntOf, Sem.run_pure, Sem.run_bind, run_underlying hk.1, Result.andThen_ok]
    simp [hc, (hC.tt _ _ hte).run_sizeOf, hz]
   ·cases h
  ·cases h
 ·cases h
theorem z2m (hC : TOk C) {t : TypeId} {f : Nat} {ft : TypeId} {off : Nat} (h : fieldOf C t f = some (ft, off)) :
  ∃ fl fd, C.P.underlying t = some (.struct fl) ∧ fl[f]? = some fd ∧ fd.type = ft ∧ fd.offset = off ∧ ∃ tf, C.TT ft = some tf ∧ tf.size ≠ 0 := by
 unfold fieldOf at h
 split at h
 ·rename_i fields sz by_ zr eq hti
  have hk := (hC.tt _ _ hti).kind
  simp only [KOk] at hk
  obtain ⟨fl, hu, rfl, hfl⟩ := hk
  rw [List.getElem?_map] at h
  simp only [Option.map_eq_some_iff] at h
  obtain ⟨fd, hfd, he⟩ := h
  cases he
  obtain ⟨tf, htf, h0, _⟩ := hfl fd (List.mem_of_getElem? hfd)
  exact ⟨fl, fd, hu, by rw [← Array.getElem?_toList]; exact hfd, rfl, rfl, tf, htf, h0⟩
 ·cases h
theorem z4t (hC : TOk C) {t : TypeId} {f : Nat} {ft : TypeId} {off c o : Nat} (h : fieldOf C t f = some (ft, off)) :
  (Instr.fieldAt t (.pointer (some ⟨c, o, none⟩)) f).run C.P w = .ok (.pointer (some ⟨c, o + off, none⟩)) w := by
 obtain ⟨fl, fd, hu, hfd, rfl, rfl, tf, htf, h0⟩ := z2m hC h
 unfold Instr.fieldAt
 simp only [Sem.run_bind, run_underlying hu, Result.andThen_ok, hfd]
 simp [Instr.sureAddr, fieldPlace, (hC.tt _ _ htf).run_sizeOf, h0, Addr.add_eq]
theorem j5b (hC : TOk C) {t : TypeId} {f : Nat} {ft : TypeId} {off : Nat} {ti : TI} {cs : List AV} {v : Value} {r : AV} (h : fieldOf C t f = some (ft, off)) (hti : C.TT ft = some ti) (hx : VRel w U ι (.agg cs) v) (hp : part ti cs off = some r) :
  ∃ z, (Instr.field t v f).run C.P w = .ok z w ∧ VRel w U ι r z := by
 obtain ⟨fl, fd, hu, hfd, rfl, rfl, tf, htf, h0⟩ := z2m hC h
 obtain ⟨vs, rfl, hv⟩ := z3w hx
 have h1 : ∀ a, a ∈ cs → a.one = true := by cases hx; assumption
 obtain ⟨z, hz, hzr⟩ := z7q (hC.tt _ _ hti) hv h1 hp
 refine ⟨z, ?_, hzr⟩
 unfold Instr.field
 simp only [Sem.run_bind, run_underlying hu, Result.andThen_ok, hfd]
 simp [asAgg, hz]
theorem z7t {k : IntKind} : ∀ {rest : List AV} {vs : List Value} {a n : Int}, LsRel w U ι rest vs → x7a k a rest = some n → (vs.foldlM Builtin.min2 (.int k a)).run C.P w = .ok (.int k n) w
 | [], vs, a, n, hr, h => by
  have : vs = [] := List.eq_nil_of_length_eq_zero (by simpa using hr.1)
  subst this
  simp only [x7a, Option.some.injEq] at h; subst h; simp
 | x :: rest, vs, a, n, hr, h => by
  cases x <;> simp only [x7a, reduceCtorEq] at h
  rename_i k' b
  split at h
  ·rename_i hk
   subst hk
   match vs, hr with
   | v :: vs, hr =>
    have hv := hr.2 0 _ v rfl rfl
    cases hv
    have hr' : LsRel w U ι rest vs := ⟨by have := hr.1; simpa using this, fun i a v ha hv => hr.2 (i + 1) a v (by simpa using ha) (by simpa using hv)⟩
    simp [Builtin.min2, z7t hr' h]
   | [], hr => simp [LsRel] at hr
  ·cases h
theorem z7u {k : IntKind} : ∀ {rest : List AV} {vs : List Value} {a n : Int}, LsRel w U ι rest vs → y0m k a rest = some n → (vs.foldlM Builtin.max2 (.int k a)).run C.P w = .ok (.int k n) w
 | [], vs, a, n, hr, h => by
  have : vs = [] := List.eq_nil_of_length_eq_zero (by simpa using hr.1)
  subst this
  simp only [y0m, Option.some.injEq] at h; subst h; simp
 | x :: rest, vs, a, n, hr, h => by
  cases x <;> simp only [y0m, reduceCtorEq] at h
  rename_i k' b
  split at h
  ·rename_i hk
   subst hk
   match vs, hr with
   | v :: vs, hr =>
    have hv := hr.2 0 _ v rfl rfl
    cases hv
    have hr' : LsRel w U ι rest vs := ⟨by have := hr.1; simpa using this, fun i a v ha hv => hr.2 (i + 1) a v (by simpa using ha) (by simpa using hv)⟩
    simp [Builtin.max2, z7u hr' h]
   | [], hr => simp [LsRel] at hr
  ·cases h
theorem LsRel.tail {a : AV} {v : Value} {cs : List AV} {vs : List Value} (hr : LsRel w U ι (a :: cs) (v :: vs)) : LsRel w U ι cs vs :=
 ⟨by have := hr.1; simpa using this, fun i a v ha hv => hr.2 (i + 1) a v (by simpa using ha) (by simpa using hv)⟩
theorem LsRel.head {a : AV} {v : Value} {cs : List AV} {vs : List Value} (hr : LsRel w U ι (a :: cs) (v :: vs)) : VRel w U ι a v := hr.2 0 a v rfl rfl
theorem LsRel.cases_cons {a : AV} {cs : List AV} {vs : List Value} (hr : LsRel w U ι (a :: cs) vs) : ∃ v us, vs = v :: us ∧ VRel w U ι a v ∧ LsRel w U ι cs us := by
 match vs, hr with
 | v :: us, hr => exact ⟨v, us, rfl, hr.head, hr.tail⟩
 | [], hr => simp [LsRel] at hr
theorem LsRel.cases_nil {vs : List Value} (hr : LsRel w U ι [] vs) : vs = [] := List.eq_nil_of_length_eq_zero (by simpa using hr.1)
theorem x1n {x : AV} {v : Value} {n : Nat} (hx : VRel w U ι x v) (h : lenOf x = some n) : ∃ a cap, v = .slice a n cap := by
 cases hx <;> simp [lenOf] at h <;> subst h <;> exact ⟨_, _, rfl⟩
theorem z7e (hC : TOk C) {b : Builtin} {ts : List TypeId} {ty : TypeId} {consts : Array Bool} {args : List AV} {vs : List Value} {r : AV} (ha : LsRel w U ι args vs) (h : builtinP C b ts args = some r) :
  ∃ z, (Go.builtin b ts.toArray ty consts vs.toArray).run C.P w = .ok (.value z) w ∧ VRel w U ι r z := by
 unfold builtinP at h
 split at h
 ·rename_i t ts' x
  obtain ⟨v, _, rfl, hv, h0⟩ := ha.cases_cons
  obtain rfl := h0.cases_nil
  split at h
  ·rename_i sz by_ zr eq hti
   have hk := (hC.tt _ _ hti).kind
   simp only [KOk] at hk
   split at h
   ·rename_i s
    cases h
    cases hv with
    | str _ b hb =>
     subst hb
     exact ⟨.int .i64 b.data.toList.length, by simp [Go.builtin, Builtin.len_, run_underlying hk.1, goInt], .int _ _⟩
   ·cases h
  ·rename_i el sz by_ zr eq hti
   have hk := (hC.tt _ _ hti).kind
   simp only [KOk] at hk
   simp only [Option.map_eq_some_iff] at h
   obtain ⟨n, hn, rfl⟩ := h
   obtain ⟨a, cap, rfl⟩ := x1n hv hn
   exact ⟨.int .i64 n, by simp [Go.builtin, Builtin.len_, run_underlying hk.1, goInt], .int _ _⟩
  ·cases h
 ·rename_i t ts'
  obtain ⟨v, _, rfl, hv, h0⟩ := ha.cases_cons
  obtain rfl := h0.cases_nil
  split at h
  ·rename_i el sz by_ zr eq hti
   have hk := (hC.tt _ _ hti).kind
   simp only [KOk] at hk
   cases h
   cases hv
   exact ⟨.int .i64 0, by simp [Go.builtin, Builtin.cap_, run_underlying hk.1, goInt], .int _ _⟩
  ·cases h
 ·rename_i k a rest
  obtain ⟨v, us, rfl, hv, h0⟩ := ha.cases_cons
  simp only [Option.map_eq_some_iff] at h
  obtain ⟨n, hn, rfl⟩ := h
  cases hv
  exact ⟨.int k n, by simp [Go.builtin, Builtin.min_, z7t h0 hn], .int _ _⟩
 ·rename_i k a rest
  obtain ⟨v, us, rfl, hv, h0⟩ := ha.cases_cons
  simp only [Option.map_eq_some_iff] at h
  obtain ⟨n, hn, rfl⟩ := h
  cases hv
  exact ⟨.int k n, by simp [Go.builtin, Builtin.max_, z7u h0 hn], .int _ _⟩
 ·obtain ⟨v, us, rfl, hv, h0⟩ := ha.cases_cons
  obtain rfl := h0.cases_nil
  cases h
  cases hv with
  | cpx _ _ _ _ h1 h2 => exact ⟨_, rfl, .flt _ _ h1⟩
 ·obtain ⟨v, us, rfl, hv, h0⟩ := ha.cases_cons
  obtain rfl := h0.cases_nil
  cases h
  cases hv with
  | cpx _ _ _ _ h1 h2 => exact ⟨_, rfl, .flt _ _ h2⟩
 ·obtain ⟨v, us, rfl, hv, h0⟩ := ha.cases_cons
  obtain ⟨v2, us2, rfl, hv2, h02⟩ := h0.cases_cons
  obtain rfl := h02.cases_nil
  cases h
  cases hv with
  | flt _ _ h1 =>
   cases hv2 with
   | flt _ _ h2 => exact ⟨_, rfl, .cpx _ _ _ _ h1 h2⟩
 ·cases h
theorem x7c {op : UnOp} {x r : AV} {v : Value} (hx : VRel w U ι x v) (h : un op x = some r) : ∃ z, (Op.unary op v).run C.P w = .ok z w ∧ VRel w U ι r z := by
 cases op <;> cases hx <;> simp only [un, reduceCtorEq, Option.some.injEq] at h <;> subst h
 all_goals first | exact ⟨_, rfl, .int _ _⟩ | exact ⟨_, rfl, .bool _⟩
theorem j5c (hC : TOk C) {T : Nat → AV} {a : Act} (hT : TRel w U ι T a.tmps) {o : Oper} {r : AV} (h : primP C T o.op = some r) :
  ∃ v, (execOp a.eval o).run C.P w = .ok (.value v) w ∧ VRel w U ι r v := by
 obtain ⟨dst, op, ty, pos, after, guard⟩ := o
 simp only at h
 have lift : ∀ (s : Sem Value), (∃ v, s.run C.P w = .ok v w ∧ VRel w U ι r v) → ∃ v, (do pure (.value (← s)) : Sem Next).run C.P w = .ok (.value v) w ∧ VRel w U ι r v := by
  rintro s ⟨v, hv, hr⟩
  exact ⟨v, by simp [hv], hr⟩
 cases op <;> simp only [primP, reduceCtorEq] at h
 case move x => exact ⟨a.eval x, rfl, q0u hT h⟩
 case assign x => exact ⟨a.eval x, rfl, q0u hT h⟩
 case pick c x y =>
  split at h
  ·rename_i t p q hc hx hy
   cases h
   have h1 := q0u hT hc
   generalize hcv : a.eval c = vc at h1
   cases h1
   cases t
   ·exact ⟨a.eval y, by simp [execOp, hcv, asBool], q0u hT hy⟩
   ·exact ⟨a.eval x, by simp [execOp, hcv, asBool], q0u hT hx⟩
  ·cases h
 case build t parts =>
  split at h
  ·rename_i ps hps
   obtain ⟨hl, hr⟩ := q9s hT hps
   refine lift _ ?_
   have := j4y (w := w) (U := U) (ι := ι) hC (us := parts.toList.map fun (i, x) => (i, a.eval x)) (by simp [hl]) (fun i p u hp hu => by
    rw [List.getElem?_map] at hu
    simp only [Option.map_eq_some_iff] at hu
    obtain ⟨q, hq, rfl⟩ := hu
    exact hr i p q hp hq) h
   have e : (parts.map fun (i, x) => (i, a.eval x)) = (parts.toList.map fun (i, x) => (i, a.eval x)).toArray := Array.ext' (by simp)
   rw [e]
   exact this
  ·cases h
 case nilCheck x =>
  have hx : ∀ b, ev T x = some b → VRel w U ι b (a.eval x) := fun b => q0u hT
  simp only [execOp]
  split at h <;> (try cases h) <;> rename_i hev <;> have h1 := hx _ hev <;> generalize a.eval x = vx at h1 <;> cases h1
  ·exact ⟨_, rfl, by constructor; assumption⟩
  ·exact ⟨_, rfl, by constructor <;> assumption⟩
  ·exact ⟨_, rfl, by constructor <;> assumption⟩
  ·exact ⟨_, rfl, by constructor; assumption⟩
 case binOp op t x y yt =>
  split at h
  ·rename_i p q hp hq
   exact lift _ (x1l hC (q0u hT hp) (q0u hT hq) h)
  ·cases h
 case unOp op t x =>
  split at h
  ·rename_i p hp
   exact lift _ (x7c (q0u hT hp) h)
  ·cases h
 case makeFunc fn first caps =>
  cases fn <;> simp only [reduceCtorEq] at h
  rename_i f
  split at h
  ·rename_i p q hp hq
   cases h
   have h1 := q7m hT hp
   have h2 := q7m hT hq
   refine ⟨.func (.func f) (first.map a.eval) (caps.map a.eval), rfl, ?_⟩
   have e1 : first.map a.eval = (first.toList.map a.eval).toArray := Array.ext' (by simp)
   have e2 : caps.map a.eval = (caps.toList.map a.eval).toArray := Array.ext' (by simp)
   rw [e1, e2]
   exact .fn f _ _ _ _ h1.1 h2.1 h1.2 h2.2
  ·cases h
 case slice t x lo hi mx =>
  split at h
  ·rename_i v l hh m hv hl hhh hm
   exact lift _ (j4z hC (q0u hT hv) (z4r hT hl) (z4r hT hhh) (z4r hT hm) h)
  ·cases h
 case fieldAddr s x f =>
  split at h
  ·rename_i b k i j ft off hx hf
   cases h
   have h1 := q0u hT hx
   generalize hvx : a.eval x = vx at h1
   cases h1 with
   | ptr _ _ _ _ c hb =>
    refine lift _ ⟨_, by rw [hvx]; exact z4t hC hf, ?_⟩
    rw [Nat.add_assoc]
    exact .ptr _ _ _ _ _ hb
  ·rename_i k es i j ft off hx hf
   cases h
   have h1 := q0u hT hx
   generalize hvx : a.eval x = vx at h1
   cases h1 with
   | vptr _ c o _ _ _ ys hk hU hc h1' hr =>
    refine lift _ ⟨_, by rw [hvx]; exact z4t hC hf, ?_⟩
    rw [Nat.add_assoc]
    exact .vptr es c o k i (j + off) ys hk hU hc h1' hr
  ·cases h
 case field t x f =>
  split at h
  ·rename_i cs ft off hx hf
   split at h
   ·rename_i ti hti
    exact lift _ (j5b hC hf hti (q0u hT hx) h)
   ·cases h
  ·cases h
 case indexAddr t x ix =>
  split at h
  ·rename_i p q hp hq
   exact lift _ (z4s hC (q0u hT hp) (q0u hT hq) h)
  ·cases h
 case index t x ix =>
  split at h
  ·rename_i p q hp hq
   exact lift _ (j5a hC (q0u hT hp) (q0u hT hq) h)
  ·cases h
 case extract x i =>
  split at h
  ·rename_i vs hx
   have h1 := q0u hT hx
   generalize hvx : a.eval x = vx at h1
   cases h1 with
   | tuple _ us hl hr =>
    obtain ⟨v, hv, hvr⟩ := LsRel.get ⟨hl, hr⟩ h
    refine lift _ ⟨v, ?_, hvr⟩
    rw [hvx]
    simp [Instr.extract, hv]
  ·cases h
end Go.BX
namespace Go.BX
variable {C : Ctx} {w : World} {U : Nat → Prop} {ι : Nat → Option Nat}
theorem q1d {w w' : World} {c : Nat} (h : w'.heap[c]? = w.heap[c]?) : w'.shape? c = w.shape? c := by
 unfold World.shape?; rw [h]
theorem LsRel.mono {w' : World} {U' : Nat → Prop} {ι' : Nat → Option Nat} (hm : ∀ {a : AV} {v : Value}, VRel w U ι a v → VRel w' U' ι' a v) {cs : List AV} {vs : List Value} (h : LsRel w U ι cs vs) : LsRel w' U' ι' cs vs :=
 ⟨h.1, fun i a v ha hv => hm (h.2 i a v ha hv)⟩
theorem TRel.mono {w' : World} {U' : Nat → Prop} {ι' : Nat → Option Nat} (hm : ∀ {a : AV} {v : Value}, VRel w U ι a v → VRel w' U' ι' a v) {T : Nat → AV} {tmps : Array Value} (h : TRel w U ι T tmps) : TRel w' U' ι' T tmps :=
 fun t => hm (h t)
theorem LRel.mono {w' : World} {U' : Nat → Prop} {ι' : Nat → Option Nat} (hm : ∀ {a : AV} {v : Value}, VRel w U ι a v → VRel w' U' ι' a v) (hι : ∀ b c, ι b = some c → ι' b = some c) {nt : Nat} {L : ALoop} {R : Loop} (h : LRel C w U ι nt L R) : LRel C w' U' ι' nt L R :=
 {size := h.size, state := h.state, pending := h.pending, fn := h.fn, T := h.T.mono hm, params := h.params, assign := h.assign, body := h.body, lt := h.lt, defers := hι _ _ h.defers }
theorem BRel.mono {w' : World} {U' : Nat → Prop} {ι' : Nat → Option Nat} (hm : ∀ {a : AV} {v : Value}, VRel w U ι a v → VRel w' U' ι' a v) (hι : ∀ b c, ι b = some c → ι' b = some c) {c : Nat} (hc : w'.heap[c]? = w.heap[c]?) {b : Blk} (h : BRel C w U ι c b) : BRel C w' U' ι' c b := by
 cases b with
 | dead => trivial
 | cells t k es =>
  obtain ⟨cs, hcs, hk, hr⟩ := h
  exact ⟨cs, by rw [hc]; exact hcs, hk, fun i e j a he ha => let ⟨h1, v, hv, hvr⟩ := hr i e j a he ha; ⟨h1, v, hv, hm hvr⟩⟩
 | iter s pos => obtain ⟨b, hb, hw⟩ := h; exact ⟨b, hb, by rw [hc]; exact hw⟩
 | mp es => obtain ⟨ents, ck, hw, he⟩ := h; exact ⟨ents, ck, by rw [hc]; exact hw, he⟩
 | loop L => obtain ⟨R, nt, hR, hL⟩ := h; exact ⟨R, nt, by rw [hc]; exact hR, hL.mono hm hι⟩
 | dfr => exact hc.trans h
structure Leaves (C : Ctx) (w : World) (U : Nat → Prop) (ι : Nat → Option Nat) (H' : AHeap) (r : AV) (v : Value) (w' : World) (U' : Nat → Prop) (ι' : Nat → Option Nat) : Prop where
 ext : Ext w U ι w' U' ι'
 heap : HRel C w' U' ι' H'
 val : VRel w' U' ι' r v
structure Reads (w : World) (ι : Nat → Option Nat) (H H' : AHeap) (w' : World) (ι' : Nat → Option Nat) : Prop where
 all : ∀ c, c < w.heap.size → w'.heap[c]? = w.heap[c]?
 next : H.next ≤ H'.next
 at_ : ∀ b, b < H.next → H'.at_ b = H.at_ b
 new : ∀ b c, ι' b = some c → ι b = some c ∨ (H.next ≤ b ∧ w.heap.size ≤ c)
def Fresh (H : AHeap) (ι ι' : Nat → Option Nat) : Prop := ∀ b c, ι' b = some c → ι b = some c ∨ H.next ≤ b
theorem Reads.fresh {H H' : AHeap} {w' : World} {ι' : Nat → Option Nat} (h : Reads w ι H H' w' ι') : Fresh H ι ι' := fun b c hb => (h.new b c hb).imp id (·.1)
theorem Fresh.refl (H : AHeap) (ι : Nat → Option Nat) : Fresh H ι ι := fun _ _ h => .inl h
theorem Ext.refl (w : World) (U : Nat → Prop) (ι : Nat → Option Nat) : Ext w U ι w U ι :=
 {map := fun _ _ h => h, rng := fun b _ h => .inl ⟨b, h⟩, imm := fun _ h => h, new := fun _ h => .inl h, size := Nat.le_refl _, kept := fun _ _ _ => rfl, shape := fun _ _ => rfl, env := ⟨rfl, rfl, rfl⟩ }
theorem Ext.mono {w' : World} {U' : Nat → Prop} {ι' : Nat → Option Nat} {H : AHeap} (h : Ext w U ι w' U' ι') (hH : HRel C w U ι H) {a : AV} {v : Value} (hv : VRel w U ι a v) : VRel w' U' ι' a v :=
 hv.mono h.imm (fun c hc => h.kept c (hH.imm c hc).1 (hH.imm c hc).2) (fun c x hx => by rw [h.shape c (z0m hx)]; exact hx) ι' h.map
theorem Ext.trans {w1 w2 : World} {U1 U2 : Nat → Prop} {ι1 ι2 : Nat → Option Nat} (h : Ext w U ι w1 U1 ι1) (h' : Ext w1 U1 ι1 w2 U2 ι2) : Ext w U ι w2 U2 ι2 where
 map := fun b c hb => h'.map b c (h.map b c hb)
 rng := fun b c hb => by
  rcases h'.rng b c hb with ⟨b0, hb0⟩ | hc
  ·exact h.rng b0 c hb0
  ·exact .inr (Nat.le_trans h.size hc)
 imm := fun c hc => h'.imm c (h.imm c hc)
 new := fun c hc => by
  rcases h'.new c hc with hc | hc
  ·exact h.new c hc
  ·exact .inr (Nat.le_trans h.size hc)
 size := Nat.le_trans h.size h'.size
 kept := fun c hc hn => by
  rw [h'.kept c (Nat.lt_of_lt_of_le hc h.size) (fun b hb => by
   rcases h.rng b c hb with ⟨b0, hb0⟩ | hle
   ·exact hn b0 hb0
   ·omega)]
  exact h.kept c hc hn
 shape := fun c hc => by rw [h'.shape c (Nat.lt_of_lt_of_le hc h.size), h.shape c hc]
 env := ⟨h'.env.1.trans h.env.1, h'.env.2.1.trans h.env.2.1, h'.env.2.2.trans h.env.2.2⟩
theorem q2a {f : Nat → Blk} {a b : Nat} {v : Blk} (h : b ≠ a) : (upd f a v b).isDead = (f b).isDead := by rw [q2d _ _ h]
theorem q8m {H : AHeap} (hH : HRel C w U ι H) {w' : World} {o : Obj} (hw : w'.heap = w.heap.push o) (blk : Blk)
  (hB : BRel C w' U (upd ι H.next (some w.heap.size)) w.heap.size blk) (y0k : w'.os = w.os ∧ w'.tape = w.tape ∧ w'.output = w.output := by exact ⟨rfl, rfl, rfl⟩) :
  Ext w U ι w' U (upd ι H.next (some w.heap.size)) ∧ HRel C w' U (upd ι H.next (some w.heap.size)) (H.push blk) ∧ Reads w ι H (H.push blk) w' (upd ι H.next (some w.heap.size)) := by
 have x6k : ∀ c, c < w.heap.size → w'.heap[c]? = w.heap[c]? := fun c hc => by
  rw [hw, Array.getElem?_push]; simp [Nat.ne_of_lt hc]
 have hsz : w'.heap.size = w.heap.size + 1 := by rw [hw]; simp
 have y7s : ∀ b c, ι b = some c → upd ι H.next (some w.heap.size) b = some c := fun b c hb => by
  rw [q2d _ _ (Nat.ne_of_lt (hH.dom b c hb).1)]; exact hb
 have j0y : ∀ b c, upd ι H.next (some w.heap.size) b = some c → (b = H.next ∧ c = w.heap.size) ∨ ι b = some c := fun b c hb => by
  by_cases e : b = H.next
  ·subst e; rw [upd_same] at hb; cases hb; exact .inl ⟨rfl, rfl⟩
  ·rw [q2d _ _ e] at hb; exact .inr hb
 have q3y : Ext w U ι w' U (upd ι H.next (some w.heap.size)) :=
  {map := y7s
   rng := fun b c hb => by
    rcases j0y b c hb with ⟨_, rfl⟩ | hb
    ·exact .inr (Nat.le_refl _)
    ·exact .inl ⟨b, hb⟩
   imm := fun _ h => h
   new := fun _ h => .inl h
   size := by omega
   kept := fun c hc _ => x6k c hc
   shape := fun c hc => q1d (x6k c hc), env := y0k }
 refine ⟨q3y, ?_, ?_⟩
 ·refine ⟨fun b c hb => ?_, fun b b' c hb hb' hd hd' => ?_, fun c hc => ?_, fun b c hb => ?_⟩
  ·rcases j0y b c hb with ⟨rfl, rfl⟩ | hb
   ·exact ⟨by simp [AHeap.push], by omega⟩
   ·have := hH.dom b c hb; exact ⟨by simp only [AHeap.push]; omega, by omega⟩
  ·rcases j0y b c hb with ⟨rfl, rfl⟩ | hb1 <;> rcases j0y b' _ hb' with ⟨rfl, h2⟩ | hb2
   ·rfl
   ·have := (hH.dom b' _ hb2).2; omega
   ·have := (hH.dom b _ hb1).2; omega
   ·have e1 := Nat.ne_of_lt (hH.dom b _ hb1).1
    have e2 := Nat.ne_of_lt (hH.dom b' _ hb2).1
    simp only [AHeap.push, q2a e1, q2a e2] at hd hd'
    exact hH.inj b b' c hb1 hb2 hd hd'
  ·have := hH.imm c hc
   refine ⟨by omega, fun b hb => ?_⟩
   rcases j0y b c hb with ⟨_, rfl⟩ | hb
   ·omega
   ·exact this.2 b hb
  ·rcases j0y b c hb with ⟨rfl, rfl⟩ | hb
   ·simp only [AHeap.push, upd_same]; exact hB
   ·have := hH.dom b c hb
    simp only [AHeap.push]
    rw [q2d _ _ (Nat.ne_of_lt this.1)]
    exact (hH.blk b c hb).mono (fun hv => q3y.mono hH hv) y7s (x6k c this.2)
 ·exact ⟨x6k, by simp [AHeap.push], fun b hb => by simp only [AHeap.push]; exact q2d _ _ (Nat.ne_of_lt hb), fun b c hb => by
   rcases j0y b c hb with ⟨rfl, rfl⟩ | hb
   ·exact .inr ⟨Nat.le_refl _, Nat.le_refl _⟩
   ·exact .inl hb⟩
theorem j5d {k : Nat} {H : AHeap} {w' : World} : VRel w' U (upd ι H.next (some w.heap.size)) (.ptr H.next k 0 0) (.pointer (some ⟨w.heap.size, 0, none⟩)) := by
 have := VRel.ptr (w := w') (U := U) (ι := upd ι H.next (some w.heap.size)) H.next k 0 0 w.heap.size (by simp)
 simpa using this
theorem z1s {w' : World} {ι' : Nat → Option Nat} {c k : Nat} {t : TypeId} {es : List (List AV)} {vs : List Value} {cs : Array Value} (hw : w'.heap[c]? = some (.cells cs t (0, 0))) (hk : ∀ e, e ∈ es → e.length = k)
  (hr : LsRel w' U ι' es.flatten vs) (h1 : ∀ a, a ∈ es.flatten → a.one = true) (hcs : ∀ (i : Nat) (v : Value), vs[i]? = some v → cs[i]? = some v) : BRel C w' U ι' c (.cells t k es) := by
 refine ⟨cs, hw, hk, fun i e j a he ha => ?_⟩
 have w7c : ∀ (es : List (List AV)) (i : Nat) (e : List AV), (∀ e, e ∈ es → e.length = k) → es[i]? = some e → ∀ (j : Nat) (a : AV), e[j]? = some a → es.flatten[i * k + j]? = some a := by
  intro es
  induction es with
  | nil => intro i e _ h; simp at h
  | cons x es ih =>
   intro i e hk he j a ha
   have hx : x.length = k := hk x (by simp)
   cases i with
   | zero =>
    simp at he; subst he
    have hj : j < x.length := (List.getElem?_eq_some_iff.mp ha).1
    simp only [List.flatten_cons, Nat.zero_mul, Nat.zero_add]
    rw [List.getElem?_append_left hj]; exact ha
   | succ i =>
    simp at he
    have := ih i e (fun e he => hk e (by simp [he])) he j a ha
    simp only [List.flatten_cons]
    rw [List.getElem?_append_right (by rw [hx, Nat.add_mul]; omega), hx]
    rw [show (i + 1) * k + j - k = i * k + j from by rw [Nat.add_mul]; omega]
    exact this
 have hf := w7c es i e hk he j a ha
 obtain ⟨v, hv, hvr⟩ := hr.get hf
 exact ⟨h1 a (List.mem_of_getElem? hf), v, hcs _ v hv, hvr⟩
theorem z4u {t : TypeId} {ti : TI} (ht : TIok C t ti) {e : List AV} {j c o : Nat} {r : AV} (h1 : ∀ x, x ∈ e → x.one = true)
  (hc : ∀ (m : Nat) (x : AV), e[m]? = some x → ∃ v, w.cell? ⟨c, o + m, none⟩ = some v ∧ VRel w U ι x v) (h : part ti e j = some r) :
  ∃ v, (Instr.loadAt t (.pointer (some ⟨c, o + j, none⟩))).run C.P w = .ok v w ∧ VRel w U ι r v := by
 unfold part at h
 unfold Instr.loadAt loadVar
 by_cases hg : ti.kind.isAgg = true
 ·rw [if_pos hg] at h
  split at h
  ·rename_i hle
   cases h
   have y3a : ∀ m, m < ti.size → ∃ x, e[j + m]? = some x := fun m hm => ⟨e[j + m], List.getElem?_eq_getElem (by omega)⟩
   let f : Nat → Value := fun m => (w.cell? ⟨c, o + (j + m), none⟩).getD undef
   have hf : ∀ m, m < ti.size → w.cell? ((⟨c, o + j, none⟩ : Addr).add m) = some (f m) := by
    intro m hm
    obtain ⟨x, hx⟩ := y3a m hm
    obtain ⟨v, hv, _⟩ := hc _ _ hx
    rw [Addr.add_eq, Nat.add_assoc]
    simp only [f, hv, Option.getD_some]
   refine ⟨.agg ((List.range ti.size).map f).toArray, ?_, .agg _ _ (by simp; omega) (fun a ha => h1 a (List.mem_of_mem_drop (List.mem_of_mem_take ha))) (fun i a v ha hv => ?_)⟩
   ·simp only [Sem.run_bind, Instr.sureAddr, Sem.run_pure, Result.andThen_ok, ht.run_isAgg, hg, if_true, ht.run_sizeOf, run_loadCells w _ _ f hf]
   ·rw [List.getElem?_take, List.getElem?_drop] at ha
    split at ha
    ·rename_i hi
     rw [List.getElem?_map, List.getElem?_range hi] at hv
     simp only [Option.map_some, Option.some.injEq] at hv
     obtain ⟨u, hu, hur⟩ := hc _ _ ha
     subst hv
     simp only [f, hu, Option.getD_some]
     exact hur
    ·cases ha
  ·cases h
 ·rw [if_neg hg] at h
  obtain ⟨v, hv, hvr⟩ := hc _ _ h
  refine ⟨v, ?_, hvr⟩
  simp [Instr.sureAddr, ht.run_isAgg, hg, hv]
theorem z7v (hC : TOk C) {H : AHeap} (hH : HRel C w U ι H) {t : TypeId} {p r : AV} {v : Value} (hp : VRel w U ι p v) (h : loadA C H t p = some r) :
  ∃ u, (Instr.loadAt t v).run C.P w = .ok u w ∧ VRel w U ι r u := by
 unfold loadA at h
 split at h
 ·cases h
 ·rename_i ti hti
  split at h
  ·rename_i b k i j
   split at h
   ·rename_i t' k' es hb
    split at h
    ·rename_i hk
     subst hk
     split at h
     ·rename_i e he
      cases hp with
      | ptr _ _ _ _ c hι =>
       have hbr := hH.blk b c hι
       rw [hb] at hbr
       obtain ⟨cs, hcs, _, hr⟩ := hbr
       refine z4u (hC.tt _ _ hti) (fun x hx => ?_) (fun m x hx => ?_) h
       ·obtain ⟨m, hm⟩ := List.getElem?_of_mem hx
        exact (hr i e m x he hm).1
       ·obtain ⟨_, u, hu, hur⟩ := hr i e m x he hx
        exact ⟨u, by simp [World.cell?, hcs, hu], hur⟩
     ·cases h
    ·cases h
   ·cases h
  ·rename_i k es i j
   split at h
   ·rename_i e he
    cases hp with
    | vptr _ c o _ _ _ ys hk hU hc h1 hr =>
     have hi : i < es.length := (List.getElem?_eq_some_iff.mp he).1
     refine z4u (hC.tt _ _ hti) (h1 e (List.mem_of_getElem? he)) (fun m x hx => ?_) h
     have hm : m < k := by rw [← hk e (List.mem_of_getElem? he)]; exact (List.getElem?_eq_some_iff.mp hx).1
     exact ⟨ys i m, hc i m hi hm, (hr i e m x he hx).mono (fun _ h => h) (fun _ _ => rfl) (fun _ _ h => h) ι (fun _ _ h => by cases h)⟩
   ·cases h
  ·cases h
end Go.BX
namespace Go.BX
variable {C : Ctx} {w : World} {U : Nat → Prop} {ι : Nat → Option Nat}
theorem q4x {H : AHeap} (hH : HRel C w U ι H) {t : TypeId} {k : Nat} {es : List (List AV)} {vs : List Value} {cs : Array Value} {w' : World} (hw : w'.heap = w.heap.push (.cells cs t (0, 0)))
  (hk : ∀ e, e ∈ es → e.length = k) (hr : LsRel w U ι es.flatten vs) (h1 : ∀ a, a ∈ es.flatten → a.one = true) (hcs : ∀ (i : Nat) (v : Value), vs[i]? = some v → cs[i]? = some v) (y0k : w'.os = w.os ∧ w'.tape = w.tape ∧ w'.output = w.output := by exact ⟨rfl, rfl, rfl⟩) :
  Ext w U ι w' U (upd ι H.next (some w.heap.size)) ∧ HRel C w' U (upd ι H.next (some w.heap.size)) (H.push (.cells t k es)) ∧ Reads w ι H (H.push (.cells t k es)) w' (upd ι H.next (some w.heap.size)) := by
 have x6k : ∀ c, c < w.heap.size → w'.heap[c]? = w.heap[c]? := fun c hc => by
  rw [hw, Array.getElem?_push]; simp [Nat.ne_of_lt hc]
 have hm : ∀ {a : AV} {v : Value}, VRel w U ι a v → VRel w' U (upd ι H.next (some w.heap.size)) a v := fun hv =>
  hv.mono (fun _ h => h) (fun c hc => x6k c (hH.imm c hc).1) (fun c x hx => by rw [q1d (x6k c (z0m hx))]; exact hx) _ (fun b c hb => by rw [q2d _ _ (Nat.ne_of_lt (hH.dom b c hb).1)]; exact hb)
 refine q8m hH hw _ ?_ y0k
 exact z1s (vs := vs) (cs := cs) (by rw [hw, Array.getElem?_push]; simp) hk (hr.mono hm) h1 hcs
theorem j5e (hC : TOk C) {H : AHeap} (hH : HRel C w U ι H) {t : TypeId} {ti : TI} (hti : C.TT t = some ti) :
  ∃ v w' ι', (Instr.alloc t true (.tuple #[])).run C.P w = .ok v w' ∧ Leaves C w U ι (H.push (.cells t ti.size [ti.zero])) (.ptr H.next ti.size 0 0) v w' U ι' ∧ Reads w ι H (H.push (.cells t ti.size [ti.zero])) w' ι' := by
 have hok := hC.tt _ _ hti
 obtain ⟨z, hz, hzm, hzs⟩ := hok.run_zero (w := w)
 have hzr : LsRel w U ι ti.zero z.cells.toList := LsRel.ofConsts hzm
 obtain ⟨h1, h2, h3⟩ := q4x hH (w' := w.alloc (.cells z.cells t)) (cs := z.cells) (t := t) (k := ti.size) (es := [ti.zero]) (vs := z.cells.toList) rfl
  (by simp [hok.zero_len]) (by simpa using hzr) (by simpa using hok.zero_one) (fun i v hv => by simpa using hv)
 exact ⟨.pointer (some ⟨w.heap.size, 0, none⟩), w.alloc (.cells z.cells t), _, by simp [Instr.alloc, hz, newVar, newRow], ⟨h1, h2, j5d⟩, h3⟩
theorem x1o {H : AHeap} (hH : HRel C w U ι H) {t : TypeId} {ti : TI} {x : AV} {u : Value} (hx : VRel w U ι x u) (hp : x.plain = true) (hl : x.cells.length = ti.size) :
  ∃ v w' ι', (Instr.box t u).run C.P w = .ok v w' ∧ Leaves C w U ι (H.push (.cells t ti.size [x.cells])) (.ptr H.next ti.size 0 0) v w' U ι' ∧ Reads w ι H (H.push (.cells t ti.size [x.cells])) w' ι' := by
 obtain ⟨hr, ho⟩ := hx.cells_rel hp
 obtain ⟨h1, h2, h3⟩ := q4x hH (w' := w.alloc (.cells u.cells t)) (cs := u.cells) (t := t) (k := ti.size) (es := [x.cells]) (vs := u.cells.toList) rfl
  (by simp [hl]) (by simpa using hr) (by simpa using ho) (fun i v hv => by simpa using hv)
 exact ⟨.pointer (some ⟨w.heap.size, 0, none⟩), w.alloc (.cells u.cells t), _, by simp [Instr.box, newVar, newRow], ⟨h1, h2, j5d⟩, h3⟩
theorem j1s {k : Nat} : ∀ {n : Nat} {cs : List AV}, cs.length = n * k → (chunk k n cs).flatten = cs ∧ (∀ e, e ∈ chunk k n cs → e.length = k) ∧ (chunk k n cs).length = n
 | 0, cs, h => by
  have : cs = [] := List.eq_nil_of_length_eq_zero (by simpa using h)
  subst this; simp [chunk]
 | n + 1, cs, h => by
  have hd : (cs.drop k).length = n * k := by rw [List.length_drop, h, Nat.add_mul]; omega
  obtain ⟨h1, h2, h3⟩ := j1s hd
  have hk : k ≤ cs.length := by rw [h, Nat.add_mul]; omega
  refine ⟨by simp [chunk, h1], fun e he => ?_, by simp [chunk, h3]⟩
  simp only [chunk, List.mem_cons] at he
  rcases he with rfl | he
  ·simp; omega
  ·exact h2 e he
theorem q9t (z : Array Value) (n : Nat) : ((Array.range (n * z.size)).map (fun i => z[i % z.size]!)).toList = (List.replicate n z.toList).flatten := by
 apply List.ext_getElem?
 intro i
 have q2u : (List.replicate n z.toList).flatten.length = n * z.size := by simp
 by_cases hi : i < n * z.size
 ·have hz : 0 < z.size := by
   rcases Nat.eq_zero_or_pos z.size with h | h
   ·rw [h] at hi; simp at hi
   ·exact h
  have hm : i % z.size < z.size := Nat.mod_lt _ hz
  have gen : ∀ (n i : Nat), i < n * z.size → (List.replicate n z.toList).flatten[i]? = z.toList[i % z.size]? := by
   intro n
   induction n with
   | zero => intro i hi; simp at hi
   | succ n ih =>
    intro i hi
    rw [List.replicate_succ, List.flatten_cons]
    by_cases hlt : i < z.size
    ·rw [List.getElem?_append_left (by simpa using hlt), Nat.mod_eq_of_lt hlt]
    ·rw [List.getElem?_append_right (by simp; omega)]
     have := ih (i - z.size) (by rw [Nat.add_mul] at hi; omega)
     rw [show z.toList.length = z.size from by simp, this]
     rw [Nat.mod_eq_sub_mod (by omega : i ≥ z.size)]
  rw [gen n i hi]
  simp [hi, hm]
 ·have r : (List.replicate n z.toList).flatten[i]? = none := List.getElem?_eq_none (by rw [q2u]; omega)
  rw [r]
  simp [hi]
theorem LsRel.replicate {cs : List AV} {vs : List Value} (h : LsRel w U ι cs vs) : ∀ n, LsRel w U ι (List.replicate n cs).flatten (List.replicate n vs).flatten
 | 0 => by simpa using LsRel.nil
 | n + 1 => by
  rw [List.replicate_succ, List.replicate_succ, List.flatten_cons, List.flatten_cons]
  exact h.append (LsRel.replicate h n)
theorem z9m {H : AHeap} {w' : World} {t : TypeId} {k n cap : Nat} {cs : Array Value} (hw : w'.heap = w.heap.push (.cells cs t (0, 0))) (hn : n ≤ cap) (hm : cap * k ≤ cs.size) :
  VRel w' U (upd ι H.next (some w.heap.size)) (.slc H.next k 0 n) (.slice (some ⟨w.heap.size, 0, none⟩) n cap) := by
 refine .slc _ _ _ _ w.heap.size 0 cap cs.size t (by simp) (fun _ => by simp) hn ?_ (by omega)
 simp [World.shape?, hw]
theorem z3j (hC : TOk C) {H : AHeap} (hH : HRel C w U ι H) {t elem : TypeId} {sz by_ : Nat} {zr : List AV} {eq : Option (List CK)} {te : TI} {len : Nat} {ps : List (Nat × AV)} {us : List (Nat × Value)} {cells : List AV}
  (hti : C.TT t = some { kind := .slice elem, size := sz, bytes := by_, zero := zr, eqk := eq }) (hte : C.TT elem = some te) (hle : len * te.size ≤ 16777216)
  (hl : us.length = ps.length) (hr : ∀ (i : Nat) (p : Nat × AV) (u : Nat × Value), ps[i]? = some p → us[i]? = some u → p.1 = u.1 ∧ VRel w U ι p.2 u.2)
  (hf : fillA (fun i => some (i * te.size, te.size)) (List.replicate len te.zero).flatten ps = some cells) :
  ∃ v w' ι', (Instr.buildSlice t len us.toArray).run C.P w = .ok v w' ∧ Leaves C w U ι (H.push (.cells elem te.size (chunk te.size len cells))) (.slc H.next te.size 0 len) v w' U ι' ∧ Reads w ι H (H.push (.cells elem te.size (chunk te.size len cells))) w' ι' := by
 have hk := (hC.tt _ _ hti).kind
 simp only [KOk] at hk
 have hok := hC.tt _ _ hte
 obtain ⟨z, hz, hzm, hzs⟩ := hok.run_zero (w := w)
 have hzr : LsRel w U ι te.zero z.cells.toList := LsRel.ofConsts hzm
 have hzr' := hzr.replicate len
 have y0h : ∀ a, a ∈ (List.replicate len te.zero).flatten → a.one = true := by
  intro a ha
  simp only [List.mem_flatten, List.mem_replicate] at ha
  obtain ⟨l, ⟨_, rfl⟩, ha⟩ := ha
  exact hok.zero_one a ha
 obtain ⟨xs, hx, hxr, hxo, hxl⟩ := q8k (pc := fun i => some (i * te.size, te.size)) (fun i p hp => hp) hl hr hzr' y0h hf
 have q2u : cells.length = len * te.size := by rw [hxl]; simp [hok.zero_len]
 obtain ⟨hfl, hck, hcl⟩ := j1s q2u
 obtain ⟨h1, h2, h3⟩ := q4x hH (w' := w.alloc (.cells xs.toArray elem)) (cs := xs.toArray) (t := elem) (k := te.size) (es := chunk te.size len cells) (vs := xs) rfl hck (by rw [hfl]; exact hxr) (by rw [hfl]; exact hxo) (fun i v hv => by simpa using hv)
 refine ⟨.slice (some ⟨w.heap.size, 0, none⟩) len len, w.alloc (.cells xs.toArray elem), _, ?_, ⟨h1, h2, z9m rfl (Nat.le_refl _) (by simp [hxr.1, q2u])⟩, h3⟩
 unfold Instr.buildSlice
 simp only [Sem.run_bind, run_underlying hk.1, Result.andThen_ok, hok.run_sizeOf]
 rw [if_neg (by omega)]
 by_cases h0 : len * te.size = 0
 ·rw [if_pos h0]
  have j7a : (Array.range (len * te.size)).map (fun i => (#[] : Array Value)[i % (#[] : Array Value).size]!) = (List.replicate len z.cells.toList).flatten.toArray := by
   apply Array.ext'
   rw [h0]
   have : (List.replicate len z.cells.toList).flatten = [] := List.eq_nil_of_length_eq_zero (by simp [hzs, h0])
   rw [this]; simp
  simp only [Sem.run_bind, Sem.run_pure, Result.andThen_ok]
  rw [j7a, hx]
  simp [newRow]
 ·rw [if_neg h0]
  have j7a : (Array.range (len * te.size)).map (fun i => z.cells[i % z.cells.size]!) = (List.replicate len z.cells.toList).flatten.toArray := by
   apply Array.ext'
   rw [← hzs]
   exact q9t z.cells len
  simp only [Sem.run_bind, hz, Sem.run_pure, Result.andThen_ok]
  rw [j7a, hx]
  simp [newRow]
theorem j5f (hC : TOk C) {H : AHeap} (hH : HRel C w U ι H) {t : TypeId} {sz by_ : Nat} {zr : List AV} {eq : Option (List CK)} {s : Bytes} {u : Value}
  (hti : C.TT t = some { kind := .str, size := sz, bytes := by_, zero := zr, eqk := eq }) (hx : VRel w U ι (.str s) u) :
  ∃ v w' ι', (Instr.range t u).run C.P w = .ok v w' ∧ Leaves C w U ι (H.push (.iter s 0)) (.ptr H.next 0 0 0) v w' U ι' ∧ Reads w ι H (H.push (.iter s 0)) w' ι' := by
 have hk := (hC.tt _ _ hti).kind
 simp only [KOk] at hk
 cases hx with
 | str _ b hb =>
  obtain ⟨h1, h2, h3⟩ := q8m hH (w' := w.alloc (.stringIter b 0)) (o := .stringIter b 0) rfl (.iter s 0) ⟨b, hb, by rw [World.alloc, Array.getElem?_push]; simp⟩
  refine ⟨.pointer (some ⟨w.heap.size, 0, none⟩), w.alloc (.stringIter b 0), _, ?_, ⟨h1, h2, j5d⟩, h3⟩
  unfold Instr.range
  simp only [Sem.run_bind, run_underlying hk.1, Result.andThen_ok]
  simp
theorem z4v (hC : TOk C) {H : AHeap} (hH : HRel C w U ι H) {t elem : TypeId} {sz by_ : Nat} {zr : List AV} {eq : Option (List CK)} {te : TI} {k1 k2 : IntKind} {n m : Int}
  (hti : C.TT t = some { kind := .slice elem, size := sz, bytes := by_, zero := zr, eqk := eq }) (hte : C.TT elem = some te) (h0 : 0 ≤ n) (hnm : n ≤ m) (hb : m * te.bytes ≤ (q2m : Int)) (hm : m ≤ (q2m : Int)) :
  ∃ v w' ι', (Instr.makeSlice t (.int k1 n) (.int k2 m)).run C.P w = .ok v w' ∧ Leaves C w U ι (H.push (.cells elem te.size (List.replicate n.toNat te.zero))) (.slc H.next te.size 0 n.toNat) v w' U ι' ∧ Reads w ι H (H.push (.cells elem te.size (List.replicate n.toNat te.zero))) w' ι' := by
 have hk := (hC.tt _ _ hti).kind
 simp only [KOk] at hk
 have hok := hC.tt _ _ hte
 obtain ⟨z, hz, hzm, hzs⟩ := hok.run_zero (w := w)
 obtain ⟨inf, hinf, hby, hsz⟩ := hok.run_bytes (w := w)
 have hzr : LsRel w U ι te.zero z.cells.toList := LsRel.ofConsts hzm
 have y0h : ∀ a, a ∈ (List.replicate n.toNat te.zero).flatten → a.one = true := by
  intro a ha
  simp only [List.mem_flatten, List.mem_replicate] at ha
  obtain ⟨l, ⟨_, rfl⟩, ha⟩ := ha
  exact hok.zero_one a ha
 let cs : Array Value := (List.replicate m.toNat z.cells.toList).flatten.toArray
 have hpre : ∀ (i : Nat) (v : Value), (List.replicate n.toNat z.cells.toList).flatten[i]? = some v → cs[i]? = some v := by
  intro i v hv
  have : List.replicate m.toNat z.cells.toList = List.replicate n.toNat z.cells.toList ++ List.replicate (m.toNat - n.toNat) z.cells.toList := by
   rw [List.replicate_append_replicate]; congr 1; omega
  simp only [cs, this, List.flatten_append, List.getElem?_toArray]
  rw [List.getElem?_append_left (List.getElem?_eq_some_iff.mp hv).1]
  exact hv
 obtain ⟨h1, h2, h3⟩ := q4x hH (w' := w.alloc (.cells cs elem)) (cs := cs) (t := elem) (k := te.size) (es := List.replicate n.toNat te.zero) (vs := (List.replicate n.toNat z.cells.toList).flatten) rfl
  (fun e he => by rw [(List.mem_replicate.mp he).2]; exact hok.zero_len) (hzr.replicate _) y0h hpre
 have hcsz : cs.size = m.toNat * te.size := by simp [cs, hzs]
 refine ⟨.slice (some ⟨w.heap.size, 0, none⟩) n.toNat m.toNat, w.alloc (.cells cs elem), _, ?_, ⟨h1, h2, z9m rfl (by omega) (by omega)⟩, h3⟩
 unfold Instr.makeSlice
 have x0x : (q2m : Int) = 140737488355328 := by decide
 rw [x0x] at hb hm
 have wn : IntKind.i64.wrap n = n := by
  unfold IntKind.wrap IntKind.bits IntKind.signed; simp; omega
 have wm : IntKind.i64.wrap m = m := by
  unfold IntKind.wrap IntKind.bits IntKind.signed; simp; omega
 have hmb : te.bytes * m ≤ 140737488355328 := by rw [Int.mul_comm]; exact hb
 have hnb : te.bytes * n ≤ 140737488355328 := by
  have : (te.bytes : Int) * n ≤ te.bytes * m := Int.mul_le_mul_of_nonneg_left hnm (by omega)
  omega
 simp only [Sem.run_bind, run_underlying hk.1, Result.andThen_ok, asInt, asIntOf, Sem.run_pure, hinf, hby, wn, wm]
 have c1 : ¬ (m < 0) := by omega
 have c2 : ¬ ((te.bytes : Int) * m > 2 ^ 48) := by omega
 have c3 : ¬ (n < 0) := by omega
 have c4 : ¬ (n > m) := by omega
 simp only [c1, c2, c3, c4, decide_false, Bool.or_self, Bool.false_eq_true, or_self, if_false, Sem.run_bind, run_askRoom, Result.andThen_ok, hok.run_sizeOf]
 by_cases h0 : m.toNat * te.size = 0
 ·rw [if_pos h0]
  have j7a : (Array.range (m.toNat * te.size)).map (fun i => (#[] : Array Value)[i % (#[] : Array Value).size]!) = cs := by
   apply Array.ext'
   rw [h0]
   have : (List.replicate m.toNat z.cells.toList).flatten = [] := List.eq_nil_of_length_eq_zero (by simp [hzs, h0])
   simp [cs, this]
  simp only [Sem.run_bind, Sem.run_pure, Result.andThen_ok]
  rw [j7a]
  simp [newRow]
 ·rw [if_neg h0]
  have j7a : (Array.range (m.toNat * te.size)).map (fun i => z.cells[i % z.cells.size]!) = cs := by
   apply Array.ext'
   rw [← hzs]
   exact q9t z.cells m.toNat
  simp only [Sem.run_bind, hz, Sem.run_pure, Result.andThen_ok]
  rw [j7a]
  simp [newRow]
end Go.BX
namespace Go.BX
variable {C : Ctx} {w : World} {U : Nat → Prop} {ι : Nat → Option Nat}
theorem z9n {k : Nat} : ∀ {es : List (List AV)} {m : Nat} {y : AV}, (∀ e, e ∈ es → e.length = k) → es.flatten[m]? = some y → ∃ i e j, es[i]? = some e ∧ e[j]? = some y ∧ m = i * k + j ∧ j < k
 | [], m, y, _, h => by simp at h
 | x :: es, m, y, hk, h => by
  have hx : x.length = k := hk x (by simp)
  rw [List.flatten_cons] at h
  by_cases hm : m < k
  ·rw [List.getElem?_append_left (by omega)] at h
   exact ⟨0, x, m, rfl, h, by simp, hm⟩
  ·rw [List.getElem?_append_right (by omega)] at h
   obtain ⟨i, e, j, he, hj, hmij, hjk⟩ := z9n (fun e he => hk e (by simp [he])) h
   exact ⟨i + 1, e, j, by simpa using he, hj, by rw [Nat.add_mul]; omega, hjk⟩
theorem q5s {k : Nat} : ∀ {es : List (List AV)}, (∀ e, e ∈ es → e.length = k) → es.flatten.length = es.length * k
 | [], _ => by simp
 | x :: es, hk => by
  rw [List.flatten_cons, List.length_append, hk x (by simp), q5s (fun e he => hk e (by simp [he])), List.length_cons, Nat.add_mul]
  omega
theorem q4k {k : Nat} : ∀ {es : List (List AV)} (n : Nat), (∀ e, e ∈ es → e.length = k) → (es.take n).flatten = es.flatten.take (n * k)
 | [], n, _ => by simp
 | x :: es, 0, _ => by simp
 | x :: es, n + 1, hk => by
  have hx : x.length = k := hk x (by simp)
  have hle : x.length ≤ (n + 1) * k := by rw [hx, Nat.add_mul]; omega
  rw [List.take_succ_cons, List.flatten_cons, List.flatten_cons, q4k n (fun e he => hk e (by simp [he])), List.take_append, List.take_of_length_le hle, hx]
  rw [show (n + 1) * k - k = n * k from by rw [Nat.add_mul]; omega]
theorem j1t {k : Nat} : ∀ {es : List (List AV)} (n : Nat), (∀ e, e ∈ es → e.length = k) → (es.drop n).flatten = es.flatten.drop (n * k)
 | [], n, _ => by simp
 | x :: es, 0, _ => by simp
 | x :: es, n + 1, hk => by
  have hx : x.length = k := hk x (by simp)
  have hle : x.length ≤ (n + 1) * k := by rw [hx, Nat.add_mul]; omega
  rw [List.drop_succ_cons, List.flatten_cons, j1t n (fun e he => hk e (by simp [he])), List.drop_append, List.drop_of_length_le hle, hx]
  rw [show (n + 1) * k - k = n * k from by rw [Nat.add_mul]; omega]
  simp
def x1p (w : World) (a : Addr) (vs : List Value) : Prop := ∀ (j : Nat) (v : Value), vs[j]? = some v → w.cell? (a.add j) = some v
theorem z7w {es : List (List AV)} {k : Nat} {c o : Nat} (hk : ∀ e, e ∈ es → e.length = k)
  (h : ∀ (i : Nat) (e : List AV) (j : Nat) (y : AV), es[i]? = some e → e[j]? = some y → y.one = true ∧ ∃ u, w.cell? ⟨c, o + i * k + j, none⟩ = some u ∧ VRel w U ι y u) :
  ∃ vs, LsRel w U ι es.flatten vs ∧ x1p w ⟨c, o, none⟩ vs ∧ ∀ y, y ∈ es.flatten → y.one = true := by
 let f : Nat → Value := fun m => (w.cell? ⟨c, o + m, none⟩).getD undef
 have hf : ∀ m y, es.flatten[m]? = some y → y.one = true ∧ w.cell? ⟨c, o + m, none⟩ = some (f m) ∧ VRel w U ι y (f m) := by
  intro m y hy
  obtain ⟨i, e, j, he, hj, rfl, _⟩ := z9n hk hy
  obtain ⟨h1, u, hu, hur⟩ := h i e j y he hj
  have : w.cell? ⟨c, o + (i * k + j), none⟩ = some u := by rw [← Nat.add_assoc]; exact hu
  simp only [f, this, Option.getD_some]
  exact ⟨h1, trivial, hur⟩
 refine ⟨(List.range es.flatten.length).map f, ⟨by simp, fun i a v ha hv => ?_⟩, fun j v hv => ?_, fun y hy => ?_⟩
 ·have hi := (List.getElem?_eq_some_iff.mp ha).1
  rw [List.getElem?_map, List.getElem?_range hi] at hv
  simp only [Option.map_some, Option.some.injEq] at hv
  subst hv
  exact (hf i a ha).2.2
 ·have hj : j < es.flatten.length := by have := (List.getElem?_eq_some_iff.mp hv).1; simpa using this
  rw [List.getElem?_map, List.getElem?_range hj] at hv
  simp only [Option.map_some, Option.some.injEq] at hv
  subst hv
  rw [Addr.add_eq]
  exact (hf j _ (List.getElem?_eq_getElem hj)).2.1
 ·obtain ⟨m, hm⟩ := List.getElem?_of_mem hy
  exact (hf m y hm).1
theorem q6t {H : AHeap} (hH : HRel C w U ι H) {k : Nat} {x : AV} {v : Value} {es : List (List AV)} (hx : VRel w U ι x v) (h : elems H k x = some es) :
  (∀ e, e ∈ es → e.length = k) ∧ ∃ a cap vs, v = .slice a es.length cap ∧ LsRel w U ι es.flatten vs ∧ (∀ y, y ∈ es.flatten → y.one = true) ∧ ((a = none ∧ es = []) ∨ ∃ ad, a = some ad ∧ x1p w ad vs) := by
 cases hx with
 | nilS =>
  simp only [elems, Option.some.injEq] at h
  subst h; exact ⟨by simp, none, 0, [], rfl, LsRel.nil, by simp, .inl ⟨rfl, rfl⟩⟩
 | emp a =>
  simp only [elems, Option.some.injEq] at h
  subst h; exact ⟨by simp, some a, 0, [], rfl, LsRel.nil, by simp, .inr ⟨a, rfl, fun j v h => by simp at h⟩⟩
 | vec es' a k' cap ys hcap hk hU hs hc h1 hr =>
  simp only [elems] at h
  split at h
  ·rename_i hkk
   cases h
   subst hkk
   refine ⟨hk, ?_⟩
   by_cases hne : es = []
   ·subst hne; exact ⟨some a, cap, [], rfl, LsRel.nil, by simp, .inr ⟨a, rfl, fun j v h => by simp at h⟩⟩
   ·obtain ⟨vs, h1', h2', h3'⟩ := z7w (w := w) (U := U) (ι := ι) (c := a.block) (o := a.off) hk (fun i e j y he hy => by
     have hi : i < es.length := (List.getElem?_eq_some_iff.mp he).1
     have hj : j < k' := by rw [← hk e (List.mem_of_getElem? he)]; exact (List.getElem?_eq_some_iff.mp hy).1
     exact ⟨h1 e (List.mem_of_getElem? he) y (List.mem_of_getElem? hy), ys i j, hc i j hi hj, (hr i e j y he hy).mono (fun _ h => h) (fun _ _ => rfl) (fun _ _ h => h) ι (fun _ _ h => by cases h)⟩)
    refine ⟨some a, cap, vs, rfl, h1', h3', .inr ⟨a, rfl, ?_⟩⟩
    have : a = ⟨a.block, a.off, none⟩ := by have := hs hne; cases a; simp at this; subst this; rfl
    rw [this]; exact h2'
  ·cases h
 | slc b k' i n c off cap m t hb ho hn hs hm =>
  simp only [elems] at h
  split at h
  ·rename_i t' k'' es' hbl
   split at h
   ·rename_i hkk
    obtain ⟨rfl, rfl, hle⟩ := hkk
    cases h
    have hbr := hH.blk b c hb
    rw [hbl] at hbr
    obtain ⟨cs, hcs, hk, hr⟩ := hbr
    have hk' : ∀ e, e ∈ (es'.drop i).take n → e.length = k'' := fun e he => hk e (List.mem_of_mem_drop (List.mem_of_mem_take he))
    have q2u : ((es'.drop i).take n).length = n := by simp; omega
    refine ⟨hk', ?_⟩
    by_cases hn0 : n = 0
    ·subst hn0
     exact ⟨some ⟨c, off, none⟩, cap, [], by simp, by simpa using LsRel.nil, by simp, .inr ⟨_, rfl, fun j v h => by simp at h⟩⟩
    ·have x6n := ho (.inl hn0)
     obtain ⟨vs, h1', h2', h3'⟩ := z7w (w := w) (U := U) (ι := ι) (c := c) (o := off) hk' (fun p e j y he hy => by
      rw [List.getElem?_take] at he
      split at he
      ·rw [List.getElem?_drop] at he
       obtain ⟨h1, u, hu, hur⟩ := hr (i + p) e j y he hy
       refine ⟨h1, u, ?_, hur⟩
       simp only [World.cell?, hcs, Option.isSome_none]
       rw [x6n, ← Nat.add_mul]
       exact hu
      ·cases he)
     refine ⟨some ⟨c, off, none⟩, cap, vs, by rw [q2u], h1', h3', .inr ⟨_, rfl, h2'⟩⟩
   ·cases h
  ·cases h
 | _ => simp [elems] at h
theorem z2n (s : Bytes) : (q0v s).flatten = s.map fun b => .int .u8 b.toNat := by
 induction s with
 | nil => rfl
 | cons b s ih => simp only [q0v, List.map_cons, List.flatten_cons] at ih ⊢; rw [ih]; rfl
theorem q7o {H : AHeap} (hH : HRel C w U ι H) {k : Nat} {x : AV} {v : Value} {es : List (List AV)} (hx : VRel w U ι x v) (h : q3a H k x = some es) :
  (∀ e, e ∈ es → e.length = k) ∧ (∀ w', (Builtin.lenOf v).run C.P w' = .ok es.length w') ∧ (∀ y, y ∈ es.flatten → y.one = true) ∧ ∃ vs, LsRel w U ι es.flatten vs ∧
   (∀ w', w'.heap = w.heap → (Builtin.firstCells k es.length v).run C.P w' = .ok vs.toArray w') ∧ (∀ n, n ≤ es.length → ∀ w', w'.heap = w.heap → (Builtin.firstCells k n v).run C.P w' = .ok (vs.take (n * k)).toArray w') := by
 unfold q3a at h
 split at h
 ·rename_i s
  split at h
  ·rename_i hk
   subst hk
   cases h
   cases hx with
   | str _ b hb =>
    subst hb
    refine ⟨fun e he => by simp only [q0v, List.mem_map] at he; obtain ⟨_, _, rfl⟩ := he; rfl, fun w' => by simp [Builtin.lenOf, q0v], ?_, (b.data.toList.map fun c => .int .u8 c.toNat), ?_, ?_, ?_⟩
    ·rw [z2n]; intro y hy; simp only [List.mem_map] at hy; obtain ⟨_, _, rfl⟩ := hy; rfl
    ·rw [z2n]
     refine ⟨by simp, fun i a v ha hv => ?_⟩
     rw [List.getElem?_map] at ha hv
     cases hc : b.data.toList[i]? with
     | none => rw [hc] at ha; simp at ha
     | some c => rw [hc] at ha hv; simp at ha hv; subst ha hv; exact .int _ _
    ·intro w' _
     simp only [Builtin.firstCells, Sem.run_pure]
     congr 1
     apply Array.ext'
     simp [q0v, ByteArray.data_extract]
    ·intro n hn w' _
     simp only [Builtin.firstCells, Sem.run_pure]
     congr 1
     apply Array.ext'
     simp [ByteArray.data_extract, List.extract_eq_take_drop, List.map_take]
  ·cases h
 ·obtain ⟨hk, a, cap, vs, rfl, hr, h1, hor⟩ := q6t hH hx h
  have hvl : vs.length = es.length * k := by rw [hr.1, q5s hk]
  refine ⟨hk, fun w' => by simp [Builtin.lenOf], h1, vs, hr, ?_, ?_⟩
  ·intro w' hw'
   rcases hor with ⟨rfl, rfl⟩ | ⟨ad, rfl, hc⟩
   ·have : vs = [] := List.eq_nil_of_length_eq_zero (by simpa using hvl)
    subst this
    simp [Builtin.firstCells]
   ·exact run_firstCells_some (P := C.P) w' k es.length ad _ cap vs hvl (fun j u hu => by rw [q4j (w := w) (by rw [hw'])]; exact hc j u hu)
  ·intro n hn w' hw'
   rcases hor with ⟨rfl, rfl⟩ | ⟨ad, rfl, hc⟩
   ·have : vs = [] := List.eq_nil_of_length_eq_zero (by simpa using hvl)
    subst this
    simp [Builtin.firstCells]
   ·refine run_firstCells_some (P := C.P) w' k n ad _ cap _ (by rw [List.length_take, hvl, Nat.min_eq_left (Nat.mul_le_mul_right _ hn)]) (fun j u hu => ?_)
    rw [q4j (w := w) (by rw [hw'])]
    rw [List.getElem?_take] at hu
    split at hu
    ·exact hc j u hu
    ·cases hu
theorem z4w {k : Nat} {es : List (List AV)} {cs : Array Value} (hk : ∀ e, e ∈ es → e.length = k)
  (hr : ∀ (i : Nat) (e : List AV) (j : Nat) (a : AV), es[i]? = some e → e[j]? = some a → a.one = true ∧ ∃ v, cs[i * k + j]? = some v ∧ VRel w U ι a v) :
  LsRel w U ι es.flatten (cs.toList.take (es.length * k)) ∧ es.length * k ≤ cs.size ∧ ∀ y, y ∈ es.flatten → y.one = true := by
 have hf : ∀ (m : Nat) (y : AV), es.flatten[m]? = some y → y.one = true ∧ ∃ v : Value, cs[m]? = some v ∧ VRel w U ι y v := by
  intro m y hy
  obtain ⟨i, e, j, he, hj, rfl, _⟩ := z9n hk hy
  exact hr i e j y he hj
 have hl := q5s hk
 have hle : es.length * k ≤ cs.size := by
  rcases Nat.eq_zero_or_pos (es.length * k) with h0 | h0
  ·omega
  ·have hlt : es.length * k - 1 < es.flatten.length := by omega
   obtain ⟨_, v, hv, _⟩ := hf _ _ (List.getElem?_eq_getElem hlt)
   have := (Array.getElem?_eq_some_iff.mp hv).1
   omega
 refine ⟨⟨by rw [List.length_take, hl]; simp; omega, fun i a v ha hv => ?_⟩, hle, fun y hy => ?_⟩
 ·rw [List.getElem?_take] at hv
  split at hv
  ·obtain ⟨_, u, hu, hur⟩ := hf i a ha
   have : cs[i]? = some v := by rw [← Array.getElem?_toList]; exact hv
   rw [hu] at this; cases this
   exact hur
  ·cases hv
 ·obtain ⟨m, hm⟩ := List.getElem?_of_mem hy
  exact (hf m y hm).1
theorem j1u {c : Nat} {cs ds : Array Value} {t : TypeId} (hc : w.heap[c]? = some (.cells cs t (0, 0))) (hs : ds.size = cs.size) : ∀ d, (w.setRow c ds).shape? d = w.shape? d := by
 intro d
 by_cases e : d = c
 ·subst e
  unfold World.shape?
  rw [setRow_heap w d cs ds t _ hc, hc]
  simp [hs]
 ·exact q1d (setRow_other w c d ds e)
theorem z4x {H : AHeap} (hH : HRel C w U ι H) {b c : Nat} (hb : ι b = some c) {cs ds : Array Value} {t : TypeId} (hc : w.heap[c]? = some (.cells cs t (0, 0))) (hs : ds.size = cs.size) (hd : (H.at_ b).isDead = false) {blk : Blk}
  (hB : (∀ {a : AV} {v : Value}, VRel w U ι a v → VRel (w.setRow c ds) U ι a v) → BRel C (w.setRow c ds) U ι c blk) :
  Ext w U ι (w.setRow c ds) U ι ∧ HRel C (w.setRow c ds) U ι (H.set b blk) := by
 have q3y : Ext w U ι (w.setRow c ds) U ι :=
  {map := fun _ _ h => h, rng := fun b _ h => .inl ⟨b, h⟩, imm := fun _ h => h, new := fun _ h => .inl h, size := by simp
   kept := fun d _ hn => setRow_other w c d ds (fun e => hn b (by rw [e]; exact hb))
   shape := fun d _ => j1u hc hs d, env := ⟨rfl, rfl, rfl⟩ }
 have hm : ∀ {a : AV} {v : Value}, VRel w U ι a v → VRel (w.setRow c ds) U ι a v := fun hv => q3y.mono hH hv
 refine ⟨q3y, ⟨fun b' c' h => by simpa [AHeap.set] using hH.dom b' c' h, fun b1 b2 c' h1 h2 d1 d2 => ?_, fun c' h => by simpa using hH.imm c' h, fun b' c' h => ?_⟩⟩
 ·have live : ∀ b', ((H.set b blk).at_ b').isDead = false → (H.at_ b').isDead = false := by
   intro b' h'
   by_cases e : b' = b
   ·subst e; exact hd
   ·simp only [AHeap.set, q2a e] at h'; exact h'
  exact hH.inj b1 b2 c' h1 h2 (live b1 d1) (live b2 d2)
 ·by_cases e : b' = b
  ·subst e
   rw [hb] at h; cases h
   simp only [AHeap.set, upd_same]
   exact hB hm
  ·simp only [AHeap.set]
   rw [q2d _ _ e]
   by_cases hdd : (H.at_ b').isDead = true
   ·cases hx : H.at_ b' <;> rw [hx] at hdd <;> simp [Blk.isDead] at hdd
    trivial
   ·have hne : c' ≠ c := by
     rintro rfl
     exact e (hH.inj b' b _ h hb (by simpa using hdd) hd)
    exact (hH.blk b' c' h).mono hm (fun _ _ h => h) (setRow_other w c c' ds hne)
end Go.BX
namespace Go.BX
variable {C : Ctx} {w : World} {U : Nat → Prop} {ι : Nat → Option Nat}
theorem z1t {cs : List AV} {vs : List Value} (h : LsRel w U ι cs vs) (h1 : ∀ a, a ∈ cs → a.one = true) : ∀ v, v ∈ vs → v.oneCell' = true := by
 intro v hv
 obtain ⟨i, hi⟩ := List.getElem?_of_mem hv
 have hlt : i < cs.length := by rw [← h.1]; exact (List.getElem?_eq_some_iff.mp hi).1
 exact ((h.2 i _ v (List.getElem?_eq_getElem hlt) hi).one (h1 _ (List.getElem_mem hlt))).1
theorem j9j {cs new : List AV} {off m : Nat} (h : off + new.length ≤ cs.length) : (splice cs off new)[m]? = if m < off then cs[m]? else if m < off + new.length then new[m - off]? else cs[m]? := by
 unfold splice
 by_cases h1 : m < off
 ·rw [if_pos h1, List.append_assoc, List.getElem?_append_left (by simp; omega), List.getElem?_take, if_pos h1]
 ·rw [if_neg h1]
  by_cases h2 : m < off + new.length
  ·rw [if_pos h2, List.getElem?_append_left (by simp; omega), List.getElem?_append_right (by simp; omega)]
   congr 1; simp; omega
  ·rw [if_neg h2, List.getElem?_append_right (by simp; omega), List.getElem?_drop]
   congr 1; simp; omega
theorem j5g {cs new : List Value} {off m : Nat} (h : off + new.length ≤ cs.length) : (cs.take off ++ new ++ cs.drop (off + new.length))[m]? = if m < off then cs[m]? else if m < off + new.length then new[m - off]? else cs[m]? := by
 by_cases h1 : m < off
 ·rw [if_pos h1, List.append_assoc, List.getElem?_append_left (by simp; omega), List.getElem?_take, if_pos h1]
 ·rw [if_neg h1]
  by_cases h2 : m < off + new.length
  ·rw [if_pos h2, List.getElem?_append_left (by simp; omega), List.getElem?_append_right (by simp; omega)]
   congr 1; simp; omega
  ·rw [if_neg h2, List.getElem?_append_right (by simp; omega), List.getElem?_drop]
   congr 1; simp; omega
theorem j5h (hC : TOk C) {H H' : AHeap} (hH : HRel C w U ι H) {t : TypeId} {p x : AV} {v u : Value} (hp : VRel w U ι p v) (hx : VRel w U ι x u) (h : storeA C H t p x = some H') :
  ∃ w', (Instr.storeAt t v u).run C.P w = .ok () w' ∧ Ext w U ι w' U ι ∧ HRel C w' U ι H' ∧ ∀ c, (∀ b, z3t p = some (some b) → (H.at_ b).isDead = false → ι b ≠ some c) → w'.heap[c]? = w.heap[c]? := by
 unfold storeA at h
 split at h
 ·cases h
 ·rename_i ti hti
  split at h
  ·rename_i b k i j
   split at h
   ·rename_i t' k' es hbl
    split at h
    ·rename_i hk
     subst hk
     split at h
     ·rename_i e he
      split at h
      ·rename_i hcond
       obtain ⟨hpl, q2u, hle⟩ := hcond
       cases h
       cases hp with
       | ptr _ _ _ _ c hι =>
        have hbr := hH.blk b c hι
        rw [hbl] at hbr
        obtain ⟨cs, hcs, hkk, hr⟩ := hbr
        obtain ⟨hcr, hco⟩ := hx.cells_rel hpl
        have hek : e.length = k := hkk e (List.mem_of_getElem? he)
        obtain ⟨hlr, hsz, _⟩ := z4w hkk hr
        have hi : i < es.length := (List.getElem?_eq_some_iff.mp he).1
        have hus : u.cells.toList.length = ti.size := by rw [hcr.1, q2u]
        have j4p : i * k + j + u.cells.toList.length ≤ cs.size := by
         have : (i + 1) * k ≤ es.length * k := Nat.mul_le_mul_right _ hi
         rw [Nat.add_mul] at this
         omega
        have hst := run_storeCells_at C.P c (i * k + j) t' u.cells.toList 0 cs w hcs (by simpa using j4p) (z1t hcr hco)
        simp only [Nat.add_zero] at hst
        have w7n : (cs.toList.take (i * k + j) ++ u.cells.toList ++ cs.toList.drop (i * k + j + u.cells.toList.length)).toArray.size = cs.size := by
         have e0 : u.cells.toList.length = u.cells.size := by simp
         simp only [List.size_toArray, List.length_append, List.length_take, List.length_drop, Array.length_toList] at e0 j4p ⊢; omega
        obtain ⟨h1, h2⟩ := z4x hH hι hcs w7n (by rw [hbl]; rfl) (blk := .cells t' k (es.set i (splice e j x.cells))) (fun hm => by
         refine ⟨_, setRow_heap w c cs _ t' _ hcs, fun e' he' => ?_, fun i' e' j' a he' ha => ?_⟩
         ·rcases List.mem_or_eq_of_mem_set he' with h | h
          ·exact hkk e' h
          ·rw [h, z7s (by omega), hek]
         ·rw [List.getElem?_set] at he'
          have hvg := @j5g cs.toList u.cells.toList (i * k + j) (i' * k + j') (by simpa using j4p)
          rw [List.getElem?_toArray, hvg]
          by_cases hii : i = i'
          ·subst hii
           rw [if_pos rfl, if_pos hi] at he'
           cases he'
           rw [j9j (by omega)] at ha
           by_cases c1 : j' < j
           ·rw [if_pos c1] at ha
            rw [if_pos (by omega)]
            obtain ⟨h1, v, hv, hvr⟩ := hr i e j' a he ha
            exact ⟨h1, v, by rw [Array.getElem?_toList]; exact hv, hm hvr⟩
           ·rw [if_neg c1] at ha
            rw [if_neg (by omega)]
            by_cases c2 : j' < j + x.cells.length
            ·rw [if_pos c2] at ha
             rw [if_pos (by omega)]
             obtain ⟨v, hv, hvr⟩ := hcr.get ha
             refine ⟨hco a (List.mem_of_getElem? ha), v, ?_, hm hvr⟩
             rw [show i * k + j' - (i * k + j) = j' - j from by omega]
             exact hv
            ·rw [if_neg c2] at ha
             rw [if_neg (by omega)]
             obtain ⟨h1, v, hv, hvr⟩ := hr i e j' a he ha
             exact ⟨h1, v, by rw [Array.getElem?_toList]; exact hv, hm hvr⟩
          ·rw [if_neg hii] at he'
           have hj' : j' < k := by rw [← hkk e' (List.mem_of_getElem? he')]; exact (List.getElem?_eq_some_iff.mp ha).1
           obtain ⟨h1, v, hv, hvr⟩ := hr i' e' j' a he' ha
           have hout : i' * k + j' < i * k + j ∨ i * k + j + u.cells.toList.length ≤ i' * k + j' := by
            rcases Nat.lt_or_ge i' i with h | h
            ·left
             have : (i' + 1) * k ≤ i * k := Nat.mul_le_mul_right _ h
             rw [Nat.add_mul] at this; omega
            ·right
             have : (i + 1) * k ≤ i' * k := Nat.mul_le_mul_right _ (by omega)
             rw [Nat.add_mul] at this; omega
           rcases hout with c1 | c1
           ·rw [if_pos c1]; exact ⟨h1, v, by rw [Array.getElem?_toList]; exact hv, hm hvr⟩
           ·rw [if_neg (by omega), if_neg (by omega)]; exact ⟨h1, v, by rw [Array.getElem?_toList]; exact hv, hm hvr⟩)
        refine ⟨_, ?_, h1, h2, fun d hd => setRow_other w c d _ (fun e => hd b rfl (by rw [hbl]; rfl) (by rw [e]; exact hι))⟩
        unfold Instr.storeAt storeVar
        simp only [Sem.run_bind, Instr.sureAddr, Sem.run_pure, Result.andThen_ok, (hC.tt _ _ hti).run_sizeOf]
        have hus' : u.cells.size = ti.size := by simpa using hus
        rw [if_neg (by simp [hus'])]
        exact hst
      ·cases h
     ·cases h
    ·cases h
   ·cases h
  ·cases h
theorem z7f {P : Program} (w : World) {t t' ty e : TypeId} {i : TypeInfo} {z : Value} (ht : P.underlying t = some (.slice e)) {d' : TypeDesc} (ht' : P.underlying t' = some d') (hd : ∀ k, d' ≠ .int k) (hi : P.info? e = some i) (hz : i.zero = some z)
  {base : Option Addr} {sLen sCap n : Nat} {x : Value} {olds news : Array Value} (hn : ∀ w', (Builtin.lenOf x).run P w' = .ok n w')
  (x6k : ∀ w', w'.heap = w.heap → (Builtin.firstCells i.size sLen (.slice base sLen sCap)).run P w' = .ok olds w') (j9d : ∀ w', w'.heap = w.heap → (Builtin.firstCells i.size n x).run P w' = .ok news w')
  (hg : sCap < sLen + n) (hb : (sLen + n) * i.bytes ≤ 140737488355328) (hl : sLen + n ≤ 140737488355328) :
  (Builtin.append_ #[t, t'] ty #[.slice base sLen sCap, x]).run P w =
   .ok (.slice (some ⟨w.heap.size, 0, none⟩) (sLen + n) (grownCap w (sLen + n) sCap e)) (w.drew.alloc (.cells (olds ++ news ++ Builtin.zeroCells z.cells (grownCap w (sLen + n) sCap e - (sLen + n))) e)) := by
 have hng : ¬ (sLen + n ≤ sCap) := by omega
 have v1e : ¬ (9223372036854775807 < ((sLen : Int) + (n : Int))) := by omega
 have y8e := growslice_fits hg hb
 have v1q : ¬ (281474976710656 < Builtin.nextslicecap (sLen + n) sCap * i.bytes) := by omega
 have w7b : (d' matches .int _) = false := by cases d' <;> first | rfl | exact absurd rfl (hd _)
 have h1 := x6k w.drew rfl
 have h2 := j9d w.drew rfl
 unfold Builtin.append_
 simp only [List.getElem?_toArray, List.getElem?_cons_zero, List.getElem?_cons_succ, Sem.run_bind, run_underlying ht, run_underlying ht', Result.andThen_ok, sizeOf, typeInfo, run_program, hi, Sem.run_pure, w7b, hn, Bool.false_eq_true, if_false, hng, or_false, false_or, not_false_eq_true, Bool.not_false, if_true]
 have y3b : IntKind.i64.max = 9223372036854775807 := by decide
 simp [v1e, v1q, y3b, hi, hz, zeroValue, typeInfo, Question.forced, h1, h2, newRow, grownCap, Builtin.zeroCells]
theorem z3k {P : Program} (w : World) {t t' ty e : TypeId} {i : TypeInfo} {z : Value} {k k' : IntKind} {N : Nat} (ht : P.underlying t = some (.slice e)) (ht' : P.underlying t' = some (.int k')) (hi : P.info? e = some i) (hz : i.zero = some z) (hzs : z.cells.size = i.size)
  (h0 : 0 < N) (hb : N * i.bytes ≤ 140737488355328) (hl : N ≤ 140737488355328) :
  (Builtin.append_ #[t, t'] ty #[.slice none 0 0, .int k (N : Int)]).run P w =
   .ok (.slice (some ⟨w.heap.size, 0, none⟩) N (grownCap w N 0 e)) (w.drew.alloc (.cells (#[] ++ Builtin.zeroCells z.cells N ++ Builtin.zeroCells z.cells (grownCap w N 0 e - N)) e)) := by
 have hng : ¬ (N ≤ 0) := by omega
 have wn : IntKind.i64.wrap (N : Int) = (N : Int) := by
  unfold IntKind.wrap IntKind.bits IntKind.signed; simp; omega
 have c1 : ¬ ((N : Int) < 0) := by omega
 have c2 : ¬ ((N : Int) * (i.bytes : Int) > 2 ^ 48) := by
  have h2 : ((N * i.bytes : Nat) : Int) ≤ ((140737488355328 : Nat) : Int) := Int.ofNat_le.mpr hb
  rw [Int.natCast_mul] at h2
  omega
 have v1e : ¬ (9223372036854775807 < (N : Int)) := by omega
 have y8e := growslice_fits (need := N) (old := 0) (bytes := i.bytes) h0 hb
 have v1q : ¬ (281474976710656 < Builtin.nextslicecap N 0 * i.bytes) := by omega
 have y3b : IntKind.i64.max = 9223372036854775807 := by decide
 have hzc : (if N * i.size = 0 then (#[] : Array Value) else Builtin.zeroCells z.cells N) = Builtin.zeroCells z.cells N := by
  split
  ·rename_i h
   unfold Builtin.zeroCells
   rw [hzs, h]
   simp
  ·rfl
 have hap : ∀ w' : World, (if N * i.size = 0 then (pure #[] : Sem (Array Value)) else do pure (Builtin.zeroCells (← zeroValue e).cells N)).run P w' = .ok (Builtin.zeroCells z.cells N) w' := by
  intro w'
  rw [← hzc]
  split <;> simp [zeroValue, typeInfo, hi, hz]
 unfold Builtin.append_
 simp only [List.getElem?_toArray, List.getElem?_cons_zero, List.getElem?_cons_succ, Sem.run_bind, run_underlying ht, run_underlying ht', Result.andThen_ok, sizeOf, typeInfo, run_program, hi, Sem.run_pure, asInt, asIntOf, wn, c1, c2, Int.toNat_natCast, Nat.zero_add, Bool.false_eq_true, if_false, if_true, hng, Bool.not_true]
 simp [v1e, v1q, y3b, hi, hz, zeroValue, typeInfo, Question.forced, newRow, grownCap, Builtin.firstCells, hap, c1, c2]
 try (intro h; rw [if_pos h] at hzc; rw [← hzc]; simp)
theorem z9o (hC : TOk C) {H H' : AHeap} (hH : HRel C w U ι H) {t t' ty : TypeId} {ik : IntKind} {sz' by_' : Nat} {zr' : List AV} {eq' : Option (List CK)} {d s r : AV} {vd vs : Value} (hd : VRel w U ι d vd) (hs : VRel w U ι s vs)
  (x6j : C.TT t' = some { kind := .int ik, size := sz', bytes := by_', zero := zr', eqk := eq' }) (h : q9p C H t d s = some (r, H')) :
  ∃ v w' ι', (Builtin.append_ #[t, t'] ty #[vd, vs]).run C.P w = .ok v w' ∧ Leaves C w U ι H' r v w' U ι' ∧ Fresh H ι ι' ∧ ∀ c, c < w.heap.size → w'.heap[c]? = w.heap[c]? := by
 have x0x : (q2m : Int) = 140737488355328 := by decide
 unfold q9p at h
 split at h
 ·rename_i elem sz by_ zr eq kk n hti
  have hk := (hC.tt _ _ hti).kind
  have hk' := (hC.tt _ _ x6j).kind
  simp only [KOk] at hk hk'
  split at h
  ·rename_i te hte
   have hok := hC.tt _ _ hte
   obtain ⟨inf, hinf, hisz, hiby, z, hz, hzm, hzs, _⟩ := hok.info
   split at h
   ·rename_i hcond
    obtain ⟨h0, hb, hl⟩ := hcond
    cases h
    cases hd
    cases hs
    obtain ⟨N, rfl⟩ : ∃ N : Nat, n = (N : Int) := ⟨n.toNat, by omega⟩
    rw [x0x] at hb hl
    have hb' : N * inf.bytes ≤ 140737488355328 := by
     rw [hiby]
     have h2 : ((N * te.bytes : Nat) : Int) ≤ ((140737488355328 : Nat) : Int) := by rw [Int.natCast_mul]; exact hb
     exact Int.ofNat_le.mp h2
    have q3e := z3k (P := C.P) w (ty := ty) (k := kk) (N := N) hk.1 hk'.1 hinf hz (by rw [hzs, hisz]) (by omega) hb' (by omega)
    have hge := grownCap_ge w N 0 elem
    have hzr : LsRel w U ι te.zero z.cells.toList := LsRel.ofConsts hzm
    have y0h : ∀ a, a ∈ (List.replicate N te.zero).flatten → a.one = true := by
     intro a ha
     simp only [List.mem_flatten, List.mem_replicate] at ha
     obtain ⟨l, ⟨_, rfl⟩, ha⟩ := ha
     exact hok.zero_one a ha
    have hzl : (Builtin.zeroCells z.cells N).toList = (List.replicate N z.cells.toList).flatten := by
     unfold Builtin.zeroCells
     exact q9t z.cells N
    have hpc := q4x hH (t := elem) (k := te.size) (es := List.replicate N te.zero) (vs := (List.replicate N z.cells.toList).flatten) (cs := #[] ++ Builtin.zeroCells z.cells N ++ Builtin.zeroCells z.cells (grownCap w N 0 elem - N))
     (w' := w.drew.alloc (.cells (#[] ++ Builtin.zeroCells z.cells N ++ Builtin.zeroCells z.cells (grownCap w N 0 elem - N)) elem)) rfl
     (fun e he => by rw [(List.mem_replicate.mp he).2]; exact hok.zero_len) (hzr.replicate _) y0h
     (fun i v hv => by
      rw [← Array.getElem?_toList]
      simp only [Array.toList_append, Array.toList_empty, List.nil_append]
      rw [hzl, List.getElem?_append_left (List.getElem?_eq_some_iff.mp hv).1]
      exact hv)
    obtain ⟨h1, h2, h3⟩ := hpc
    refine ⟨_, _, _, q3e, ⟨h1, by simpa using h2, ?_⟩, fun b c hb => h3.fresh b c hb, fun c hc => h3.all c hc⟩
    have := z9m (w := w) (H := H) (ι := ι) (U := U) (n := N) (cap := grownCap w N 0 elem) (k := te.size) (cs := #[] ++ Builtin.zeroCells z.cells N ++ Builtin.zeroCells z.cells (grownCap w N 0 elem - N)) (t := elem) (w' := w.drew.alloc (.cells (#[] ++ Builtin.zeroCells z.cells N ++ Builtin.zeroCells z.cells (grownCap w N 0 elem - N)) elem)) rfl hge (by
     simp only [Array.size_append, size_zeroCells, hzs, List.size_toArray, List.length_nil, Nat.zero_add]
     rw [← Nat.add_mul]
     exact Nat.mul_le_mul_right _ (by omega))
    simpa using this
   ·cases h
  ·cases h
 ·cases h
theorem j1v (hC : TOk C) {H H' : AHeap} (hH : HRel C w U ι H) {t t' ty : TypeId} {ti' : TI} {d s r : AV} {vd vs : Value} (hd : VRel w U ι d vd) (hs : VRel w U ι s vs)
  (x6j : C.TT t' = some ti') (hni : ∀ k, ti'.kind ≠ .int k) (h : q2c C H t d s = some (r, H')) :
  ∃ v w' ι', (Builtin.append_ #[t, t'] ty #[vd, vs]).run C.P w = .ok v w' ∧ Leaves C w U ι H' r v w' U ι' ∧ Fresh H ι ι' ∧ ∀ c, c < w.heap.size → (∀ b, z3t d = some (some b) → (H.at_ b).isDead = false → ι b ≠ some c) → w'.heap[c]? = w.heap[c]? := by
 have x0x : q2m = 140737488355328 := by decide
 unfold q2c at h
 split at h
 ·rename_i elem sz by_ zr eq hti
  have hk := (hC.tt _ _ hti).kind
  simp only [KOk] at hk
  obtain ⟨d', hu', hdn⟩ : ∃ d', C.P.underlying t' = some d' ∧ ∀ k, d' ≠ .int k := by
   have hk' := (hC.tt _ _ x6j).kind
   unfold KOk at hk'
   cases e : ti'.kind <;> rw [e] at hk' <;> first
    | exact absurd e (hni _)
    | exact ⟨_, hk'.1, by simp⟩
    | (obtain ⟨⟨_, hu⟩, _⟩ := hk'; exact ⟨_, hu, by simp⟩)
    | (obtain ⟨_, hu, _⟩ := hk'; exact ⟨_, hu, by simp⟩)
    | (obtain ⟨⟨_, _, _, hu⟩, _⟩ := hk'; exact ⟨_, hu, by simp⟩)
  have w7b : (d' matches .int _) = false := by cases d' <;> first | rfl | exact absurd rfl (hdn _)
  split at h
  ·cases h
  ·rename_i te hte
   have hok := hC.tt _ _ hte
   obtain ⟨inf, hinf, hisz, hiby, z, hz, hzm, hzs, _⟩ := hok.info
   split at h
   ·cases h
   ·rename_i new j9d
    obtain ⟨hnk, hnl, hn1, nvs, hnr, hnf, _⟩ := q7o hH hs j9d
    have w6y : nvs.length = new.length * te.size := by rw [hnr.1, q5s hnk]
    have grow : ∀ (base : Option Addr) (sLen sCap : Nat) (olds : List Value) (oes : List (List AV)), vd = .slice base sLen sCap → sCap < sLen + new.length → (∀ e, e ∈ oes → e.length = te.size) → oes.length = sLen →
      LsRel w U ι oes.flatten olds → (∀ a, a ∈ oes.flatten → a.one = true) → (∀ w', w'.heap = w.heap → (Builtin.firstCells te.size sLen (.slice base sLen sCap)).run C.P w' = .ok olds.toArray w') →
      (sLen + new.length) * te.bytes ≤ q2m → sLen + new.length ≤ q2m → ∀ H0 : AHeap, HRel C w U ι H0 → H0.next = H.next →
       ∃ v w' ι', (Builtin.append_ #[t, t'] ty #[vd, vs]).run C.P w = .ok v w' ∧ Leaves C w U ι (H0.push (.cells elem te.size (oes ++ new))) (.slc H.next te.size 0 (sLen + new.length)) v w' U ι' ∧ Fresh H ι ι' ∧ ∀ c, c < w.heap.size → (∀ b, z3t d = some (some b) → (H.at_ b).isDead = false → ι b ≠ some c) → w'.heap[c]? = w.heap[c]? := by
     intro base sLen sCap olds oes hvd hg hok' holen hor ho1 hof hb hl H0 hH0 hnx
     subst hvd
     have q3e := z7f (P := C.P) w (ty := ty) hk.1 hu' hdn hinf hz (n := new.length) (olds := olds.toArray) (news := nvs.toArray) hnl (by rw [hisz]; exact hof) (by rw [hisz]; exact hnf) hg (by rw [hiby, ← x0x]; exact hb) (by rw [← x0x]; exact hl)
     have hge := grownCap_ge w (sLen + new.length) sCap elem
     have holl : olds.length = sLen * te.size := by rw [hor.1, q5s hok', holen]
     have hpc := q4x hH0 (t := elem) (k := te.size) (es := oes ++ new) (vs := olds ++ nvs) (cs := olds.toArray ++ nvs.toArray ++ Builtin.zeroCells z.cells (grownCap w (sLen + new.length) sCap elem - (sLen + new.length)))
      (w' := w.drew.alloc (.cells (olds.toArray ++ nvs.toArray ++ Builtin.zeroCells z.cells (grownCap w (sLen + new.length) sCap elem - (sLen + new.length))) elem)) rfl
      (fun e he => by rcases List.mem_append.mp he with h | h; exact hok' e h; exact hnk e h) (by rw [List.flatten_append]; exact hor.append hnr)
      (fun a ha => by rw [List.flatten_append] at ha; rcases List.mem_append.mp ha with h | h; exact ho1 a h; exact hn1 a h)
      (fun i v hv => by
       rw [← Array.getElem?_toList]
       simp only [Array.toList_append]
       rw [List.getElem?_append_left (by have := (List.getElem?_eq_some_iff.mp hv).1; simpa using this)]
       exact hv)
     rw [hnx] at hpc
     obtain ⟨h1, h2, h3⟩ := hpc
     refine ⟨_, _, _, q3e, ⟨h1, h2, ?_⟩, fun b c hb => ?_, fun c hc _ => h3.all c hc⟩
     rotate_left
     ·have := h3.fresh b c hb; rwa [hnx] at this
     rw [← hnx]
     refine z9m (w := w) (H := H0) (cs := olds.toArray ++ nvs.toArray ++ Builtin.zeroCells z.cells (grownCap w (sLen + new.length) sCap elem - (sLen + new.length))) (t := elem) rfl hge ?_
     simp only [Array.size_append, List.size_toArray, size_zeroCells, holl, w6y, Nat.zero_add, hzs]
     rw [← Nat.add_mul, ← Nat.add_mul]
     exact Nat.mul_le_mul_right _ (by omega)
    split at h
    ·-- nil
     split at h
     ·rename_i hne
      cases h
      cases hd
      subst hne
      have hnv : nvs = [] := List.eq_nil_of_length_eq_zero (by simpa using w6y)
      refine ⟨.slice none 0 0, w, ι, ?_, ⟨Ext.refl _ _ _, hH, .nilS⟩, Fresh.refl _ _, fun _ _ _ => rfl⟩
      unfold Builtin.append_
      simp only [List.getElem?_toArray, List.getElem?_cons_zero, List.getElem?_cons_succ, Sem.run_bind, run_underlying hk.1, run_underlying hu', Result.andThen_ok, hok.run_sizeOf, Sem.run_pure, w7b, hnl, Bool.false_eq_true, if_false, hnf w rfl]
      simp [hnf w rfl, hnv, hnl]
      have := hnf w rfl
      simp only [List.length_nil] at this
      simp [this, hnv]
     ·split at h
      ·rename_i hne hb
       cases h
       cases hd
       have v1o : 0 < new.length := by
        rcases Nat.eq_zero_or_pos new.length with h | h
        ·exact absurd (List.eq_nil_of_length_eq_zero h) hne
        ·exact h
       have := grow none 0 0 [] [] rfl (by omega) (by simp) rfl LsRel.nil (by simp) (fun w' _ => by simp [Builtin.firstCells]) (by simpa using hb.1) (by simpa using hb.2) H hH rfl
       simpa using this
      ·cases h
    ·-- emp
     split at h
     ·rename_i hne
      cases h
      subst hne
      cases hd with
      | emp a =>
       have hnv : nvs = [] := List.eq_nil_of_length_eq_zero (by simpa using w6y)
       refine ⟨.slice (some a) 0 0, w, ι, ?_, ⟨Ext.refl _ _ _, hH, .emp a⟩, Fresh.refl _ _, fun _ _ _ => rfl⟩
       have := hnf w rfl
       simp only [List.length_nil] at this
       unfold Builtin.append_
       simp only [List.getElem?_toArray, List.getElem?_cons_zero, List.getElem?_cons_succ, Sem.run_bind, run_underlying hk.1, run_underlying hu', Result.andThen_ok, hok.run_sizeOf, Sem.run_pure, w7b, hnl, Bool.false_eq_true, if_false]
       simp [this, hnv, storeCells]
     ·split at h
      ·rename_i hne hb
       cases h
       cases hd with
       | emp a =>
        have v1o : 0 < new.length := by
         rcases Nat.eq_zero_or_pos new.length with h | h
         ·exact absurd (List.eq_nil_of_length_eq_zero h) hne
         ·exact h
        have := grow (some a) 0 0 [] [] rfl (by omega) (by simp) rfl LsRel.nil (by simp) (fun w' _ => by simp [Builtin.firstCells, loadCells, loadCellsFrom]) (by simpa using hb.1) (by simpa using hb.2) H hH rfl
        simpa using this
      ·cases h
    ·-- a block
     rename_i b k n
     split at h
     ·rename_i te' k' es hbl
      split at h
      ·rename_i hcond
       obtain ⟨rfl, rfl, rfl, hnle, hb, hl⟩ := hcond
       cases hd with
       | slc _ _ _ _ c off cap m tt hι ho hncap hsh hm =>
        have x6n : off = 0 := by have := ho (.inr rfl); simpa using this
        subst x6n
        have hbr := hH.blk b c hι
        rw [hbl] at hbr
        obtain ⟨cs, hcs, hkk, hr⟩ := hbr
        have hmsz : te' = tt ∧ cs.size = m := by simpa [World.shape?, hcs] using hsh
        obtain ⟨rfl, rfl⟩ := hmsz
        obtain ⟨hlr, hlsz, hl1⟩ := z4w hkk hr
        by_cases j4p : n + new.length ≤ cap
        ·-- there is room
         have y8e : n * te.size + nvs.length ≤ cs.size := by
          rw [w6y, ← Nat.add_mul]
          have := Nat.mul_le_mul_right te.size j4p
          omega
         have hst := run_storeCells_at C.P c (n * te.size) te' nvs 0 cs w hcs (by simpa using y8e) (z1t hnr hn1)
         simp only [Nat.add_zero] at hst
         have q3e : (Builtin.append_ #[t, t'] ty #[.slice (some ⟨c, 0, none⟩) n cap, vs]).run C.P w = .ok (.slice (some ⟨c, 0, none⟩) (n + new.length) cap) (w.setRow c (cs.toList.take (n * te.size) ++ nvs ++ cs.toList.drop (n * te.size + nvs.length)).toArray) := by
          unfold Builtin.append_
          simp only [List.getElem?_toArray, List.getElem?_cons_zero, List.getElem?_cons_succ, Sem.run_bind, run_underlying hk.1, run_underlying hu', Result.andThen_ok, hok.run_sizeOf, Sem.run_pure, w7b, hnl, Bool.false_eq_true, if_false, j4p, if_true]
          simp [hnf w rfl, Addr.add_eq, hst]
         split at h
         ·rename_i hne
          cases h
          subst hne
          have hnv : nvs = [] := List.eq_nil_of_length_eq_zero (by simpa using w6y)
          subst hnv
          refine ⟨_, _, ι, q3e, ?_⟩
          have v1j : w.setRow c (cs.toList.take (n * te.size) ++ [] ++ cs.toList.drop (n * te.size + ([] : List Value).length)).toArray = w := by
           simp only [List.append_nil, List.length_nil, Nat.add_zero, List.take_append_drop]
           exact setRow_self w c cs te' _ hcs
          rw [v1j]
          exact ⟨⟨Ext.refl _ _ _, hH, .slc _ _ _ _ c 0 cap cs.size te' hι (fun _ => by simp) hncap hsh (by omega)⟩, Fresh.refl _ _, fun _ _ _ => rfl⟩
         ·rename_i hne
          cases h
          have w7n : (cs.toList.take (n * te.size) ++ nvs ++ cs.toList.drop (n * te.size + nvs.length)).toArray.size = cs.size := by
           simp only [List.size_toArray, List.length_append, List.length_take, List.length_drop, Array.length_toList]; omega
          obtain ⟨h1, h2⟩ := z4x hH hι hcs w7n (by rw [hbl]; rfl) (blk := .dead) (fun _ => trivial)
          generalize hw1 : w.setRow c (cs.toList.take (n * te.size) ++ nvs ++ cs.toList.drop (n * te.size + nvs.length)).toArray = w1 at q3e h1 h2
          have hcs1 : w1.heap[c]? = some (.cells (cs.toList.take (n * te.size) ++ nvs ++ cs.toList.drop (n * te.size + nvs.length)).toArray te' (0, 0)) := by rw [← hw1]; exact setRow_heap w c cs _ te' _ hcs
          have y7s : ∀ b' c', ι b' = some c' → upd ι H.next (some c) b' = some c' := fun b' c' hb' => by rw [q2d _ _ (Nat.ne_of_lt (hH.dom b' c' hb').1)]; exact hb'
          have j0y : ∀ b' c', upd ι H.next (some c) b' = some c' → (b' = H.next ∧ c' = c) ∨ ι b' = some c' := fun b' c' hb' => by
           by_cases e : b' = H.next
           ·subst e; rw [upd_same] at hb'; cases hb'; exact .inl ⟨rfl, rfl⟩
           ·rw [q2d _ _ e] at hb'; exact .inr hb'
          have hmv : ∀ {a : AV} {v : Value}, VRel w U ι a v → VRel w1 U (upd ι H.next (some c)) a v := fun hv => (h1.mono hH hv).mono (fun _ h => h) (fun _ _ => rfl) (fun _ _ h => h) _ y7s
          have q3y : Ext w U ι w1 U (upd ι H.next (some c)) :=
           {map := y7s
            rng := fun b' c' hb' => by
             rcases j0y b' c' hb' with ⟨_, rfl⟩ | hb'
             ·exact .inl ⟨b, hι⟩
             ·exact .inl ⟨b', hb'⟩
            imm := h1.imm, new := h1.new, size := h1.size, kept := h1.kept, shape := h1.shape, env := h1.env }
          have hbn : b ≠ H.next := Nat.ne_of_lt (hH.dom b c hι).1
          refine ⟨_, w1, upd ι H.next (some c), q3e, ⟨q3y, ⟨fun b' c' hb' => ?_, fun b1 b2 c' hb1 hb2 hd1 hd2 => ?_, fun c' hc' => ?_, fun b' c' hb' => ?_⟩, ?_⟩, fun b' c' hb' => (j0y b' c' hb').symm.imp id (fun h => Nat.le_of_eq h.1.symm), fun c' _ hc' => by rw [← hw1]; exact setRow_other w c c' _ (fun e => hc' b rfl (by rw [hbl]; rfl) (by rw [e]; exact hι))⟩
          ·rcases j0y b' c' hb' with ⟨rfl, rfl⟩ | hb'
           ·exact ⟨by simp [AHeap.push, AHeap.set], (h2.dom b c' hι).2⟩
           ·have := h2.dom b' c' hb'; simp only [AHeap.set] at this; exact ⟨by simp only [AHeap.push, AHeap.set]; omega, this.2⟩
          ·have other : ∀ b', ι b' = some c → (((H.set b .dead).push (.cells te' te.size (es.take n ++ new))).at_ b').isDead = false → b' = H.next → True := fun _ _ _ _ => trivial
           have notlive : ∀ b', b' ≠ H.next → ι b' = some c → (((H.set b .dead).push (.cells te' te.size (es.take n ++ new))).at_ b').isDead = false → False := by
            intro b' v1c hb' hdd
            simp only [AHeap.push, AHeap.set, q2a v1c] at hdd
            by_cases e : b' = b
            ·subst e; simp [Blk.isDead] at hdd
            ·rw [q2a e] at hdd
             exact e (hH.inj b' b c hb' hι hdd (by rw [hbl]; rfl))
           rcases j0y b1 c' hb1 with ⟨rfl, rfl⟩ | hb1' <;> rcases j0y b2 _ hb2 with ⟨rfl, e2⟩ | hb2'
           ·rfl
           ·exact (notlive b2 (Nat.ne_of_lt (hH.dom b2 _ hb2').1) hb2' hd2).elim
           ·subst e2; exact (notlive b1 (Nat.ne_of_lt (hH.dom b1 _ hb1').1) hb1' hd1).elim
           ·have n1 := Nat.ne_of_lt (hH.dom b1 _ hb1').1
            have n2 := Nat.ne_of_lt (hH.dom b2 _ hb2').1
            simp only [AHeap.push, AHeap.set, q2a n1, q2a n2] at hd1 hd2
            by_cases e1 : b1 = b
            ·subst e1; simp [Blk.isDead] at hd1
            ·by_cases e2 : b2 = b
             ·subst e2; simp [Blk.isDead] at hd2
             ·rw [q2a e1] at hd1; rw [q2a e2] at hd2
              exact hH.inj b1 b2 c' hb1' hb2' hd1 hd2
          ·have := h2.imm c' hc'
           refine ⟨this.1, fun b' hb' => ?_⟩
           rcases j0y b' c' hb' with ⟨_, rfl⟩ | hb'
           ·exact this.2 b hι
           ·exact this.2 b' hb'
          ·rcases j0y b' c' hb' with ⟨rfl, rfl⟩ | hb'
           ·simp only [AHeap.push, AHeap.set, upd_same]
            have htk : ((es.take n).flatten) = es.flatten.take (n * te.size) := q4k n hkk
            have hns : n * te.size ≤ es.length * te.size := Nat.mul_le_mul_right _ hnle
            refine z1s (vs := cs.toList.take (n * te.size) ++ nvs) hcs1 (fun e he => ?_) ?_ (fun a ha => ?_) (fun i v hv => ?_)
            ·rcases List.mem_append.mp he with h | h
             ·exact hkk e (List.mem_of_mem_take h)
             ·exact hnk e h
            ·rw [List.flatten_append, htk]
             have hl2 := (hlr.take (n * te.size)).append hnr
             rw [List.take_take, Nat.min_eq_left hns] at hl2
             exact hl2.mono hmv
            ·rw [List.flatten_append, htk] at ha
             rcases List.mem_append.mp ha with h | h
             ·exact hl1 a (List.mem_of_mem_take h)
             ·exact hn1 a h
            ·rw [List.getElem?_toArray, List.getElem?_append_left (List.getElem?_eq_some_iff.mp hv).1]
             exact hv
           ·have v1c := Nat.ne_of_lt (hH.dom b' c' hb').1
            simp only [AHeap.push]
            rw [q2d _ _ (by simpa [AHeap.set] using v1c)]
            exact (h2.blk b' c' hb').mono (fun hv => hv.mono (fun _ h => h) (fun _ _ => rfl) (fun _ _ h => h) _ y7s) y7s rfl
          ·refine .slc _ _ _ _ c 0 cap cs.size te' (by simp) (fun _ => by simp) j4p ?_ (by omega)
           rw [h1.shape c (hH.dom b c hι).2]; exact hsh
        ·-- it grows
         split at h
         ·rename_i hne; subst hne; simp at j4p; omega
         ·rename_i hne
          cases h
          have hns : n * te.size ≤ es.length * te.size := Nat.mul_le_mul_right _ hnle
          have v1r : LsRel w U ι (es.take n).flatten (cs.toList.take (n * te.size)) := by
           rw [q4k n hkk]
           have := hlr.take (n * te.size)
           rwa [List.take_take, Nat.min_eq_left hns] at this
          have x6l : HRel C w U ι (H.set b .dead) := by
           refine ⟨fun b' c' hb' => by simpa [AHeap.set] using hH.dom b' c' hb', fun b1 b2 c' hb1 hb2 hd1 hd2 => ?_, hH.imm, fun b' c' hb' => ?_⟩
           ·have live : ∀ b', ((H.set b .dead).at_ b').isDead = false → (H.at_ b').isDead = false := by
             intro b' h'
             by_cases e : b' = b
             ·subst e; simp [AHeap.set, Blk.isDead] at h'
             ·simp only [AHeap.set, q2a e] at h'; exact h'
            exact hH.inj b1 b2 c' hb1 hb2 (live b1 hd1) (live b2 hd2)
           ·by_cases e : b' = b
            ·subst e; simp only [AHeap.set, upd_same]; trivial
            ·simp only [AHeap.set]; rw [q2d _ _ e]; exact hH.blk b' c' hb'
          have := grow (some ⟨c, 0, none⟩) n cap (cs.toList.take (n * te.size)) (es.take n) rfl (by omega) (fun e he => hkk e (List.mem_of_mem_take he)) (by simp; omega) v1r
           (fun a ha => hl1 a (by rw [q4k n hkk] at ha; exact List.mem_of_mem_take ha))
           (fun w' hw' => by
            refine run_firstCells_some (P := C.P) w' te.size n ⟨c, 0, none⟩ n cap _ (by rw [List.length_take]; simp; omega) (fun j u hu => ?_)
            rw [Addr.add_eq, q4j (w := w) (by rw [hw'])]
            rw [List.getElem?_take] at hu
            split at hu
            ·simp only [World.cell?, hcs, Option.isSome_none, Nat.zero_add]
             rw [← Array.getElem?_toList]; exact hu
            ·cases hu)
           hb hl (H.set b .dead) x6l rfl
          exact this
      ·cases h
     ·cases h
    ·cases h
 ·cases h
end Go.BX
