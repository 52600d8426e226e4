/- An abstract evaluator for the model's programs: definitions only (heap of objects with abstract numbers, operations, code, calls). No condition. -/
import Derived.Below
import Derived.Orders
namespace Go.Abs

/-! ## The heap: a trie over natural numbers -/

inductive Tr (α : Type) where
  | leaf
  | node (o : Option α) (l r : Tr α)

namespace Tr
variable {α : Type}

def get : Tr α → Nat → Option α
  | .leaf, _ => none
  | .node o l r, k => bif Nat.beq k 0 then o else bif Nat.beq (k % 2) 1 then l.get (k / 2) else r.get (k / 2 - 1)

def setF : Nat → Tr α → Nat → α → Tr α
  | 0, t, _, _ => t
  | f + 1, t, k, v =>
    match t with
    | .leaf => bif Nat.beq k 0 then .node (some v) .leaf .leaf
      else bif Nat.beq (k % 2) 1 then .node none (setF f .leaf (k / 2) v) .leaf else .node none .leaf (setF f .leaf (k / 2 - 1) v)
    | .node o l r => bif Nat.beq k 0 then .node (some v) l r
      else bif Nat.beq (k % 2) 1 then .node o (setF f l (k / 2) v) r else .node o l (setF f r (k / 2 - 1) v)

def set (t : Tr α) (k : Nat) (v : α) : Tr α := setF (k + 1) t k v

end Tr

/-! ## Objects and states -/

inductive AObj where
  /-- A row of cells; room: how many cells an element takes if an unknown number of elements stands behind these (0: none stand there); ro: may not be written. -/
  | cells (c : List Value) (room : Nat) (ro : Bool)
  | map (es : List MapEntry) (clock : Nat)
  | loop (l : Loop)
  | deferred
  | dead

structure AS where
  heap : Tr AObj
  next : Nat

def M (α : Type) : Type := AS → Option (α × AS)

namespace M
variable {α β : Type}
def pure (a : α) : M α := fun s => some (a, s)
def bind (m : M α) (f : α → M β) : M β := fun s => match m s with
  | none => none
  | some (a, s') => f a s'
def fail : M α := fun _ => none
def ofOption : Option α → M α
  | none => fail
  | some a => pure a
def get (id : Nat) : M AObj := fun s => match s.heap.get id with
  | none => none
  | some o => some (o, s)
def set (id : Nat) (o : AObj) : M Unit := fun s => match s.heap.get id with
  | none => none
  | some _ => some ((), { s with heap := s.heap.set id o })
def alloc (id : Nat) (o : AObj) : M Unit := fun s => match s.heap.get id with
  | none => bif Nat.blt id s.next then some ((), { s with heap := s.heap.set id o }) else none
  | some _ => none
def reserve (n : Nat) : M Nat := fun s => some (s.next, { s with next := s.next + n })
def guard (b : Bool) : M Unit := bif b then pure () else fail
end M

instance : Monad M := { pure := M.pure, bind := M.bind }

/-! ## Values -/

mutual
/-- A value without an address in it. -/
def noids : Value → Bool
  | .bool _ | .int _ _ | .float _ _ | .complex _ _ _ | .string _ | .nilFunc | .nilIface => true
  | .pointer a => a.isNone
  | .slice a _ _ => a.isNone
  | .map r => r.isNone
  | .chan r => r.isNone
  | .func fn xs ys => (match fn with | .yield _ => false | _ => true) && noidsA xs && noidsA ys
  | .iface _ v => noids v
  | .agg cs => noidsA cs
  | .tuple vs => noidsA vs
def noidsA : Array Value → Bool
  | ⟨l⟩ => noidsL l
def noidsL : List Value → Bool
  | [] => true
  | v :: vs => noids v && noidsL vs
end

mutual
def veq : Value → Value → Bool
  | .bool a, .bool b => a == b
  | .int j a, .int k b => decide (j = k) && decide (a = b)
  | .float j a, .float k b => decide (j = k) && decide (a = b)
  | .complex j a b, .complex k c d => decide (j = k) && decide (a = c) && decide (b = d)
  | .chan a, .chan b => decide (a = b)
  | .string a, .string b => decide (a = b)
  | .pointer a, .pointer b => decide (a = b)
  | .slice a l c, .slice b m d => decide (a = b) && decide (l = m) && decide (c = d)
  | .map a, .map b => decide (a = b)
  | .nilFunc, .nilFunc => true
  | .nilIface, .nilIface => true
  | .func f xs ys, .func g us vs => decide (f = g) && veqA xs us && veqA ys vs
  | .iface t v, .iface u w => decide (t = u) && veq v w
  | .agg a, .agg b => veqA a b
  | .tuple a, .tuple b => veqA a b
  | _, _ => false
def veqA : Array Value → Array Value → Bool
  | ⟨a⟩, ⟨b⟩ => veqL a b
def veqL : List Value → List Value → Bool
  | [], [] => true
  | a :: as, b :: bs => veq a b && veqL as bs
  | _, _ => false
end

/-- What a computation that touches no memory and draws nothing comes to. -/
def pureSem {α : Type} (P : Program) : Sem α → Option α
  | .pure a => some a
  | .program k => pureSem P (k P)
  | _ => none

/-! ## Operations -/

def okOperand : Operand → Bool
  | .tmp _ => true
  | .const v => noids v
  | .global _ => false
  | .func _ => true

def okOps (o : Op) : Bool := o.operands.toList.all okOperand

def plainVal (v : Value) : M Value := bif noids v then M.pure v else M.fail

def noidsO : Option Value → Bool
  | none => true
  | some v => noids v

/-- One of the model's own computations on values without addresses. -/
def viaModel (P : Program) (s : Sem Value) : M Value :=
  match pureSem P s with
  | some v => plainVal v
  | none => M.fail

def sizeOf' (P : Program) (t : TypeId) : Option Nat := (P.info? t).map (·.size)

def isAgg' (P : Program) (t : TypeId) : Option Bool :=
  match P.underlying t with
  | some (.struct _) | some (.array _ _) => some true
  | some _ => some false
  | none => none

def part' (P : Program) (t : TypeId) (cs : Array Value) (off : Nat) : Option Value :=
  match isAgg' P t with
  | none => none
  | some true => (sizeOf' P t).map fun n => .agg (cs.extract off (off + n))
  | some false => cs[off]?

/-- A variable's value, out of the cells of its block. -/
def loadFrom (P : Program) (t : TypeId) (c : List Value) (off : Nat) : Option Value :=
  match isAgg' P t with
  | none => none
  | some true => match sizeOf' P t with
    | none => none
    | some n => bif Nat.ble (off + n) c.length then some (.agg ((c.drop off).take n).toArray) else none
  | some false => c[off]?

def putCells : List Value → Nat → List Value → List Value
  | c, _, [] => c
  | c, i, v :: vs => putCells (c.set i v) (i + 1) vs

/-- No cell is itself a row of cells. -/
def flat : Value → Bool
  | .agg _ | .tuple _ => false
  | _ => true

def aLoad (P : Program) (t : TypeId) : Value → M Value
  | .pointer (some a) => M.bind (M.get a.block) fun
    | .cells c _ _ => M.ofOption (loadFrom P t c a.off)
    | _ => M.fail
  | _ => M.fail

def aStore (P : Program) (t : TypeId) (x : Value) : Value → M Value
  | .pointer (some a) => M.bind (M.get a.block) fun
    | .cells c room false =>
      bif decide (sizeOf' P t = some x.cells.size) && Nat.ble (a.off + x.cells.size) c.length && x.cells.toList.all flat then
        M.bind (M.set a.block (.cells (putCells c a.off x.cells.toList) room false)) fun _ => M.pure undef
      else M.fail
    | _ => M.fail
  | _ => M.fail

def ptrTo (id : Nat) : Value := .pointer (some ⟨id, 0, none⟩)

def newCells (id : Nat) (c : List Value) : M Unit := M.alloc id (.cells c 0 false)

def zero' (P : Program) (t : TypeId) : Option Value := (P.info? t).bind fun i => i.zero.bind fun z => bif noids z then some z else none

/-- Equality against nil, at values with addresses. -/
def nilCmp (P : Program) (t : TypeId) (x y : Value) : Option Bool :=
  match P.underlying t, x, y with
  | some (.pointer _), .pointer a, .pointer b => bif a.isNone || b.isNone then some (a.isNone && b.isNone) else none
  | some (.slice _), .slice a _ _, .slice b _ _ => bif a.isNone || b.isNone then some (a.isNone && b.isNone) else none
  | some (.map _ _), .map a, .map b => bif a.isNone || b.isNone then some (a.isNone && b.isNone) else none
  | some (.func _ _ _), .func _ _ _, .nilFunc | some (.func _ _ _), .nilFunc, .func _ _ _ => some false
  | some (.interface _), .iface _ _, .nilIface | some (.interface _), .nilIface, .iface _ _ => some false
  | _, _, _ => none

def aBinOp (P : Program) (op : BinOp) (t : TypeId) (x y : Operand) (a b : Value) : M Value :=
  bif noids a && noids b then viaModel P (do eqGuard op t x y a b; binOp op t a b)
  else match op with
    | .eql => M.ofOption ((nilCmp P t a b).map .bool)
    | .neq => M.ofOption ((nilCmp P t a b).map fun r => .bool (!r))
    | _ => M.fail

def elemSize (P : Program) (t : TypeId) : Option (TypeId × Nat) :=
  match P.underlying t with
  | some (.slice e) => (sizeOf' P e).map fun n => (e, n)
  | _ => none

def bound' (v : Value) (y : Nat) : Option Nat :=
  match v with
  | .int _ i => bif decide (0 ≤ i) && decide (i ≤ (y : Int)) then some i.toNat else none
  | _ => none

def bounds' (len cap : Nat) (lo hi mx : Option Value) : Option (Nat × Nat × Nat) :=
  match (match mx with | some v => bound' v cap | none => some cap) with
  | none => none
  | some m =>
    match (match hi, mx with | some v, _ => bound' v m | none, none => (bif Nat.ble len m then some len else none) | none, some _ => none) with
    | none => none
    | some h =>
      match (match lo with | some v => bound' v h | none => some 0) with
      | none => none
      | some l => some (l, h, m)

def addOff (a : Addr) (n : Nat) : Addr := ⟨a.block, a.off + n, none⟩

/-- x[lo:hi:mx] at a slice. Where nothing is left of the capacity the answer is a slice of a dead object of its own, if the capacity is not known. -/
def aSlice (P : Program) (id : Nat) (t : TypeId) (x : Value) (lo hi mx : Option Value) : M Value :=
  match x with
  | .slice (some a) len cap =>
    match elemSize P t, bounds' len cap lo hi mx with
    | some (_, n), some (l, h, m) =>
      bif mx.isNone && !Nat.beq m l then M.pure (.slice (some (addOff a (l * n))) (h - l) (m - l))
      else M.bind (M.get a.block) fun
        | .cells _ 0 _ => M.pure (.slice (some (addOff a (bif Nat.beq m l then 0 else l * n))) (h - l) (m - l))
        | .cells _ _ _ => bif mx.isNone then M.bind (M.alloc id .dead) fun _ => M.pure (.slice (some ⟨id, 0, none⟩) 0 0) else M.fail
        | _ => M.fail
    | _, _ => M.fail
  | _ => M.fail

def aIndexAddr (P : Program) (t : TypeId) (x i : Value) : M Value :=
  match P.underlying t, x, i with
  | some (.slice e), .slice (some a) len _, .int _ k =>
    match sizeOf' P e with
    | some n => bif decide (0 ≤ k) && decide (k < (len : Int)) then M.pure (.pointer (some (addOff a (k.toNat * n)))) else M.fail
    | none => M.fail
  | some (.array len e), .pointer (some a), .int _ k =>
    match sizeOf' P e with
    | some n => bif decide (0 ≤ k) && decide (k < (len : Int)) then M.pure (.pointer (some (addOff a (k.toNat * n)))) else M.fail
    | none => M.fail
  | _, _, _ => M.fail

def aFieldAddr (P : Program) (s : TypeId) (x : Value) (f : Nat) : M Value :=
  match P.underlying s, x with
  | some (.struct fs), .pointer (some a) =>
    match fs[f]? with
    | some fd => match sizeOf' P fd.type with
      | some (_ + 1) => M.pure (.pointer (some (addOff a fd.offset)))
      | _ => M.fail
    | none => M.fail
  | _, _ => M.fail

def aField (P : Program) (t : TypeId) (x : Value) (f : Nat) : M Value :=
  match P.underlying t, x with
  | some (.struct fs), .agg cs =>
    match fs[f]? with
    | some fd => M.ofOption (part' P fd.type cs fd.offset)
    | none => M.fail
  | _, _ => M.fail

def aIndex (P : Program) (t : TypeId) (x i : Value) : M Value :=
  bif noids i then
  bif noids x then viaModel P (Instr.index t x i)
  else match P.underlying t, x, i with
    | some (.array len e), .agg cs, .int _ k =>
      match sizeOf' P e with
      | some n => bif decide (0 ≤ k) && decide (k < (len : Int)) then M.ofOption (part' P e cs (k.toNat * n)) else M.fail
      | none => M.fail
    | _, _, _ => M.fail
  else M.fail

def aBuild (P : Program) (t : TypeId) (parts : Array (Nat × Value)) : M Value :=
  match zero' P t, P.underlying t with
  | some z, some (.struct fs) =>
    match fs.toList.mapM (fun f => (sizeOf' P f.type).map fun n => (f.offset, n)) with
    | some places => M.ofOption ((Instr.fill (places.toArray[·]?) z.cells parts.toList).map .agg)
    | none => M.fail
  | some z, some (.array _ e) =>
    match sizeOf' P e with
    | some n => M.ofOption ((Instr.fill (fun i => some (i * n, n)) z.cells parts.toList).map .agg)
    | none => M.fail
  | _, _ => M.fail

def zeros (z : Array Value) (n : Nat) : Array Value := (Array.range n).map (z[· % z.size]!)

def aBuildSlice (P : Program) (id : Nat) (t : TypeId) (len : Nat) (parts : Array (Nat × Value)) : M Value :=
  match elemSize P t with
  | some (e, n) =>
    match zero' P e with
    | some z =>
      bif Nat.ble (len * n) (2 ^ 24) then
        match Instr.fill (fun i => some (i * n, n)) (zeros (bif Nat.beq (len * n) 0 then #[] else z.cells) (len * n)) parts.toList with
        | some c => M.bind (newCells id c.toList) fun _ => M.pure (.slice (some ⟨id, 0, none⟩) len len)
        | none => M.fail
      else M.fail
    | none => M.fail
  | none => M.fail

def aMakeSlice (P : Program) (id : Nat) (t : TypeId) (len cap : Value) : M Value :=
  match elemSize P t, len, cap with
  | some (e, n), .int _ l, .int _ c =>
    match zero' P e, P.info? e with
    | some z, some i =>
      bif decide (0 ≤ l) && decide (l ≤ c) && decide (c ≤ 2 ^ 40) && decide ((i.bytes : Int) * c ≤ 2 ^ 47) && Nat.beq i.size n && Nat.ble (c.toNat * n) 16777216 then
        M.bind (newCells id (zeros (bif Nat.beq (c.toNat * n) 0 then #[] else z.cells) (c.toNat * n)).toList) fun _ => M.pure (.slice (some ⟨id, 0, none⟩) l.toNat c.toNat)
      else M.fail
    | _, _ => M.fail
  | _, _, _ => M.fail

/-- Cells of a slice or the bytes of a string. -/
def srcCells (n : Nat) (k : Nat) : Value → M (List Value)
  | .slice none _ _ => M.pure []
  | .slice (some a) _ _ => bif Nat.beq k 0 then M.pure [] else M.bind (M.get a.block) fun
    | .cells c _ _ => bif Nat.ble (a.off + k * n) c.length then M.pure ((c.drop a.off).take (k * n)) else M.fail
    | _ => M.fail
  | .string s => bif Nat.beq n 1 then M.pure ((s.data.toList.take k).map fun b => .int .u8 b.toNat) else M.fail
  | .chan (some _) => bif Nat.beq k 0 then M.pure [] else M.fail
  | _ => M.fail

def lenOf' : Value → Option Nat
  | .slice _ n _ => some n
  | .string s => some s.size
  | .chan (some _) => some 0
  | _ => none

def notAppendable (P : Program) (xt : TypeId) : Bool :=
  match P.underlying xt with
  | some (.slice _) => false
  | some .string => false
  | _ => true

/-- append(s, x..): within what is known of the capacity in place; else a new object with room behind it, and the old one is not used any more. -/
def aAppend (P : Program) (id : Nat) (t xt : TypeId) (s x : Value) : M Value :=
  match elemSize P t, s, lenOf' x with
  | some (e, n), .slice base len cap, some k =>
    bif notAppendable P xt then M.fail else
    bif Nat.ble (len + k) cap then
      match base with
      | none => bif Nat.beq k 0 then M.pure (.slice none len cap) else M.fail
      | some a => M.bind (srcCells n k x) fun new => M.bind (M.get a.block) fun
        | .cells c room false =>
          bif Nat.ble (a.off + len * n + new.length) c.length && new.all flat then
            M.bind (M.set a.block (.cells (putCells c (a.off + len * n) new) room false)) fun _ => M.pure (.slice (some a) (len + k) cap)
          else M.fail
        | _ => bif Nat.beq k 0 then M.pure (.slice (some a) len cap) else M.fail
    else
      match zero' P e, P.info? e with
      | some z, some i =>
        bif Nat.beq z.cells.size n && Nat.ble ((2 * (len + k) + 512) * i.bytes) (2 ^ 48) && Nat.ble 1 i.bytes && Nat.ble 1 n then
          M.bind (srcCells n len s) fun old => M.bind (srcCells n k x) fun new =>
          bif new.all flat && Nat.beq old.length (len * n) && Nat.beq new.length (k * n) then
          M.bind (match base with
            | none => M.pure ()
            | some a => M.bind (M.get a.block) fun
              | .cells _ 0 _ => M.pure ()
              | .cells c room false => bif Nat.beq room n && Nat.beq (a.off + cap * n) c.length then M.set a.block .dead else M.fail
              | _ => M.fail) fun _ =>
          M.bind (M.alloc id (.cells (old ++ new) n false)) fun _ =>
          M.pure (.slice (some ⟨id, 0, none⟩) (len + k) (len + k))
          else M.fail
        else M.fail
      | _, _ => M.fail
  | _, _, _ => M.fail

def aCopy (P : Program) (t : TypeId) (dst src : Value) : M Value :=
  match elemSize P t, dst, lenOf' src with
  | some (_, n), .slice base dl _, some sl =>
    let k := Nat.min sl dl
    M.bind (srcCells n k src) fun new =>
    match base with
    | none => M.pure (goInt k)
    | some a => M.bind (M.get a.block) fun
      | .cells c room false =>
        bif Nat.ble (a.off + new.length) c.length && new.all flat then
          M.bind (M.set a.block (.cells (putCells c a.off new) room false)) fun _ => M.pure (goInt k)
        else M.fail
      | _ => M.fail
  | _, _, _ => M.fail

/-- Keys that are integers, strings or bools, or rows of such: compared by their values alone. -/
def findEntry (k : Value) : List MapEntry → Nat → Option (Nat × Value)
  | [], _ => none
  | e :: es, i => bif veq k e.key then some (i, e.val) else findEntry k es (i + 1)

def keyKind (P : Program) (t : TypeId) (k : Value) : Bool :=
  match P.underlying t, k with
  | some (.int j), .int j' _ => decide (j = j')
  | some .string, .string _ => true
  | some .bool, .bool _ => true
  | some (.array len e), .agg cs =>
    (match P.underlying e, P.info? e with | some (.int j), some i => Nat.beq i.size 1 && cs.toList.all (fun | .int j' _ => decide (j = j') | _ => false) | _, _ => false) && Nat.beq cs.size len && Nat.beq len 2
  | _, _ => false

def aLookup (P : Program) (t : TypeId) (m k : Value) (ok : Bool) : M Value :=
  match P.underlying t with
  | some (.map kt et) =>
    bif keyKind P kt k then
      match zero' P et with
      | some z =>
        M.bind (match m with
          | .map none => M.pure []
          | .map (some r) => M.bind (M.get r) fun
            | .map es _ => bif es.all (fun e => keyKind P kt e.key) then M.pure es else M.fail
            | _ => M.fail
          | _ => M.fail) fun es =>
        let (v, b) := match findEntry k es 0 with
          | some (_, v) => (v, true)
          | none => (z, false)
        M.pure (bif ok then .tuple #[v, .bool b] else v)
      | none => M.fail
    else M.fail
  | _ => M.fail

def aMapUpdate (P : Program) (t : TypeId) (m k x : Value) : M Value :=
  match P.underlying t, m with
  | some (.map kt _), .map (some r) =>
    bif keyKind P kt k then
      M.bind (M.get r) fun
        | .map es clock =>
          bif es.all (fun e => keyKind P kt e.key) then
            match findEntry k es 0 with
            | some (i, _) => M.bind (M.set r (.map (es.modify i fun e => { e with key := k, val := x }) clock)) fun _ => M.pure undef
            | none => M.bind (M.set r (.map (es ++ [{ key := k, val := x, born := clock }]) (clock + 1))) fun _ => M.pure undef
          else M.fail
        | _ => M.fail
    else M.fail
  | _, _ => M.fail

def aLen (P : Program) (t : TypeId) (x : Value) : M Value :=
  match P.underlying t, x with
  | some .string, .string s => M.pure (goInt s.size)
  | some (.array n _), _ => M.pure (goInt n)
  | some (.slice _), .slice _ n _ => M.pure (goInt n)
  | some (.slice _), .chan (some _) => M.pure (goInt 0)
  | some (.map _ _), .map none => M.pure (goInt 0)
  | some (.map _ _), .map (some r) => M.bind (M.get r) fun
    | .map es _ => M.pure (goInt es.length)
    | _ => M.fail
  | _, _ => M.fail

def aCap (P : Program) (t : TypeId) (x : Value) : M Value :=
  match P.underlying t, x with
  | some (.array n _), _ => M.pure (goInt n)
  | some (.slice _), .slice none _ n => M.pure (goInt n)
  | some (.slice _), .slice (some a) _ n => M.bind (M.get a.block) fun
    | .cells _ 0 _ => M.pure (goInt n)
    | _ => M.fail
  | _, _ => M.fail

def aTypeAssert (P : Program) (x : Value) (asserted : TypeId) (ok : Bool) : M Value :=
  let holds (v : Value) : M Value := M.pure (bif ok then .tuple #[v, .bool true] else v)
  let fails : M Value := bif ok then (match zero' P asserted with | some z => M.pure (.tuple #[z, .bool false]) | none => M.fail) else M.fail
  match P.underlying asserted, x with
  | some (.interface _), .nilIface => fails
  | some (.interface want), .iface t _ =>
    match P.info? t with
    | some i => (match Instr.missingMethod want i.methods with | none => holds x | some _ => fails)
    | none => M.fail
  | some _, .nilIface => fails
  | some _, .iface t v => bif decide (t = asserted) then holds v else fails
  | _, _ => M.fail

def aBytes (P : Program) (src dst : TypeId) (x : Value) (id : Nat) : M Value :=
  match P.underlying src, P.underlying dst, x with
  | some .string, some (.slice e), .string s =>
    match P.underlying e with
    | some (.int .u8) =>
      M.bind (M.alloc id (.cells (s.data.toList.map fun b => .int .u8 b.toNat) 1 false)) fun _ => M.pure (.slice (some ⟨id, 0, none⟩) s.size s.size)
    | _ => M.fail
  | some (.slice e), some .string, .slice (some a) len _ =>
    match P.underlying e with
    | some (.int .u8) => M.bind (M.get a.block) fun
      | .cells c _ _ =>
        bif Nat.ble (a.off + len) c.length then
          match ((c.drop a.off).take len).mapM (fun | .int .u8 n => some (UInt8.ofNat n.toNat) | _ => none) with
          | some bs => M.pure (.string ⟨bs.toArray⟩)
          | none => M.fail
        else M.fail
      | _ => M.fail
    | _ => M.fail
  | _, _, _ => M.fail

def aBuiltin (P : Program) (id : Nat) (b : Builtin) (argTypes : Array TypeId) (args : Array Value) : M Value :=
  match b, argTypes.toList, args.toList with
  | .len, [t], [x] => aLen P t x
  | .cap, [t], [x] => aCap P t x
  | .append, [t, xt], [s, x] => aAppend P id t xt s x
  | .copy, [t, _], [d, s] => aCopy P t d s
  | .min, _, _ => bif noidsA args then viaModel P (Builtin.min_ argTypes 0 args) else M.fail
  | .max, _, _ => bif noidsA args then viaModel P (Builtin.max_ argTypes 0 args) else M.fail
  | _, _, _ => M.fail

/-- What is called. -/
inductive Tgt where
  | func (f : FuncId)
  | yield (l : Nat)

/-- A method of a dynamic type that is the type's own (no embedding). -/
def aMethod (P : Program) (t : TypeId) (v : Value) (name : String) : Option (FuncId × Value) :=
  match P.info? t with
  | none => none
  | some i => match i.methods.find? (·.name == name) with
    | none => none
    | some m =>
      bif m.path.isEmpty then
        match m.func with
        | some (f, true) => (match P.underlying t with | some (.pointer _) => some (f, v) | _ => none)
        | some (f, false) => (match P.underlying t with | some (.pointer _) => none | some _ => some (f, v) | none => none)
        | none => none
      else none

def bodied (P : Program) (f : FuncId) : Bool :=
  match P.funcs[f]? with
  | some fn => fn.body.isSome && !(fn.name == "runtime.NumGoroutine")
  | none => false

def aTarget (P : Program) (fn : Fn) (args captured : Array Value) : Option (Tgt × Array Value) :=
  match fn with
  | .func f => bif bodied P f then some (.func f, args ++ captured) else none
  | .yield l => some (.yield l, args)
  | .method name => match (args[0]? : Option Value) with
    | some (Value.iface t v) => match aMethod P t v name with
      | some (f, recv) => bif bodied P f then some (.func f, #[recv] ++ args.extract 1 args.size) else none
      | none => none
    | _ => none
  | _ => none

def aCall (P : Program) (call : Tgt → Array Value → M Value) (id : Nat) (ρ : Operand → Value) (c : Call) : M Value :=
  match c.callee with
  | .builtin b => aBuiltin P id b c.argTypes (c.args.map ρ)
  | .invoke recv name => match aTarget P (.method name) (#[ρ recv] ++ c.args.map ρ) #[] with
    | some (t, args) => call t args
    | none => M.fail
  | .value f => match ρ f with
    | .func fn first captured => match aTarget P fn (first ++ c.args.map ρ) captured with
      | some (t, args) => call t args
      | none => M.fail
    | _ => M.fail

def aop (P : Program) (call : Tgt → Array Value → M Value) (id : Nat) (ρ : Operand → Value) (o : Oper) : M Value :=
  bif okOps o.op then
  match o.op with
  | .move x | .assign x => M.pure (ρ x)
  | .pick c a b => match ρ c with
    | .bool b' => M.pure (bif b' then ρ a else ρ b)
    | _ => M.fail
  | .alloc e => match zero' P e with
    | some z => M.bind (newCells id z.cells.toList) fun _ => M.pure (ptrTo id)
    | none => M.fail
  | .box _ x => M.bind (newCells id (ρ x).cells.toList) fun _ => M.pure (ptrTo id)
  | .build t parts => aBuild P t (parts.map fun (i, x) => (i, ρ x))
  | .buildSlice t len parts => aBuildSlice P id t len (parts.map fun (i, x) => (i, ρ x))
  | .load t a => aLoad P t (ρ a)
  | .store t a x => aStore P t (ρ x) (ρ a)
  | .nilCheck x => match ρ x with
    | .pointer (some a) => M.pure (.pointer (some a))
    | .iface t v => M.pure (.iface t v)
    | .func (.method _) _ _ => M.fail
    | .func fn f c => M.pure (.func fn f c)
    | .slice a l c => M.pure (.slice a l c)
    | .map r => M.pure (.map r)
    | _ => M.fail
  | .binOp op t x y _ => aBinOp P op t x y (ρ x) (ρ y)
  | .unOp op _ x => bif noids (ρ x) then viaModel P (Op.unary op (ρ x)) else M.fail
  | .convert src dst x =>
    match P.underlying src, P.underlying dst with
    | some (.slice _), _ | _, some (.slice _) => aBytes P src dst (ρ x) id
    | _, _ => bif noids (ρ x) then viaModel P (convert src dst (ρ x)) else M.fail
  | .makeInterface t x => match P.underlying t with
    | some (.interface _) | none => M.fail
    | some _ => M.pure (.iface t (ρ x))
  | .makeFunc fn first captured => match fn with
    | .yield _ => M.fail
    | _ => M.pure (.func fn (first.map ρ) (captured.map ρ))
  | .makeMap _ none => M.bind (M.alloc id (.map [] 0)) fun _ => M.pure (.map (some id))
  | .makeMap t (some h) => match P.underlying t, ρ h with
    | some (.map _ _), .int _ _ => M.bind (M.alloc id (.map [] 0)) fun _ => M.pure (.map (some id))
    | _, _ => M.fail
  | .makeSlice t l c => aMakeSlice P id t (ρ l) (ρ c)
  | .slice t x lo hi mx => bif noids (ρ x) && noidsO (lo.map ρ) && noidsO (hi.map ρ) && noidsO (mx.map ρ) then viaModel P (Instr.sliceAt t (ρ x) (lo.map ρ) (hi.map ρ) (mx.map ρ)) else aSlice P id t (ρ x) (lo.map ρ) (hi.map ρ) (mx.map ρ)
  | .fieldAddr s x f => aFieldAddr P s (ρ x) f
  | .field t x f => aField P t (ρ x) f
  | .indexAddr t x i => aIndexAddr P t (ρ x) (ρ i)
  | .index t x i => aIndex P t (ρ x) (ρ i)
  | .lookup t x i ok => aLookup P t (ρ x) (ρ i) ok
  | .mapUpdate t m k x | .insert t m k x => aMapUpdate P t (ρ m) (ρ k) (ρ x)
  | .typeAssert x _ asserted ok => aTypeAssert P (ρ x) asserted ok
  | .extract t i => match ρ t with
    | .tuple vs => M.ofOption vs[i]?
    | _ => M.fail
  | .call c => aCall P call id ρ c
  | _ => M.fail
  else M.fail

/-! ## Regions -/

def stepOp (P : Program) (call : Tgt → Array Value → M Value) (ops : Array Oper) (base i : Nat) (o : Oper) (a : Act) : M Act :=
  bif Region.wanted o (yielded ops a.tmps) then M.bind (aop P call (base + i) a.eval o) fun v => M.pure (a.put o.dst v)
  else M.pure (a.put o.dst undef)

def runOps (P : Program) (call : Tgt → Array Value → M Value) (ops : Array Oper) (base : Nat) : Nat → List Oper → Act → M Act
  | _, [], a => M.pure a
  | i, o :: rest, a => M.bind (stepOp P call ops base i o a) (runOps P call ops base (i + 1) rest)

/-! ## Regions whose order is drawn: one walk in the order of the text, and checks that no order says anything else -/

/-- What must stand ahead of an operation, as bits. -/
def edgeBits (acc : Array Nat) : List Edge → Nat
  | [] => 0
  | e :: r => bif Region.binds .any e then 2 ^ e.on ||| acc.getD e.on 0 ||| edgeBits acc r else edgeBits acc r

def befGo : List Oper → Array Nat → Array Nat
  | [], acc => acc
  | o :: r, acc => befGo r (acc.push (edgeBits acc o.after.toList))

def bef (ops : Array Oper) : Array Nat := befGo ops.toList #[]

def tmpsOf : List Operand → List Tmp
  | [] => []
  | .tmp t :: r => t :: tmpsOf r
  | _ :: r => tmpsOf r

/-- The temporaries that an operation reads: its operands', and its guard's. -/
def readsOf (ops : Array Oper) (o : Oper) : List Tmp :=
  tmpsOf o.op.operands.toList ++ (match o.guard with
    | some (g, _) => match (ops[g]?).bind (·.dst) with
      | some t => [t]
      | none => []
    | none => [])

def pairOk (ops : Array Oper) (b : Array Nat) (i j : Nat) : Bool :=
  match ops[i]?, ops[j]? with
  | some x, some y =>
    match x.dst with
    | none => true
    | some t => Nat.beq i j || (!(y.dst == some t) && (!(readsOf ops y).contains t || (bif Nat.blt i j then (b.getD j 0).testBit i else (b.getD i 0).testBit j)))
  | _, _ => true

def drawStatic (ops : Array Oper) (b : Array Nat) : Bool :=
  (List.range ops.size).all fun i =>
    (match ops[i]? with
     | some o => Nat.beq (b.getD i 0) (edgeBits b o.after.toList) && o.after.toList.all fun e => !Region.binds .any e || Nat.blt e.on i
     | none => true) &&
    (List.range ops.size).all fun j => pairOk ops b i j

/-- An operation that changes nothing. -/
def isRead (P : Program) (ρ : Operand → Value) (o : Oper) : Bool :=
  match o.op with
  | .move _ | .assign _ | .pick _ _ _ | .build _ _ | .load _ _ | .nilCheck _ | .binOp _ _ _ _ _ | .unOp _ _ _ | .makeInterface _ _ | .makeFunc _ _ _ => true
  | .fieldAddr _ _ _ | .field _ _ _ | .indexAddr _ _ _ | .index _ _ _ | .lookup _ _ _ _ | .typeAssert _ _ _ _ | .extract _ _ => true
  | .slice _ x lo hi mx => bif noids (ρ x) && noidsO (lo.map ρ) && noidsO (hi.map ρ) && noidsO (mx.map ρ) then true else
    match ρ x with
    | .slice _ len cap => (match bounds' len cap (lo.map ρ) (hi.map ρ) (mx.map ρ) with
      | some (l, _, m) => mx.isNone && !Nat.beq m l
      | none => false)
    | _ => false
  | .convert _ dst _ => match P.underlying dst with
    | some (.slice _) => false
    | _ => true
  | .call c => match c.callee with
    | .builtin .len | .builtin .cap | .builtin .min | .builtin .max => true
    | _ => false
  | _ => false

/-- What an operation of a region comes to. -/
def opVal (P : Program) (call : Tgt → Array Value → M Value) (ops : Array Oper) (base i : Nat) (o : Oper) (a : Act) : M Value :=
  bif Region.wanted o (yielded ops a.tmps) then aop P call (base + i) a.eval o else M.pure undef

def isEff (P : Program) (ops : Array Oper) (o : Oper) (a : Act) : Bool :=
  Region.wanted o (yielded ops a.tmps) && !isRead P a.eval o

/-- The walk through a drawn region: what has been met. A phase: the effects behind, what stands ahead of them, the state. -/
structure DS where
  act : Act
  mask : Nat
  ups : Nat
  st : AS
  phases : List (Nat × Nat × AS)
  reads : List (Nat × Oper × Act × Value)

def drawOne (P : Program) (call : Tgt → Array Value → M Value) (ops : Array Oper) (base : Nat) (b : Array Nat) (i : Nat) (o : Oper) (d : DS) : Option DS :=
  match opVal P call ops base i o d.act d.st with
  | none => none
  | some (v, σ') =>
    bif isEff P ops o d.act then
      bif Nat.beq (d.mask &&& b.getD i 0) d.mask then
        some { act := d.act.put o.dst v, mask := d.mask ||| 2 ^ i, ups := d.ups ||| b.getD i 0, st := σ', phases := (d.mask ||| 2 ^ i, d.ups ||| b.getD i 0, σ') :: d.phases, reads := d.reads }
      else none
    else some { d with act := d.act.put o.dst v, reads := (i, o, d.act, v) :: d.reads }

def drawAll (P : Program) (call : Tgt → Array Value → M Value) (ops : Array Oper) (base : Nat) (b : Array Nat) : Nat → List Oper → DS → Option DS
  | _, [], d => some d
  | i, o :: r, d => match drawOne P call ops base b i o d with
    | some d' => drawAll P call ops base b (i + 1) r d'
    | none => none

/-- A phase in which a read is not carried out, or the one in which it was. -/
def readSkip (b : Array Nat) (mask i : Nat) (p : Nat × Nat × AS) : Bool :=
  !Nat.beq (b.getD i 0 &&& mask &&& p.1) (b.getD i 0 &&& mask) || p.2.1.testBit i || Nat.beq p.1 (mask % 2 ^ i)

/-- A read says the same in each phase in which it may be carried out. -/
def readOk (P : Program) (call : Tgt → Array Value → M Value) (ops : Array Oper) (base : Nat) (b : Array Nat) (mask : Nat) (r : Nat × Oper × Act × Value) (p : Nat × Nat × AS) : Bool :=
  readSkip b mask r.1 p ||
    match opVal P call ops base r.1 r.2.1 r.2.2.1 p.2.2 with
    | some (v, _) => veq v r.2.2.2
    | none => false

def runDraw (P : Program) (call : Tgt → Array Value → M Value) (ops : Array Oper) (base : Nat) (a : Act) : M Act := fun σ =>
  bif drawStatic ops (bef ops) && P.follows .mixedOrders then
    match drawAll P call ops base (bef ops) 0 ops.toList { act := a, mask := 0, ups := 0, st := σ, phases := [(0, 0, σ)], reads := [] } with
    | some d => bif d.reads.all fun r => d.phases.all fun p => readOk P call ops base (bef ops) d.mask r p then some (d.act, d.st) else none
    | none => none
  else none

/-! ## Code and calls -/

inductive AX where
  | normal
  | exit (id : Nat)
  | ret

def aloop (body : Act → M (AX × Act)) : Nat → Act → M (AX × Act)
  | 0, _ => M.fail
  | n + 1, a => M.bind (body a) fun
    | (.normal, a') => aloop body n a'
    | r => M.pure r

def markOf (d : Nat) : Deferred := { target := .collected d, args := #[] }

def aRange (P : Program) (call : Tgt → Array Value → M Value) (fn : FuncId) (ro : Option Nat) (f : Operand) (params : Array Tmp) (assign body : Code) (a : Act) : M (AX × Act) :=
  M.bind (M.reserve 2) fun base =>
  M.bind (match ro with
    | none => M.bind (M.alloc base .deferred) fun _ => M.pure (base, [markOf base])
    | some l => M.bind (M.get l) fun
      | .loop r => M.pure (r.defers, [])
      | _ => M.fail) fun dm =>
  M.bind (M.alloc (base + 1) (.loop { state := .ready, pending := none, fn, tmps := a.tmps, params, assign, body, defers := dm.1 })) fun _ =>
  bif okOperand f then
    match a.eval f with
    | .func fv first captured =>
      match aTarget P fv (first ++ #[.func (.yield (base + 1)) #[] #[]]) captured with
      | some (.func g, args) =>
        M.bind (call (.func g) args) fun _ =>
        M.bind (M.get (base + 1)) fun
          | .loop r =>
            bif r.state == .busy then M.fail else
            M.bind (M.set (base + 1) (.loop { r with state := .exhausted })) fun _ =>
            match r.pending with
            | none => M.pure (.normal, { a with defers := dm.2 ++ a.defers })
            | some (.exit id) => M.pure (.exit id, { a with defers := dm.2 ++ a.defers })
            | some .ret => M.pure (.ret, { a with defers := dm.2 ++ a.defers })
            | some _ => M.fail
          | _ => M.fail
      | _ => M.fail
    | _ => M.fail
  else M.fail

def acode (P : Program) (call : Tgt → Array Value → M Value) (n : Nat) (fn : FuncId) (ro : Option Nat) : Code → Act → M (AX × Act)
  | .skip, a => M.pure (.normal, a)
  | .region _ ops draw, a => M.bind (M.reserve ops.size) fun base =>
    bif draw then M.bind (runDraw P call ops base a) fun a' => M.pure (.normal, a')
    else M.bind (runOps P call ops base 0 ops.toList a) fun a' => M.pure (.normal, a')
  | .seq x y, a => M.bind (acode P call n fn ro x a) fun
    | (.normal, a') => acode P call n fn ro y a'
    | r => M.pure r
  | .cond c x y, a => bif okOperand c then
      match a.eval c with
      | .bool true => acode P call n fn ro x a
      | .bool false => acode P call n fn ro y a
      | _ => M.fail
    else M.fail
  | .block id body, a => M.bind (acode P call n fn ro body a) fun
    | (.exit i, a') => bif Nat.beq i id then M.pure (.normal, a') else M.pure (.exit i, a')
    | r => M.pure r
  | .loop body, a => aloop (acode P call n fn ro body) n a
  | .rangeFunc f params assign body, a => aRange P call fn ro f params assign body a
  | .exit id, a => M.pure (.exit id, a)
  | .ret, a => M.pure (.ret, a)
  | .label _, a => M.pure (.normal, a)
  | .scope _, _ => M.fail
  | .goto _, _ => M.fail
  | .refuse _, _ => M.fail

def takeAll : List Deferred → M Unit
  | [] => M.pure ()
  | d :: ds => match d.target with
    | .collected r => M.bind (M.get r) fun
      | .deferred => M.bind (M.set r .dead) fun _ => takeAll ds
      | _ => M.fail
    | _ => M.fail

def aResult (P : Program) (tmps : Array Value) : ResultVar → M Value
  | .tmp t => M.pure (tmps.getD t undef)
  | .cell x t => aLoad P t (tmps.getD x undef)

def aResultList (P : Program) (tmps : Array Value) : List ResultVar → M (List Value)
  | [] => M.pure []
  | r :: rs => M.bind (aResult P tmps r) fun v => M.bind (aResultList P tmps rs) fun vs => M.pure (v :: vs)

def aResults (P : Program) (fn : Func) (tmps : Array Value) : M Value :=
  M.bind (aResultList P tmps fn.results.toList) fun
    | [v] => M.pure v
    | vs => M.pure (.tuple vs.toArray)

def setParams : List (Tmp × Value) → Array Value → Array Value
  | [], tmps => tmps
  | (t, v) :: r, tmps => setParams r (tmps.setIfInBounds t v)

def jumpOf : AX → Option Code
  | .normal => none
  | .exit id => some (.exit id)
  | .ret => some .ret

def acall (P : Program) : Nat → Tgt → Array Value → M Value
  | 0, _, _ => M.fail
  | n + 1, .func f, args =>
    match P.funcs[f]? with
    | some fn => match fn.body with
      | some c => M.bind (acode P (acall P n) n f none c { tmps := args ++ Array.replicate (fn.ntmps - args.size) undef, defers := [] }) fun
        | (.exit _, _) => M.fail
        | (_, a) => M.bind (takeAll a.defers) fun _ => aResults P fn a.tmps
      | none => M.fail
    | none => M.fail
  | n + 1, .yield l, args => M.bind (M.get l) fun
    | .loop r =>
      bif Nat.beq args.size r.params.size then
        M.bind (acode P (acall P n) n r.fn (some l) r.assign { tmps := setParams (r.params.toList.zip args.toList) r.tmps, defers := [] }) fun
          | (.normal, a) => M.bind (M.get l) fun
            | .loop r' => match r'.state with
              | .ready => M.bind (M.set l (.loop { r' with state := .busy })) fun _ =>
                M.bind (acode P (acall P n) n r.fn (some l) r.body a) fun xa =>
                bif xa.2.defers.isEmpty then
                M.bind (M.get l) fun
                  | .loop r'' => M.bind (M.set l (.loop { r'' with state := if (jumpOf xa.1).isNone then .ready else .done, pending := jumpOf xa.1 })) fun _ =>
                    M.pure (.bool (jumpOf xa.1).isNone)
                  | _ => M.fail
                else M.fail
              | _ => M.fail
            | _ => M.fail
          | _ => M.fail
      else M.fail
    | _ => M.fail

end Go.Abs
