/- Runs with foreseen answers over frames of which some slots are known: definitions. What is foreseen is logged. No condition. -/
import Derived.Test.YtfokbdgiphphfaaAbs21
namespace Go.Abs
open Go.RowKit

def Holds : List Prop → Prop
  | [] => True
  | p :: r => p ∧ Holds r

def AS.put (σ : AS) (i : Nat) (o : AObj) : AS := ⟨σ.heap.set i o, σ.next⟩
def AS.up (σ : AS) (n : Nat) : AS := ⟨σ.heap, σ.next + n⟩

/-- Nothing stands there, and it has been reserved. -/
def FreshAt (σ : AS) (id : Nat) : Prop := σ.heap.get id = none ∧ id < σ.next

/-- What is foreseen, in the order in which it is asked. -/
inductive Ans where
  /-- The next operation is run as it is. -/
  | auto
  | yes
  | no
  /-- The next call is run here. -/
  | enter
  /-- A new object. -/
  | new
  | num (y : Int)
  | ix (i : Nat)
  /-- The value of an operation that changes nothing. -/
  | val (v : Value)
  | upto (v : Value) (σ : AS)
  /-- A block: the slots that are known ahead of it and behind it, how it is left, what they hold then. -/
  | block (id : Nat) (slots : List Nat) (e : AX) (vals : List Value) (σ : AS)

structure SS where
  ans : List Ans
  log : List Prop
  σ : AS
  d : Nat

def SS.now (s : SS) : AS := s.σ.up s.d

inductive Res (α : Type) where
  | ok (a : α) (s : SS)
  | bad (w : Nat)

def addOff' (a : Addr) (n : Nat) : Addr := ⟨a.block, bif Nat.beq a.off 0 then n else a.off + n, none⟩
def timesOne (i n : Nat) : Nat := bif Nat.beq n 1 then i else i * n

/-! ## Frames -/

abbrev PF := Tr Value

def pfEval (pf : PF) : Operand → Option Value
  | .tmp t => pf.get t
  | .const v => some v
  | .func f => some (.func (.func f) #[] #[])
  | .global _ => none

def pfVal (pf : PF) (x : Operand) : Value := match pfEval pf x with
  | some v => v
  | none => undef

def pfPut (pf : PF) (nt : Nat) (t : Option Tmp) (v : Value) : Option PF := match t with
  | none => some pf
  | some t => bif Nat.blt t nt then some (pf.set t v) else none

def pfSet : List Nat → List Value → PF → PF
  | t :: ts, v :: vs, pf => pfSet ts vs (pf.set t v)
  | _, _, pf => pf

def pfOf (slots : List Nat) (vals : List Value) : PF := pfSet slots vals .leaf

def pfGets (pf : PF) : List Nat → Option (List Value)
  | [] => some []
  | t :: ts => match pf.get t with
    | some v => match pfGets pf ts with
      | some vs => some (v :: vs)
      | none => none
    | none => none

structure FrameOk (nt : Nat) (ds : List Deferred) (pf : PF) (a : Act) : Prop where
  size : a.tmps.size = nt
  defers : a.defers = ds
  slot : ∀ t v, pf.get t = some v → a.tmps[t]? = some v

/-! ## Blocks of a function -/

def blocksOf (id : Nat) : Code → List Code
  | .seq x y => blocksOf id x ++ blocksOf id y
  | .cond _ x y => blocksOf id x ++ blocksOf id y
  | .block i body => bif Nat.beq i id then .block i body :: blocksOf id body else blocksOf id body
  | .loop body => blocksOf id body
  | .rangeFunc _ _ assign body => blocksOf id assign ++ blocksOf id body
  | .scope body => blocksOf id body
  | _ => []

def blockAt (P : Program) (f : FuncId) (id : Nat) : Option Code := match P.funcs[f]? with
  | some fn => match fn.body with
    | some c => match blocksOf id c with
      | [x] => some x
      | _ => none
    | none => none
  | none => none

/-- What a block of a function comes to, of the slots that are known. -/
def BlockOk (P : Program) (call : Tgt → Array Value → M Value) (n : Nat) (f : FuncId) (id nt : Nat) (slots : List Nat) (vals : List Value) (σ : AS) (e : AX) (vals' : List Value) (σ' : AS) : Prop :=
  ∃ c, blockAt P f id = some c ∧ ∀ a ds, FrameOk nt ds (pfOf slots vals) a → ∃ a', acode P call n f none c a σ = some ((e, a'), σ') ∧ FrameOk nt ds (pfOf slots vals') a'

/-! ## Operations -/

section
variable (P : Program) (call : Tgt → Array Value → M Value) (callS : FuncId → Array Value → SS → Res Value)

def autoS (id : Nat) (ρ : Operand → Value) (o : Oper) (s : SS) : Res Value := match aop P call id ρ o s.now with
  | some (v, σ') => bif isRead P ρ o then .ok v s else .ok v { s with σ := σ', d := 0 }
  | none => .bad 1

/-- What is logged of a foreseen operation. -/
def logS (id : Nat) (ρ : Operand → Value) (o : Oper) (σ : AS) (v : Value) (σ' : AS) : Prop :=
  match o.op with
  | .load t x => aLoad P t (ρ x) σ = some (v, σ')
  | .store t x y => aStore P t (ρ y) (ρ x) σ = some (v, σ')
  | .slice t x lo hi mx => bif noids (ρ x) && noidsO (lo.map ρ) && noidsO (hi.map ρ) && noidsO (mx.map ρ) then aop P call id ρ o σ = some (v, σ') else aSlice P id t (ρ x) (lo.map ρ) (hi.map ρ) (mx.map ρ) σ = some (v, σ')
  | .lookup t m k ok => aLookup P t (ρ m) (ρ k) ok σ = some (v, σ')
  | .mapUpdate t m k x | .insert t m k x => aMapUpdate P t (ρ m) (ρ k) (ρ x) σ = some (v, σ')
  | .makeSlice t l c => aMakeSlice P id t (ρ l) (ρ c) σ = some (v, σ')
  | .index t x i => aIndex P t (ρ x) (ρ i) σ = some (v, σ')
  | .binOp op t x y _ => aBinOp P op t x y (ρ x) (ρ y) σ = some (v, σ')
  | .call c => match c.callee with
    | .builtin b => aBuiltin P id b c.argTypes (c.args.map ρ) σ = some (v, σ')
    | _ => aop P call id ρ o σ = some (v, σ')
  | _ => aop P call id ρ o σ = some (v, σ')

def brS (p : Prop) [Decidable p] (b : Bool) (s : SS) : Res Value := match s.ans with
  | .yes :: r => .ok (.bool b) { s with ans := r, log := p :: s.log }
  | .no :: r => .ok (.bool (!b)) { s with ans := r, log := (¬ p) :: s.log }
  | _ => .ok (.bool (match b with
    | true => decide p
    | false => !decide p)) s

def numS (x : Int) (j : IntKind) (s : SS) : Res Value := match s.ans with
  | .num y :: r => .ok (.int j y) { s with ans := r, log := (x = y) :: s.log }
  | _ => .ok (.int j x) s

def andI (j : IntKind) (a b : Int) : Int := j.wrap ((BitVec.ofInt j.bits a &&& BitVec.ofInt j.bits b).toNat : Int)
def orI (j : IntKind) (a b : Int) : Int := j.wrap ((BitVec.ofInt j.bits a ||| BitVec.ofInt j.bits b).toNat : Int)
def shlI (j : IntKind) (a b : Int) : Int := j.wrap (a * 2 ^ min b.toNat j.bits)
def shrI (j : IntKind) (a b : Int) : Int := a.fdiv (2 ^ min b.toNat j.bits)

def binS (op : BinOp) (j : IntKind) (a b : Int) (other : SS → Res Value) (s : SS) : Res Value :=
  match op with
  | .lss => brS (a < b) true s
  | .leq => brS (a ≤ b) true s
  | .gtr => brS (b < a) true s
  | .geq => brS (b ≤ a) true s
  | .eql => brS (a = b) true s
  | .neq => brS (a = b) false s
  | .add => numS (j.wrap (a + b)) j s
  | .sub => numS (j.wrap (a - b)) j s
  | .mul => numS (j.wrap (a * b)) j s
  | .and => numS (andI j a b) j s
  | .or => numS (orI j a b) j s
  | .quo => bif decide (b = 0) then .bad 7 else numS (j.wrap (a.tdiv b)) j s
  | .rem => bif decide (b = 0) then .bad 7 else numS (a.tmod b) j s
  | _ => other s

def shiftS (op : BinOp) (j : IntKind) (a b : Int) (other : SS → Res Value) (s : SS) : Res Value :=
  match op with
  | .shl => bif decide (b < 0) then .bad 7 else numS (shlI j a b) j s
  | .shr => bif decide (b < 0) then .bad 7 else numS (shrI j a b) j s
  | _ => other s

def otherS (id : Nat) (ρ : Operand → Value) (o : Oper) (s : SS) : Res Value := match s.ans with
  | .val v :: r => bif isRead P ρ o then .ok v { s with ans := r, log := logS P call id ρ o s.now v s.now :: s.log } else .bad 2
  | .upto v σ' :: r => bif isRead P ρ o then autoS P call id ρ o s else .ok v { ans := r, log := logS P call id ρ o s.now v σ' :: s.log, σ := σ', d := 0 }
  | .auto :: r => autoS P call id ρ o { s with ans := r }
  | _ => autoS P call id ρ o s

/-- An operation that may change the state. -/
def uptoS (id : Nat) (ρ : Operand → Value) (o : Oper) (s : SS) : Res Value := match s.ans with
  | .upto v σ' :: r => .ok v { ans := r, log := logS P call id ρ o s.now v σ' :: s.log, σ := σ', d := 0 }
  | .auto :: r => autoS P call id ρ o { s with ans := r }
  | _ => autoS P call id ρ o s

def freshS (id : Nat) (ρ : Operand → Value) (o : Oper) (c : Option (List Value)) (v : Value) (s : SS) : Res Value := match s.ans with
  | .new :: r => (match c with
    | some c => .ok v { ans := r, log := FreshAt s.now id :: s.log, σ := s.now.put id (.cells c 0 false), d := 0 }
    | none => .bad 3)
  | .auto :: r => autoS P call id ρ o { s with ans := r }
  | _ => autoS P call id ρ o s

/-- The cells of a slice that is built. -/
def builtCells (t : TypeId) (len : Nat) (parts : Array (Nat × Value)) : Option (List Value) := match elemSize P t with
  | some (e, n) => match zero' P e with
    | some z => bif Nat.ble (len * n) (2 ^ 24) then
        (Instr.fill (fun i => some (i * n, n)) (zeros (bif Nat.beq (len * n) 0 then #[] else z.cells) (len * n)) parts.toList).map (·.toList)
      else none
    | none => none
  | none => none

def callOpS (id : Nat) (ρ : Operand → Value) (o : Oper) (t : Option (Tgt × Array Value)) (s : SS) : Res Value := match t with
  | some (.func g, args) => (match s.ans with
    | .upto v σ' :: r => .ok v { ans := r, log := (call (.func g) args s.now = some (v, σ')) :: s.log, σ := σ', d := 0 }
    | .enter :: r => callS g args { s with ans := r }
    | .auto :: r => autoS P call id ρ o { s with ans := r }
    | _ => callS g args s)
  | _ => autoS P call id ρ o s

def ixS (id : Nat) (ρ : Operand → Value) (o : Oper) (t : TypeId) (x i : Value) (s : SS) : Res Value := match s.ans with
  | .ix m :: r => (match P.underlying t, x, i with
    | some (.slice e), .slice (some a) len _, .int _ j => (match sizeOf' P e with
      | some n => .ok (.pointer (some (addOff' a (timesOne m n)))) { s with ans := r, log := (j = (m : Int) ∧ m < len) :: s.log }
      | none => .bad 5)
    | some (.array len e), .pointer (some a), .int _ j => (match sizeOf' P e with
      | some n => .ok (.pointer (some (addOff' a (timesOne m n)))) { s with ans := r, log := (j = (m : Int) ∧ m < len) :: s.log }
      | none => .bad 5)
    | _, _, _ => .bad 5)
  | .auto :: r => autoS P call id ρ o { s with ans := r }
  | _ => autoS P call id ρ o s

def isAdd : BinOp → Bool
  | .add => true
  | _ => false

def isShift : BinOp → Bool
  | .shl | .shr => true
  | _ => false

def sOp (id : Nat) (ρ : Operand → Value) (o : Oper) (s : SS) : Res Value :=
  match o.op with
  | .load _ _ | .lookup _ _ _ _ | .index _ _ _ => otherS P call id ρ o s
  | .store _ _ _ | .slice _ _ _ _ _ | .mapUpdate _ _ _ _ | .insert _ _ _ _ | .makeSlice _ _ _ | .makeMap _ _ => uptoS P call id ρ o s
  | .unOp op _ x => (match op, ρ x with
    | .neg, .int j n => numS (j.wrap (0 - n)) j s
    | _, _ => autoS P call id ρ o s)
  | .binOp op _ x y _ => (match ρ x, ρ y with
    | .int j a, .int j' b => bif isShift op then shiftS op j a b (otherS P call id ρ o) s else bif decide (j = j') then binS op j a b (otherS P call id ρ o) s else .bad 4
    | _, _ => (match s.ans with
      | .val (.bool _) :: _ => otherS P call id ρ o s
      | .val (.string _) :: _ => bif isAdd op then otherS P call id ρ o s else autoS P call id ρ o s
      | .auto :: _ => otherS P call id ρ o s
      | _ => autoS P call id ρ o s))
  | .alloc e => freshS P call id ρ o ((zero' P e).map fun z => z.cells.toList) (ptrTo id) s
  | .box _ x => freshS P call id ρ o (some (ρ x).cells.toList) (ptrTo id) s
  | .buildSlice t len parts => freshS P call id ρ o (builtCells P t len (parts.map fun (i, x) => (i, ρ x))) (.slice (some ⟨id, 0, none⟩) len len) s
  | .indexAddr t x i => ixS P call id ρ o t (ρ x) (ρ i) s
  | .convert src dst x => (match P.underlying src, P.underlying dst, ρ x with
    | some (.int _), some (.int j), .int _ n => numS (j.wrap n) j s
    | _, _, _ => otherS P call id ρ o s)
  | .call c => (match c.callee with
    | .value f => (match ρ f with
      | .func fn first captured => callOpS P call callS id ρ o (aTarget P fn (first ++ c.args.map ρ) captured) s
      | _ => .bad 6)
    | .invoke recv name => callOpS P call callS id ρ o (aTarget P (.method name) (#[ρ recv] ++ c.args.map ρ) #[]) s
    | .builtin .append | .builtin .copy => uptoS P call id ρ o s
    | .builtin .min | .builtin .max | .builtin .cap => otherS P call id ρ o s
    | _ => autoS P call id ρ o s)
  | _ => autoS P call id ρ o s

/-! ## Regions, code -/

def wantedS (ops : Array Oper) (pf : PF) (o : Oper) : Option Bool := match o.guard with
  | none => some true
  | some (j, want) => match (ops[j]?).bind (·.dst) with
    | some t => match pf.get t with
      | some (.bool b) => some (b == want)
      | some _ => some false
      | none => none
    | none => some false

def sRun (nt : Nat) (ops : Array Oper) (base : Nat) : Nat → List Oper → PF → SS → Res PF
  | _, [], pf, s => .ok pf s
  | i, o :: r, pf, s => match wantedS ops pf o with
    | some true => bif okOps o.op && o.op.operands.toList.all (fun x => (pfEval pf x).isSome) then
        match sOp P call callS (base + i) (pfVal pf) o s with
        | .ok v s' => match pfPut pf nt o.dst v with
          | some pf' => sRun nt ops base (i + 1) r pf' s'
          | none => .bad 10
        | .bad w => .bad (1000 * (i + 1) + w)
      else .bad (1000 * (i + 1) + 11)
    | some false => match pfPut pf nt o.dst undef with
      | some pf' => sRun nt ops base (i + 1) r pf' s
      | none => .bad 10
    | none => .bad (1000 * (i + 1) + 12)

/-- An operation that does not look at the state. -/
def stillOp (o : Oper) : Bool :=
  match o.op with
  | .move _ | .assign _ | .pick _ _ _ | .build _ _ | .nilCheck _ | .binOp _ _ _ _ _ | .unOp _ _ _ | .makeInterface _ _ | .makeFunc _ _ _ => true
  | .fieldAddr _ _ _ | .field _ _ _ | .indexAddr _ _ _ | .index _ _ _ | .typeAssert _ _ _ _ | .extract _ _ => true
  | .call c => match c.callee with
    | .builtin .min | .builtin .max => true
    | .builtin .len => match c.argTypes.toList with
      | [t] => match P.underlying t with
        | some (.slice _) | some .string | some (.array _ _) => true
        | _ => false
      | _ => false
    | _ => false
  | _ => false

/-- An operation that certainly changes nothing. -/
def plainRead (o : Oper) : Bool :=
  match o.op with
  | .load _ _ | .lookup _ _ _ _ => true
  | .call c => match c.callee with
    | .builtin .len | .builtin .cap => true
    | _ => false
  | _ => stillOp P o

/-- The order of the region's operations does not matter: each that looks at the state is ordered against each that may change it. -/
def calm (ops : Array Oper) : Bool :=
  drawStatic ops (bef ops) && P.follows .mixedOrders &&
  (List.range ops.size).all fun i => (List.range ops.size).all fun e =>
    match ops[i]?, ops[e]? with
    | some x, some y => stillOp P x || plainRead P y || Nat.beq i e || (bif Nat.blt e i then ((bef ops).getD i 0).testBit e else ((bef ops).getD e 0).testBit i)
    | _, _ => true

/-- The walk through a drawn region that is not calm. -/
structure SDS where
  pf : PF
  mask : Nat
  ups : Nat
  phases : List (Nat × Nat × AS)
  reads : List (Nat × Oper × PF × Value)

def sDrawAll (nt : Nat) (ops : Array Oper) (base : Nat) (b : Array Nat) : Nat → List Oper → SDS → SS → Res SDS
  | _, [], d, s => .ok d s
  | i, o :: r, d, s => match wantedS ops d.pf o with
    | some true => bif okOps o.op && o.op.operands.toList.all (fun x => (pfEval d.pf x).isSome) then
        match sOp P call callS (base + i) (pfVal d.pf) o s with
        | .ok v s' => match pfPut d.pf nt o.dst v with
          | some pf' => bif isRead P (pfVal d.pf) o then
              sDrawAll nt ops base b (i + 1) r { d with pf := pf', reads := (bif stillOp P o then d.reads else (i, o, d.pf, v) :: d.reads) } s'
            else bif Nat.beq (d.mask &&& b.getD i 0) d.mask then
              sDrawAll nt ops base b (i + 1) r { pf := pf', mask := d.mask ||| 2 ^ i, ups := d.ups ||| b.getD i 0, phases := (d.mask ||| 2 ^ i, d.ups ||| b.getD i 0, s'.now) :: d.phases, reads := d.reads } s'
            else .bad (1000 * (i + 1) + 13)
          | none => .bad 10
        | .bad w => .bad (1000 * (i + 1) + w)
      else .bad (1000 * (i + 1) + 11)
    | some false => match pfPut d.pf nt o.dst undef with
      | some pf' => sDrawAll nt ops base b (i + 1) r { d with pf := pf' } s
      | none => .bad 10
    | none => .bad (1000 * (i + 1) + 12)

/-- What is left to be shown: reads say the same in the other phases. -/
def drawLog (base : Nat) (b : Array Nat) (mask : Nat) (r : Nat × Oper × PF × Value) : List (Nat × Nat × AS) → List Prop
  | [] => []
  | p :: ps => bif readSkip b mask r.1 p then drawLog base b mask r ps else logS P call (base + r.1) (pfVal r.2.2.1) r.2.1 p.2.2 r.2.2.2 p.2.2 :: drawLog base b mask r ps

def drawLogs (base : Nat) (b : Array Nat) (mask : Nat) (ps : List (Nat × Nat × AS)) : List (Nat × Oper × PF × Value) → List Prop → List Prop
  | [], l => l
  | r :: rs, l => drawLog P call base b mask r ps ++ drawLogs base b mask ps rs l

def sDraw (nt : Nat) (ops : Array Oper) (base : Nat) (pf : PF) (s : SS) : Res PF :=
  bif drawStatic ops (bef ops) && P.follows .mixedOrders then
    match sDrawAll P call callS nt ops base (bef ops) 0 ops.toList { pf := pf, mask := 0, ups := 0, phases := [(0, 0, s.now)], reads := [] } s with
    | .ok d s' => .ok d.pf { s' with log := drawLogs P call base (bef ops) d.mask d.phases d.reads s'.log }
    | .bad w => .bad w
  else .bad 14

def sLoop (body : PF → SS → Res (AX × PF)) : Nat → PF → SS → Res (AX × PF)
  | 0, _, _ => .bad 24
  | n + 1, pf, s => match body pf s with
    | .ok (.normal, pf') s' => sLoop body n pf' s'
    | r => r

def sCode (n : Nat) (fn : FuncId) (top : Code) (nt : Nat) : Code → PF → SS → Res (AX × PF)
  | .skip, pf, s => .ok (.normal, pf) s
  | .region id ops draw, pf, s => bif !draw || calm P ops then
      match sRun P call callS nt ops s.now.next 0 ops.toList pf { s with d := s.d + ops.size } with
      | .ok pf' s' => .ok (.normal, pf') s'
      | .bad w => .bad (1000000 * id + w)
    else match sDraw P call callS nt ops s.now.next pf { s with d := s.d + ops.size } with
      | .ok pf' s' => .ok (.normal, pf') s'
      | .bad w => .bad (1000000 * id + w)
  | .seq x y, pf, s => match sCode n fn top nt x pf s with
    | .ok (.normal, pf') s' => sCode n fn top nt y pf' s'
    | r => r
  | .cond c x y, pf, s => bif okOperand c then
      match pfEval pf c with
      | some (.bool true) => sCode n fn top nt x pf s
      | some (.bool false) => sCode n fn top nt y pf s
      | _ => .bad 21
    else .bad 22
  | .block id body, pf, s => match s.ans with
    | .block id' slots e vals σ' :: r => bif Nat.beq id id' then
        match pfGets pf slots, blocksOf id top with
        | some vs, [_] => .ok (e, pfOf slots vals) { ans := r, log := BlockOk P call n fn id nt slots vs s.now e vals σ' :: s.log, σ := σ', d := 0 }
        | _, _ => .bad 23
      else (match sCode n fn top nt body pf s with
        | .ok (.exit i, pf') s' => bif Nat.beq i id then .ok (.normal, pf') s' else .ok (.exit i, pf') s'
        | r => r)
    | _ => (match sCode n fn top nt body pf s with
      | .ok (.exit i, pf') s' => bif Nat.beq i id then .ok (.normal, pf') s' else .ok (.exit i, pf') s'
      | r => r)
  | .exit id, pf, s => .ok (.exit id, pf) s
  | .ret, pf, s => .ok (.ret, pf) s
  | .label _, pf, s => .ok (.normal, pf) s
  | .loop body, pf, s => sLoop (sCode n fn top nt body) n pf s
  | .rangeFunc _ _ _ _, _, _ => .bad 25
  | .scope _, _, _ => .bad 26
  | .goto _, _, _ => .bad 27
  | .refuse _, _, _ => .bad 28

def sResults (pf : PF) : List ResultVar → SS → Res (List Value)
  | [], s => .ok [] s
  | .tmp t :: r, s => match pf.get t with
    | some v => match sResults pf r s with
      | .ok vs s' => .ok (v :: vs) s'
      | .bad w => .bad w
    | none => .bad 30
  | .cell x t :: r, s => match pf.get x with
    | some p => (match s.ans with
      | .val v :: rest => match sResults pf r { s with ans := rest, log := (aLoad P t p s.now = some (v, s.now)) :: s.log } with
        | .ok vs s' => .ok (v :: vs) s'
        | .bad w => .bad w
      | _ => match aLoad P t p s.now with
        | some (v, _) => match sResults pf r s with
          | .ok vs s' => .ok (v :: vs) s'
          | .bad w => .bad w
        | none => .bad 31)
    | none => .bad 32

end

def pfArgs (args : Array Value) : PF := pfOf (List.range args.size) args.toList

def sFunc (P : Program) : Nat → FuncId → Array Value → SS → Res Value
  | 0, _, _, _ => .bad 40
  | n + 1, f, args, s => match P.funcs[f]? with
    | some fn => match fn.body with
      | some c => bif Nat.ble args.size fn.ntmps then
          match sCode P (acall P n) (sFunc P n) n f c fn.ntmps c (pfArgs args) s with
          | .ok (.exit _, _) _ => .bad 41
          | .ok (_, pf) s' => match sResults P pf fn.results.toList s' with
            | .ok [v] s'' => .ok v s''
            | .ok vs s'' => .ok (.tuple vs.toArray) s''
            | .bad w => .bad w
          | .bad w => .bad w
        else .bad 42
      | none => .bad 43
    | none => .bad 44

end Go.Abs
