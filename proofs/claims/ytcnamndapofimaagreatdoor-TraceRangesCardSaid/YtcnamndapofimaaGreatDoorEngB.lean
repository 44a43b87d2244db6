/- The engine's operations on abstract values and heaps. -/
import Derived.Test.YtcnamndapofimaaGreatDoorEngA
namespace Go.Eng
open Go

/-! ### What is asked of types -/
structure TI where
  desc : TypeDesc
  size : Nat
  bytes : Nat
  zval : Value
  cmp : Bool
  guard : Bool
  held : Bool
  places : List (Nat × Nat)
  methods : Array Method
def TI.agg (i : TI) : Bool := match i.desc with | .struct _ | .array _ _ => true | _ => false
def TI.zero (i : TI) : List Value := i.zval.cells.toList
def placesOf (P : Program) (d : TypeDesc) : Option (List (Nat × Nat)) := match d with
  | .struct fs => if fs.any (·.name == "_") then none else fs.toList.mapM fun f => (P.info? f.type).map fun j => (f.offset, j.size)
  | _ => some []
def mkTI (P : Program) (t : TypeId) : Option TI :=
  match P.info? t, P.underlying t with
  | some i, some d => match i.zero, placesOf P d with
    | some z, some pl => bif closedV 4 z then some { desc := d, size := i.size, bytes := i.bytes, zval := z, cmp := i.comparable, guard := P.eqGuardType P.depth t, held := P.stoodInHeld t, places := pl, methods := i.methods } else none
    | _, _ => none
  | _, _ => none
/-- What stands for a call: its answer, or a call of another function. -/
inductive HRes where
  | ret (v : Value) (H : AH)
  | call (f : FuncId) (args : List Value)
structure Ctx where
  ty : T (Option TI)
  fn : Nat → Option Func
  hook : FuncId → List Value → AH → Option HRes
noncomputable def ctxOf (P : Program) (hook : FuncId → List Value → AH → Option HRes) : Ctx := { ty := T.lay ((List.range P.types.size).map (mkTI P)) .leaf 0, fn := fun f => P.funcs[f]?, hook := hook }
noncomputable def Ctx.ti (C : Ctx) (t : TypeId) : Option TI := match C.ty.get t with
  | some o => o
  | none => none

/-! ### Numbers, strings -/
def ilt : Int → Int → Bool
  | .ofNat a, .ofNat b => Nat.blt a b
  | .negSucc _, .ofNat _ => true
  | .ofNat _, .negSucc _ => false
  | .negSucc a, .negSucc b => Nat.blt b a
def ieq : Int → Int → Bool
  | .ofNat a, .ofNat b => Nat.beq a b
  | .negSucc a, .negSucc b => Nat.beq a b
  | _, _ => false
def awrap (k : IntKind) (n : Int) : Int := match k, n with
  | .i64, .ofNat m => bif Nat.blt m 9223372036854775808 then .ofNat m else IntKind.wrap .i64 (.ofNat m)
  | .i64, .negSucc m => bif Nat.blt m 9223372036854775808 then .negSucc m else IntKind.wrap .i64 (.negSucc m)
  | k, n => k.wrap n
def bytesEq : List UInt8 → List UInt8 → Bool
  | [], [] => true
  | a :: l, b :: m => bif Nat.beq a.toNat b.toNat then bytesEq l m else false
  | _, _ => false
def strEq (a b : ByteArray) : Bool := bytesEq a.data.toList b.data.toList
def kindEq (j k : IntKind) : Bool := match j, k with
  | .i8, .i8 | .i16, .i16 | .i32, .i32 | .i64, .i64 | .u8, .u8 | .u16, .u16 | .u32, .u32 | .u64, .u64 => true
  | _, _ => false
def aint (op : BinOp) (k : IntKind) (a b : Int) : Option Value := match op with
  | .add => some (.int k (awrap k (Int.add a b)))
  | .sub => some (.int k (awrap k (Int.sub a b)))
  | .mul => some (.int k (awrap k (Int.mul a b)))
  | .quo => bif ieq b 0 then none else some (.int k (awrap k (Int.tdiv a b)))
  | .rem => bif ieq b 0 then none else some (.int k (Int.tmod a b))
  | .eql => some (.bool (ieq a b))
  | .neq => some (.bool (!ieq a b))
  | .lss => some (.bool (ilt a b))
  | .leq => some (.bool (!ilt b a))
  | .gtr => some (.bool (ilt b a))
  | .geq => some (.bool (!ilt a b))
  | _ => none
def astr (op : BinOp) (a b : ByteArray) : Option Value := match op with
  | .add => bif Nat.blt (a.size + b.size) 1099511627776 then some (.string (a ++ b)) else none
  | .eql => some (.bool (strEq a b))
  | .neq => some (.bool (!strEq a b))
  | .lss => some (.bool (Op.bytesLess a.data.toList b.data.toList))
  | .leq => some (.bool (Op.bytesLess a.data.toList b.data.toList || strEq a b))
  | .gtr => some (.bool (!(Op.bytesLess a.data.toList b.data.toList || strEq a b)))
  | .geq => some (.bool (!Op.bytesLess a.data.toList b.data.toList))
  | _ => none

/-! ### Parts of aggregates -/
noncomputable def apart (C : Ctx) (t : TypeId) (cs : List Value) (off : Nat) : Option Value :=
  match C.ti t with
  | none => none
  | some i => bif i.agg then some (.agg ⟨(cs.drop off).take i.size⟩) else cs[off]?
noncomputable def spl (cs : List Value) (off : Nat) (vs : List Value) : List Value := cs.take off ++ (vs ++ cs.drop (off + vs.length))
noncomputable def cellsOfV (v : Value) : List Value := match v with
  | .agg ⟨l⟩ => l
  | .chan _ => []
  | v => [v]
noncomputable def someCells (v : Value) (n : Nat) : Bool := Nat.beq (cellsOfV v).length n && Nat.blt 0 n
noncomputable def afill (place : Nat → Option (Nat × Nat)) (cells : List Value) (ps : List (Nat × Value)) : Option (List Value) :=
  List.rec (motive := fun _ => List Value → Option (List Value)) (fun cells => some cells)
    (fun p _ ih cells => match place p.1 with
      | none => none
      | some (off, size) => bif someCells p.2 size && Nat.ble (off + size) cells.length then ih (spl cells off (cellsOfV p.2)) else none) ps cells

noncomputable def aeqF (C : Ctx) (eq : TypeId → Value → Value → Option Bool) (xs ys : List Value) (fs : List Field) : Option Bool :=
  List.rec (motive := fun _ => Option Bool) (some true)
    (fun f _ ih => match apart C f.type xs f.offset, apart C f.type ys f.offset with
      | some u, some v => match eq f.type u v with
        | some true => ih
        | some false => some false
        | none => none
      | _, _ => none) fs
/-- Are two values equal, by a type: what hangs on no memory. 'hp': of two pointers that are not nil. -/
noncomputable def aeq (C : Ctx) (hp : Addr → Addr → Option Bool) : Nat → TypeId → Value → Value → Option Bool
  | 0, _, _, _ => none
  | d + 1, t, x, y => match C.ti t with
    | none => none
    | some i => match i.desc, x, y with
      | .bool, .bool a, .bool b => some (a == b)
      | .int _, .int j a, .int k b => bif kindEq j k then some (ieq a b) else none
      | .string, .string a, .string b => some (strEq a b)
      | .pointer _, .pointer none, .pointer b => some b.isNone
      | .pointer _, .pointer (some _), .pointer none => some false
      | .pointer e, .pointer (some a), .pointer (some b) => match C.ti e with
        | some j => bif Nat.beq j.size 0 then none else hp a b
        | none => none
      | .interface _, .nilIface, .nilIface => some true
      | .interface _, .nilIface, .iface _ _ => some false
      | .interface _, .iface _ _, .nilIface => some false
      | .interface _, .iface tx vx, .iface ty vy =>
        bif Nat.beq tx ty then (match C.ti tx with
          | some j => bif j.cmp then aeq C hp d tx vx vy else none
          | none => none) else some false
      | .struct fs, .agg ⟨xs⟩, .agg ⟨ys⟩ => bif i.held then none else aeqF C (aeq C hp d) xs ys fs.toList
      | .slice _, .slice none _ _, .slice b _ _ => some b.isNone
      | .slice _, .slice (some _) _ _, .slice none _ _ => some false
      | .map _ _, .map none, .map b => some b.isNone
      | .map _ _, .map (some _), .map none => some false
      | .func _ _ _, .nilFunc, .nilFunc => some true
      | .func _ _ _, .nilFunc, .func _ _ _ => some false
      | .func _ _ _, .func _ _ _, .nilFunc => some false
      | _, _, _ => none
def isConstO : Operand → Bool
  | .const _ => true
  | _ => false
noncomputable def aguard (C : Ctx) (t : TypeId) (cst : Bool) (x y : Value) : Bool := match x, y with
  | .nilIface, .nilIface => cst
  | .agg _, .agg _ => match C.ti t with
    | some i => !i.guard
    | none => false
  | _, _ => true
def isJ : Value → Bool
  | .chan _ => true
  | _ => false
noncomputable def abin (C : Ctx) (hp : Addr → Addr → Option Bool) (op : BinOp) (t : TypeId) (cst : Bool) (x y : Value) : Option Value :=
  match x, y with
  | .int j a, .int k b => bif kindEq j k then aint op j a b else none
  | .string a, .string b => astr op a b
  | x, y => bif isJ x || isJ y then none else match op with
    | .eql => bif aguard C t cst x y then (match aeq C hp 6 t x y with | some r => some (.bool r) | none => none) else none
    | .neq => bif aguard C t cst x y then (match aeq C hp 6 t x y with | some r => some (.bool (!r)) | none => none) else none
    | _ => none

/-- A bound of a slice expression. -/
def abound (v : Value) (m : Nat) : Option Nat := match v with
  | .int _ (.ofNat n) => bif Nat.ble n m then some n else none
  | _ => none
def aboundO (v : Option Value) (m d : Nat) : Option Nat := match v with
  | none => some d
  | some v => abound v m
noncomputable def asliceSl (size : Nat) (a : Option Addr) (len cap : Nat) (lo hi mx : Option Value) : Option Value :=
  match mx with
  | none => match aboundO hi cap len with
    | none => none
    | some h => match aboundO lo h 0 with
      | none => none
      | some l => match a with
        | none => some (.slice none (h - l) (cap - l))
        | some ⟨b, o, none⟩ => some (.slice (some ⟨b, bif Nat.beq cap l then o else o + l * size, none⟩) (h - l) (cap - l))
        | some ⟨b, o, some s⟩ => bif (Nat.beq cap l && !(Nat.beq l 0)) || !(Nat.ble l cap) then (bif Nat.beq cap l then some (.slice (some ⟨0, 0, none⟩) (h - l) 0) else none) else some (.slice (some ⟨b, o + l * size, some s⟩) (h - l) (cap - l))
  | some v => match abound v cap with
    | none => none
    | some m => match hi with
      | none => none
      | some hv => match abound hv m with
        | none => none
        | some h => match aboundO lo h 0 with
          | none => none
          | some l => match a with
            | none => some (.slice none (h - l) (m - l))
            | some ⟨b, o, _⟩ => some (.slice (some ⟨b, bif Nat.beq m l then o else o + l * size, none⟩) (h - l) (m - l))
noncomputable def aslice (C : Ctx) (t : TypeId) (x : Value) (lo hi mx : Option Value) : Option Value :=
  match C.ti t with
  | none => none
  | some i => match i.desc, x with
    | .slice e, .slice a len cap => match C.ti e with
      | some j => asliceSl j.size a len cap lo hi mx
      | none => none
    | .string, .string s => match mx, aboundO hi s.size s.size with
      | none, some h => match aboundO lo h 0 with
        | some l => some (.string (s.extract l h))
        | none => none
      | _, _ => none
    | .array n e, .pointer (some ⟨b, o, none⟩) => match C.ti e with
      | some j => asliceSl j.size (some ⟨b, o, none⟩) n n lo hi mx
      | none => none
    | _, _ => none

def hasAll (want : Array (String × TypeId)) (got : Array Method) : Bool := want.toList.all fun x => got.toList.any fun m => m.name == x.1 && m.sig == x.2
noncomputable def aassert (C : Ctx) (x : Value) (asserted : TypeId) (ok : Bool) : Option Value :=
  match C.ti asserted with
  | none => none
  | some i => match i.desc, x with
    | .interface _, .nilIface => bif ok then some (.tuple ⟨[i.zval, .bool false]⟩) else none
    | .interface want, .iface t v => match C.ti t with
      | none => none
      | some j => bif hasAll want j.methods then (bif ok then some (.tuple ⟨[.iface t v, .bool true]⟩) else some (.iface t v))
        else (bif ok then some (.tuple ⟨[i.zval, .bool false]⟩) else none)
    | _, .nilIface => bif ok then some (.tuple ⟨[i.zval, .bool false]⟩) else none
    | _, .iface t v => bif Nat.beq t asserted then (bif ok then some (.tuple ⟨[v, .bool true]⟩) else some v)
        else (bif ok then some (.tuple ⟨[i.zval, .bool false]⟩) else none)
    | _, _ => none

/-- What hangs on values alone. -/
noncomputable def apure (C : Ctx) (ev : Operand → Value) (o : Op) : Option Value :=
  match o with
  | .move x => some (ev x)
  | .assign x => some (ev x)
  | .pick c a b => match ev c with
    | .bool true => some (ev a)
    | .bool false => some (ev b)
    | _ => none
  | .build t ps => match C.ti t with
    | none => none
    | some i => match i.desc with
      | .struct _ => match afill (fun k => i.places[k]?) i.zero (ps.toList.map fun p => (p.1, ev p.2)) with
        | some l => some (.agg ⟨l⟩)
        | none => none
      | .array _ e => match C.ti e with
        | none => none
        | some j => match afill (fun k => some (k * j.size, j.size)) i.zero (ps.toList.map fun p => (p.1, ev p.2)) with
          | some l => some (.agg ⟨l⟩)
          | none => none
      | _ => none
  | .nilCheck x => match ev x with
    | .pointer (some a) => some (.pointer (some a))
    | .func (.func f) a b => some (.func (.func f) a b)
    | _ => none
  | .binOp op t x y _ => abin C (fun _ _ => none) op t (isConstO x || isConstO y) (ev x) (ev y)
  | .unOp op _ x => match op, ev x with
    | .neg, .int k n => some (.int k (awrap k (Int.sub 0 n)))
    | .not, .bool b => some (.bool (!b))
    | _, _ => none
  | .convert s d x => match C.ti s, C.ti d with
    | some _, some j => match j.desc, ev x with
      | .int k, .int _ n => some (.int k (awrap k n))
      | .string, .string b => some (.string b)
      | _, _ => none
    | _, _ => none
  | .makeInterface t x => match C.ti t with
    | none => none
    | some i => match i.desc with
      | .interface _ => none
      | _ => some (.iface t (ev x))
  | .makeFunc fn a b => match fn with
    | .func f => some (.func (.func f) ⟨a.toList.map ev⟩ ⟨b.toList.map ev⟩)
    | _ => none
  | .fieldAddr t x f => match C.ti t, ev x with
    | some i, .pointer (some ⟨b, o, none⟩) => match i.desc, i.places[f]? with
      | .struct _, some (off, size) => bif Nat.beq size 0 then none else some (.pointer (some ⟨b, o + off, none⟩))
      | _, _ => none
    | _, _ => none
  | .field t x f => match C.ti t, ev x with
    | some i, .agg ⟨cs⟩ => match i.desc with
      | .struct fs => match fs[f]? with
        | some fd => apart C fd.type cs fd.offset
        | none => none
      | _ => none
    | _, _ => none
  | .indexAddr t x ix => match C.ti t, ev ix with
    | some i, .int _ (.ofNat n) => match i.desc, ev x with
      | .slice e, .slice (some ⟨b, o, _⟩) len _ => match C.ti e with
        | some j => bif Nat.blt n len then some (.pointer (some ⟨b, o + n * j.size, none⟩)) else none
        | none => none
      | .array len e, .pointer (some ⟨b, o, none⟩) => match C.ti e with
        | some j => bif Nat.blt n len then some (.pointer (some ⟨b, o + n * j.size, none⟩)) else none
        | none => none
      | _, _ => none
    | _, _ => none
  | .index t x ix => match C.ti t, ev ix with
    | some i, .int _ (.ofNat n) => match i.desc, ev x with
      | .string, .string s => match s.data.toList[n]? with
        | some b => some (.int .u8 b.toNat)
        | none => none
      | .array len e, .agg ⟨cs⟩ => match C.ti e with
        | some j => bif Nat.blt n len then apart C e cs (n * j.size) else none
        | none => none
      | _, _ => none
    | _, _ => none
  | .typeAssert x _ t ok => aassert C (ev x) t ok
  | .extract x ix => match ev x with
    | .tuple ⟨vs⟩ => vs[ix]?
    | _ => none
  | .call c => match c.callee with
    | .builtin .len => match c.args.toList, c.argTypes.toList with
      | [x], [t] => match C.ti t with
        | none => none
        | some i => match i.desc, ev x with
          | .slice _, .slice _ n _ => some (.int .i64 (.ofNat n))
          | .string, .string s => some (.int .i64 (.ofNat s.data.toList.length))
          | .array n _, _ => some (.int .i64 (.ofNat n))
          | .map _ _, .map none => some (.int .i64 0)
          | _, _ => none
      | _, _ => none
    | .builtin .min => match c.args.toList with
      | [x, y] => match ev x, ev y with
        | .int k a, .int _ b => some (.int k (bif ilt b a then b else a))
        | _, _ => none
      | _ => none
    | .builtin .max => match c.args.toList with
      | [x, y] => match ev x, ev y with
        | .int k a, .int _ b => some (.int k (bif ilt a b then b else a))
        | _, _ => none
      | _ => none
    | _ => none
  | _ => none

/-! ### What reads the heap -/
noncomputable def acells (b : Blk) (o : Nat) : Nat → List Value :=
  Nat.rec (motive := fun _ => List Value) [] (fun n ih => ih ++ [b.cell (o + n)])
/-- (from the front, so that the kernel's terms stay small) -/
noncomputable def acellsF (b : Blk) (n : Nat) : Nat → List Value :=
  Nat.rec (motive := fun _ => Nat → List Value) (fun _ => []) (fun _ ih o => b.cell o :: ih (Nat.succ o)) n
def akeyEq (d : TypeDesc) (a b : Value) : Option Bool := match d, a, b with
  | .int _, .int j x, .int k y => bif kindEq j k then some (ieq x y) else none
  | .string, .string x, .string y => some (strEq x y)
  | .bool, .bool x, .bool y => some (x == y)
  | _, _, _ => none
noncomputable def afind (d : TypeDesc) (k : Value) (es : List (Value × Value)) : Nat → Option (Option (Nat × Value)) :=
  List.rec (motive := fun _ => Nat → Option (Option (Nat × Value))) (fun _ => some none)
    (fun e _ ih i => match akeyEq d k e.1 with
      | some true => some (some (i, e.2))
      | some false => ih (Nat.succ i)
      | none => none) es
def isKeyD (d : TypeDesc) (k : Value) : Bool := match d, k with
  | .int _, .int _ _ | .string, .string _ | .bool, .bool _ => true
  | _, _ => false
noncomputable def aptrEq (H : AH) (a b : Addr) : Option Bool := match a, b with
  | ⟨x, o, none⟩, ⟨y, p, none⟩ => match H.get x, H.get y with
    | some (.cells k), some (.cells l) => bif k.ro || l.ro then none else some (bif Nat.beq x y then Nat.beq o p else false)
    | _, _ => none
  | _, _ => none
noncomputable def alive (H : AH) (v : Value) : Bool := match v with
  | .slice none _ _ | .string _ => true
  | .slice (some ⟨b, _, _⟩) _ _ | .pointer (some ⟨b, _, none⟩) => match H.get b with
    | some (.cells _) => true
    | _ => false
  | _ => false
noncomputable def abytes (l : List Value) : Option (List Int) :=
  List.rec (motive := fun _ => Option (List Int)) (some []) (fun v _ ih => match v with
    | .int .u8 n => match ih with
      | some ns => some (n :: ns)
      | none => none
    | _ => none) l
def strOfBytes (ns : List Int) : ByteArray := ⟨⟨ns.map fun n => UInt8.ofNat n.toNat⟩⟩
def isU8 : TypeDesc → Bool
  | .int .u8 => true
  | _ => false
noncomputable def aread (C : Ctx) (ev : Operand → Value) (o : Op) (H : AH) : Option Value :=
  match o with
  | .slice t x lo hi mx => bif alive H (ev x) then aslice C t (ev x) (lo.map ev) (hi.map ev) (mx.map ev) else none
  | .convert src dst x => match C.ti src, C.ti dst with
    | some i, some j => match i.desc, j.desc with
      | .slice e, .string => match C.ti e, ev x with
        | some ei, .slice none 0 _ => bif isU8 ei.desc then some (.string (strOfBytes [])) else none
        | some ei, .slice (some ⟨b, o, _⟩) n _ => bif isU8 ei.desc then (match H.get b with
          | some (.cells k) => bif Nat.ble (o + n) k.n then (match abytes (acellsF k n o) with
            | some ns => some (.string (strOfBytes ns))
            | none => none) else none
          | _ => none) else none
        | _, _ => none
      | _, _ => none
    | _, _ => none
  | .load t x => match ev x, C.ti t with
    | .pointer (some ⟨b, o, none⟩), some i => match H.get b with
      | some (.cells k) => bif i.agg then (bif Nat.ble (o + i.size) k.n then some (.agg ⟨acellsF k i.size o⟩) else none)
          else (bif Nat.blt o k.n then some (k.cell o) else none)
      | _ => none
    | _, _ => none
  | .lookup t x ix ok => match C.ti t with
    | none => none
    | some i => match i.desc with
      | .map kt et => match C.ti kt, C.ti et with
        | some ki, some ei => bif isKeyD ki.desc (ev ix) then (match ev x with
          | .map none => bif ok then some (.tuple ⟨[ei.zval, .bool false]⟩) else some ei.zval
          | .map (some r) => match H.get r with
            | some (.map es) => match afind ki.desc (ev ix) es 0 with
              | some (some (_, v)) => bif ok then some (.tuple ⟨[v, .bool true]⟩) else some v
              | some none => bif ok then some (.tuple ⟨[ei.zval, .bool false]⟩) else some ei.zval
              | none => none
            | _ => none
          | _ => none) else none
        | _, _ => none
      | _ => none
  | .binOp op t x y _ => abin C (aptrEq H) op t (isConstO x || isConstO y) (ev x) (ev y)
  | .call c => match c.callee with
    | .builtin .len => match c.args.toList, c.argTypes.toList with
      | [x], [t] => match C.ti t with
        | none => none
        | some i => match i.desc, ev x with
          | .map _ _, .map (some r) => match H.get r with
            | some (.map es) => some (.int .i64 (.ofNat es.length))
            | _ => none
          | _, _ => none
      | _, _ => none
    | .builtin .cap => match c.args.toList, c.argTypes.toList with
      | [x], [t] => match C.ti t with
        | none => none
        | some i => bif alive H (ev x) then (match i.desc, ev x with
          | .slice _, .slice none _ n => some (.int .i64 (.ofNat n))
          | .slice _, .slice (some ⟨_, _, none⟩) _ n => some (.int .i64 (.ofNat n))
          | _, _ => none) else none
      | _, _ => none
    | _ => none
  | _ => none

/-! ### What makes one new block: the block, and the value, given its number -/
inductive NewV where
  | ptr
  | slice (len cap : Nat)
  | map
def NewV.val (v : NewV) (b : Nat) : Value := match v with
  | .ptr => .pointer (some ⟨b, 0, none⟩)
  | .slice l c => .slice (some ⟨b, 0, none⟩) l c
  | .map => .map (some b)
noncomputable def afillT (size n : Nat) (ps : List (Nat × Value)) : T Value → Option (T Value) :=
  List.rec (motive := fun _ => T Value → Option (T Value)) (fun t => some t)
    (fun p _ ih t => bif someCells p.2 size && Nat.ble (p.1 * size + size) n then ih (T.lay (cellsOfV p.2) t (p.1 * size)) else none) ps
noncomputable def aalloc (C : Ctx) (ev : Operand → Value) (o : Op) : Option (AObj × NewV) :=
  match o with
  | .alloc t => match C.ti t with
    | some i => some (.cells { n := i.zero.length, sz := 1, tr := .leaf, zero := i.zero }, .ptr)
    | none => none
  | .box _ x => bif Nat.blt 0 (cellsOfV (ev x)).length then some (.cells { n := (cellsOfV (ev x)).length, sz := 1, tr := .leaf, zero := cellsOfV (ev x) }, .ptr) else none
  | .buildSlice t len ps => match C.ti t with
    | none => none
    | some i => match i.desc with
      | .slice e => match C.ti e with
        | none => none
        | some j => bif Nat.ble (len * j.size) 16777216 && Nat.beq j.zero.length j.size then
            (match afillT j.size (len * j.size) (ps.toList.map fun p => (p.1, ev p.2)) .leaf with
              | some tr => some (.cells { n := len * j.size, sz := j.size, tr := tr, zero := j.zero }, .slice len len)
              | none => none) else none
      | _ => none
  | .makeSlice t l c => match C.ti t, ev l, ev c with
    | some i, .int _ (.ofNat l), .int _ (.ofNat c) => match i.desc with
      | .slice e => match C.ti e with
        | none => none
        | some j => bif Nat.ble l c && Nat.ble (j.bytes * c) 140737488355328 && Nat.ble c 140737488355328 && Nat.beq j.zero.length j.size then
            some (.cells { n := c * j.size, sz := j.size, tr := .leaf, zero := j.zero }, .slice l c) else none
      | _ => none
    | _, _, _ => none
  | .makeMap t r => match C.ti t with
    | none => none
    | some i => match i.desc, r with
      | .map _ _, none => some (.map [], .map)
      | .map _ _, some x => match ev x with
        | .int _ _ => some (.map [], .map)
        | _ => none
      | _, _ => none
  | _ => none

/-! ### What changes a block -/
def oneCellV : Value → Bool
  | .agg _ | .tuple _ | .chan _ => false
  | _ => true
noncomputable def astoreAt (H : AH) (b o : Nat) (vs : List Value) : Option AH := match H.get b with
  | some (.cells k) => bif Nat.ble (o + vs.length) k.n && vs.all oneCellV && !k.ro then some (H.set b (.cells { k with tr := T.lay vs k.tr o })) else none
  | _ => none
noncomputable def setNth (es : List (Value × Value)) (i : Nat) (k v : Value) : List (Value × Value) := es.take i ++ (k, v) :: es.drop (i + 1)
/-- The first cells of what is appended or copied. -/
noncomputable def asrc (size n : Nat) (H : AH) (v : Value) : Option (List Value) := match v with
  | .slice none _ _ => some []
  | .slice (some ⟨b, o, _⟩) _ _ => bif Nat.beq n 0 then some [] else match H.get b with
    | some (.cells k) => bif Nat.ble (o + n * size) k.n then some (acellsF k (n * size) o) else none
    | _ => none
  | .string s => bif Nat.ble n s.data.toList.length then some ((s.data.toList.take n).map fun b => .int .u8 b.toNat) else none
  | _ => none
def alenOf : Value → Option Nat
  | .slice _ n _ => some n
  | .string s => some s.data.toList.length
  | _ => none
/-- 'append': 'new' are the cells that come, of m elements. -/
noncomputable def aappend (j : TI) (H : AH) (s : Value) (m : Nat) (new : List Value) : Option (Value × AH) :=
  bif Nat.beq j.zero.length j.size && Nat.blt 0 j.bytes && Nat.beq new.length (m * j.size) then
  (match s with
  | .slice none len cap =>
    bif Nat.ble (len + m) cap then (bif Nat.beq m 0 then some (.slice none len cap, H) else none) else
    bif Nat.beq len 0 && Nat.beq cap 0 && Nat.ble (m * j.bytes) 140737488355328 then
      some (.slice (some ⟨H.next, 0, some 0⟩) m m, H.push (.cells { n := m * j.size, sz := j.size, tr := T.lay new .leaf 0, zero := j.zero })) else none
  | .slice (some ⟨b, o, sp⟩) len cap => match H.get b with
    | some (.cells k) =>
      bif Nat.ble (len + m) cap then
        bif k.ro then (bif Nat.beq m 0 then some (.slice (some ⟨b, o, sp⟩) len cap, H) else none) else
        (bif Nat.ble (o + (len + m) * j.size) k.n && new.all oneCellV then some (.slice (some ⟨b, o, sp⟩) (len + m) cap, H.set b (.cells { k with tr := T.lay new k.tr (o + len * j.size) })) else none)
      else bif Nat.ble ((len + m) * j.bytes) 140737488355328 && Nat.ble (o + len * j.size) k.n && Nat.ble len cap then
        (match sp with
        | none => some (.slice (some ⟨H.next, 0, some 0⟩) (len + m) (len + m), H.push (.cells { n := (len + m) * j.size, sz := j.size, tr := T.lay (acellsF k (len * j.size) o ++ new) .leaf 0, zero := j.zero }))
        | some _ => bif Nat.beq k.sz j.size && Nat.beq k.n (o + cap * j.size) && new.all oneCellV && !k.ro then
            some (.slice (some ⟨H.next, 0, some 0⟩) (len + m) (len + m), (H.kill b).push (.cells { n := (len + m) * j.size, sz := j.size, tr := T.lay (acellsF k (len * j.size) o ++ new) .leaf 0, zero := j.zero })) else none)
      else none
    | _ => none
  | _ => none) else none
noncomputable def aeff (C : Ctx) (ev : Operand → Value) (o : Op) (H : AH) : Option (Value × AH) :=
  match o with
  | .store t a x => match ev a, C.ti t with
    | .pointer (some ⟨b, o, none⟩), some i => bif someCells (ev x) i.size then
        (match astoreAt H b o (cellsOfV (ev x)) with | some H' => some (undef, H') | none => none) else none
    | _, _ => none
  | .mapUpdate t m k x | .insert t m k x => match C.ti t, ev m with
    | some i, .map (some r) => match i.desc, H.get r with
      | .map kt _, some (.map es) => match C.ti kt with
        | some ki => bif isKeyD ki.desc (ev k) then (match afind ki.desc (ev k) es 0 with
          | some (some (i, _)) => some (undef, H.set r (.map (setNth es i (ev k) (ev x))))
          | some none => some (undef, H.set r (.map (es ++ [(ev k, ev x)])))
          | none => none) else none
        | none => none
      | _, _ => none
    | _, _ => none
  | .call c => match c.callee with
    | .builtin .append => match c.args.toList, c.argTypes.toList with
      | [x, y], [t, u] => match C.ti t, C.ti u with
        | some i, some ui => match i.desc with
          | .slice e => match C.ti e with
            | none => none
            | some j => match ui.desc, ev y with
              | .int _, .int _ (.ofNat m) => bif Nat.ble (m * j.bytes) 140737488355328 && Nat.ble m 140737488355328 && Nat.beq j.zero.length j.size then
                  aappend j H (ev x) m ((List.replicate m j.zero).flatten) else none
              | .int _, _ => none
              | _, v => match alenOf v with
                | none => none
                | some m => match asrc j.size m H v with
                  | some new => aappend j H (ev x) m new
                  | none => none
          | _ => none
        | _, _ => none
      | _, _ => none
    | .builtin .delete => match c.args.toList, c.argTypes.toList with
      | [m, k], t :: _ => match C.ti t, ev m with
        | some i, .map (some r) => match i.desc, H.get r with
          | .map kt _, some (.map es) => match C.ti kt with
            | some ki => bif isKeyD ki.desc (ev k) then (match afind ki.desc (ev k) es 0 with
              | some (some (i, _)) => some (.tuple ⟨[]⟩, H.set r (.map (es.take i ++ es.drop (i + 1))))
              | some none => some (.tuple ⟨[]⟩, H.set r (.map es))
              | none => none) else none
            | none => none
          | _, _ => none
        | _, _ => none
      | _, _ => none
    | .builtin .copy => match c.args.toList, c.argTypes.toList with
      | [x, y], t :: _ => match C.ti t with
        | some i => match i.desc, ev x, alenOf (ev y) with
          | .slice e, .slice a dl _, some sl => match C.ti e with
            | some j => match asrc j.size (Nat.min sl dl) H (ev y) with
              | some vs => match a with
                | none => some (.int .i64 (.ofNat (Nat.min sl dl)), H)
                | some ⟨b, o, _⟩ => match astoreAt H b o vs with
                  | some H' => some (.int .i64 (.ofNat (Nat.min sl dl)), H')
                  | none => none
              | none => none
            | none => none
          | _, _, _ => none
        | none => none
      | _, _ => none
    | _ => none
  | _ => none
end Go.Eng
