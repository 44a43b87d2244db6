/- The engine: code, regions, calls. -/
import Derived.Test.YtcnamndapofimaaGreatDoorEngB
namespace Go.Eng
open Go

noncomputable def aev (tm : T Value) (x : Operand) : Value := match x with
  | .tmp t => tget tm t
  | .const v => bif closedV 4 v then v else junk
  | .global _ => junk
  | .func f => .func (.func f) ⟨[]⟩ ⟨[]⟩

inductive ADef where
  | call (f : FuncId) (args : List Value)
  | mark (b : Nat)
structure AFr where
  tm : T Value
  n : Nat
  ds : List ADef
  rnd : Option Nat
inductive AExit where
  | normal
  | exit (id : Nat)
  | ret
inductive Out where
  | ok (e : AExit) (fr : AFr) (H : AH)
  | bad (why : List Nat)
inductive CRes where
  | ok (v : Value) (H : AH)
  | bad (why : List Nat)

/-! ### Whom a call calls -/
inductive ATgt where
  | fn (f : FuncId) (args : List Value)
  | round (l : Nat) (args : List Value)
noncomputable def acallee (C : Ctx) (ev : Operand → Value) (c : Call) : Option ATgt :=
  match c.callee with
  | .value f => match ev f with
    | .func (.func g) ⟨first⟩ ⟨cap⟩ => some (.fn g ((first ++ c.args.toList.map ev) ++ cap))
    | .func (.yield l) ⟨[]⟩ ⟨[]⟩ => some (.round l (c.args.toList.map ev))
    | _ => none
  | .invoke r m => match ev r with
    | .iface t v => match C.ti t with
      | none => none
      | some i => match i.methods.toList.find? fun x => x.name == m with
        | some x => match x.path.toList, x.func, i.desc with
          | [], some (g, true), .pointer _ => some (.fn g (v :: c.args.toList.map ev))
          | [], some (_, true), _ => none
          | [], some (_, false), .pointer _ => none
          | [], some (g, false), _ => some (.fn g (v :: c.args.toList.map ev))
          | _, _, _ => none
        | none => none
    | _ => none
  | .builtin _ => none

noncomputable def tset (n : Nat) (tm : T Value) (d : Option Tmp) (v : Value) : T Value := match d with
  | some d => bif Nat.blt d n then tm.set d v else tm
  | none => tm
def opBool (v : Value) : Option Bool := match v with
  | .bool b => some b
  | _ => none
/-- Is the operation to be done? none: that cannot be told. -/
noncomputable def awanted (ops : List Oper) (o : Oper) (n : Nat) (tm : T Value) : Option Bool := match o.guard with
  | none => some true
  | some (j, want) => match ops[j]? with
    | some g => match g.dst with
      | some d => bif Nat.blt d n then (match tget tm d with
        | .bool b => some (b == want)
        | .tuple ⟨[]⟩ => some false
        | _ => none) else none
      | none => none
    | none => none

/-! ### A function's body behind its code -/
noncomputable def aload (C : Ctx) (t : TypeId) (v : Value) (H : AH) : Option Value := aread C (fun _ => v) (.load t (.tmp 0)) H
noncomputable def aresList (C : Ctx) (tm : T Value) (H : AH) (l : List ResultVar) : Option (List Value) :=
  List.rec (motive := fun _ => Option (List Value)) (some [])
    (fun r _ ih => match ih with
      | none => none
      | some vs => match r with
        | .tmp t => some (tget tm t :: vs)
        | .cell a t => match aload C t (tget tm a) H with
          | some v => some (v :: vs)
          | none => none) l
noncomputable def aresults (C : Ctx) (fn : Func) (tm : T Value) (H : AH) : Option Value := match aresList C tm H fn.results.toList with
  | none => none
  | some [v] => some v
  | some vs => some (.tuple ⟨vs⟩)

section
variable (C : Ctx) (ih : Code → AFr → AH → Out)
noncomputable def abody (f : FuncId) (args : List Value) (H : AH) : Out := match C.fn f with
  | none => .bad [90000 + f]
  | some fn => match fn.body with
    | none => .bad [80000 + f]
    | some c => ih c { tm := T.lay args .leaf 0, n := Nat.max args.length fn.ntmps, ds := [], rnd := none } H
/-- A deferred call: it defers nothing itself. -/
noncomputable def adeferred (f : FuncId) (args : List Value) (H : AH) : Option AH := match abody C ih f args H with
  | .ok (.exit _) _ _ => none
  | .ok _ fr H1 => match fr.ds, C.fn f with
    | [], some fn => match aresults C fn fr.tm H1 with
      | some _ => some H1
      | none => none
    | _, _ => none
  | .bad _ => none
noncomputable def adefers (ds : List ADef) : AH → Option AH :=
  List.rec (motive := fun _ => AH → Option AH) (fun H => some H)
    (fun d _ rest H => match d with
      | .mark b => match H.get b with
        | some (.deferred true) => rest (H.set b (.deferred false))
        | _ => none
      | .call f args => match adeferred C ih f args H with
        | some H1 => rest H1
        | none => none) ds
noncomputable def afunB (f : FuncId) (args : List Value) (H : AH) : CRes := match abody C ih f args H with
  | .bad l => .bad (l ++ [f])
  | .ok (.exit _) _ _ => .bad [70001, f]
  | .ok _ fr H1 => match adefers C ih fr.ds H1, C.fn f with
    | some H2, some fn => match aresults C fn fr.tm H2 with
      | some v => .ok v H2
      | none => .bad [70003, f]
    | _, _ => .bad [70002, f]
noncomputable def afun (f : FuncId) (args : List Value) (H : AH) : CRes := match C.hook f args H with
  | some (.ret v H') => .ok v H'
  | some (.call g as) => afunB C ih g as H
  | none => afunB C ih f args H

/-! ### A round of a loop over a function -/
noncomputable def layP (n : Nat) (ps : List Tmp) (args : List Value) (tm : T Value) : T Value :=
  List.rec (motive := fun _ => List Value → T Value → T Value) (fun _ tm => tm)
    (fun p _ ih args tm => match args with
      | [] => tm
      | a :: args => ih args (tset n tm (some p) a)) ps args tm
noncomputable def around (l : Nat) (args : List Value) (H : AH) : CRes := match H.get l with
  | some (.loop r) => bif Nat.beq args.length r.params.size then
      (match ih r.assign { tm := layP r.n r.params.toList args r.tm, n := r.n, ds := [], rnd := some l } H with
        | .ok .normal fr H1 => match H1.get l with
          | some (.loop r1) => match r1.st with
            | .ready => match ih r.body { tm := fr.tm, n := fr.n, ds := fr.ds, rnd := some l } (H1.set l (.loop { r1 with st := .busy })) with
              | .ok e _ H2 => match H2.get l with
                | some (.loop r2) => match e with
                  | .normal => .ok (.bool true) (H2.set l (.loop { r2 with st := .ready, pending := none }))
                  | .exit id => .ok (.bool false) (H2.set l (.loop { r2 with st := .done, pending := some (.exit id) }))
                  | .ret => .ok (.bool false) (H2.set l (.loop { r2 with st := .done, pending := some .ret }))
                | _ => .bad [60004]
              | .bad w => .bad (60000 :: w)
            | _ => .bad [60003]
          | _ => .bad [60002]
        | .ok _ _ _ => .bad [60001]
        | .bad w => .bad (60000 :: w)) else .bad [60005]
  | _ => .bad [60006]
noncomputable def acall (ev : Operand → Value) (c : Call) (H : AH) : CRes := match acallee C ev c with
  | none => .bad [50000]
  | some (.fn f args) => afun C ih f args H
  | some (.round l args) => around ih l args H

/-! ### Operations one behind the other -/
noncomputable def aopV (ev : Operand → Value) (o : Op) (H : AH) : CRes := match apure C ev o with
  | some v => .ok v H
  | none => match aread C ev o H with
    | some v => .ok v H
    | none => match aalloc C ev o with
      | some (obj, nv) => .ok (nv.val H.next) (H.push obj)
      | none => match aeff C ev o H with
        | some (v, H') => .ok v H'
        | none => match o with
          | .call c => acall C ih ev c H
          | _ => .bad [40000]
def isRecover (o : Op) : Bool := match o with
  | .call c => match c.callee with
    | .builtin .recover => true
    | _ => false
  | _ => false
noncomputable def aoper (o : Oper) (fr : AFr) (H : AH) : Out := match o.op with
  | .defer c => match fr.rnd, acallee C (aev fr.tm) c with
    | none, some (.fn f args) => .ok .normal { fr with tm := tset fr.n fr.tm o.dst undef, ds := .call f args :: fr.ds } H
    | _, _ => .bad [40001]
  | op => bif isRecover op then (match fr.rnd with
      | none => .ok .normal { fr with tm := tset fr.n fr.tm o.dst .nilIface } H
      | some _ => .bad [40002])
    else match aopV C ih (aev fr.tm) op H with
      | .ok v H1 => .ok .normal { fr with tm := tset fr.n fr.tm o.dst v } H1
      | .bad w => .bad w
noncomputable def aseq (all : List Oper) (l : List Oper) : Nat → AFr → AH → Out :=
  List.rec (motive := fun _ => Nat → AFr → AH → Out) (fun _ fr H => .ok .normal fr H)
    (fun o _ rest i fr H => match awanted all o fr.n fr.tm with
      | none => .bad [40003, i]
      | some false => rest (Nat.succ i) { fr with tm := tset fr.n fr.tm o.dst undef } H
      | some true => match aoper C ih o fr H with
        | .ok _ fr1 H1 => rest (Nat.succ i) fr1 H1
        | .bad w => .bad (w ++ [30000 + i])) l

/-! ### Operations whose order is open -/
def isEff (o : Op) : Bool := match o with
  | .store _ _ _ | .mapUpdate _ _ _ _ | .insert _ _ _ _ => true
  | .call c => match c.callee with
    | .builtin .len | .builtin .cap | .builtin .min | .builtin .max => false
    | _ => true
  | _ => false
noncomputable def bmask (acc : List Nat) (o : Oper) : Nat :=
  List.rec (motive := fun _ => Nat) 0 (fun (e : Edge) _ ih => bif Region.binds .any e then ih ||| 2 ^ e.on ||| acc.getD e.on 0 else ih) o.after.toList
noncomputable def bmasks (l : List Oper) : List Nat → List Nat :=
  List.rec (motive := fun _ => List Nat → List Nat) (fun acc => acc) (fun o _ ih acc => ih (acc ++ [bmask acc o])) l
def ready (done : Nat) (o : Oper) : Bool := o.after.toList.all fun e => !Region.binds .any e || done.testBit e.on
/-- The order in which the engine takes them: what changes the heap as late as can be. -/
def pickNext (done : Nat) (eff : Bool) : List Oper → Nat → Option Nat
  | [], _ => none
  | o :: l, i => bif !done.testBit i && ready done o && (isEff o.op == eff) then some i else pickNext done eff l (Nat.succ i)
def canonGo (ops : List Oper) : Nat → Nat → List Nat
  | 0, _ => []
  | f + 1, done => match pickNext done false ops 0 with
    | some i => i :: canonGo ops f (done ||| 2 ^ i)
    | none => match pickNext done true ops 0 with
      | some i => i :: canonGo ops f (done ||| 2 ^ i)
      | none => []
def canon (ops : List Oper) : List Nat := canonGo ops ops.length 0
def opTmps (l : List Operand) : List Tmp := l.filterMap fun | .tmp t => some t | _ => none
def readsOf (all : List Oper) (o : Oper) : List Tmp := opTmps o.op.operands.toList ++ (match o.guard with
  | none => []
  | some (j, _) => match all[j]? with
    | some g => g.dst.toList
    | none => [])
def inT (d : Option Tmp) (l : List Tmp) : Bool := match d with
  | none => false
  | some t => l.any fun x => Nat.beq x t
def conflict (all : List Oper) (x y : Oper) : Bool := inT x.dst (readsOf all y) || inT x.dst y.dst.toList || inT y.dst (readsOf all x)
def hasDefer (o : Op) : Bool := match o with
  | .defer _ | .select _ _ => true
  | o => isRecover o
def pairsOk (all : List Oper) (bf : List Nat) : List (Nat × Oper) → Bool
  | [] => true
  | x :: l => !hasDefer x.2.op && (l.all fun y => !(isEff x.2.op || conflict all x.2 y.2) || (bf.getD y.1 0).testBit x.1) && pairsOk all bf l
def edgesOk (l : List Oper) : Nat → Bool := match l with
  | [] => fun _ => true
  | o :: l => fun i => (o.after.toList.all fun e => !Region.binds .any e || Nat.blt e.on i) && edgesOk l (Nat.succ i)
def distinct : List Nat → Bool
  | [] => true
  | x :: l => (l.all fun y => !Nat.beq x y) && distinct l
def permOk (π : List Nat) (n : Nat) : Bool := distinct π && (List.range n).all fun i => π.any fun j => Nat.beq i j
/-- What an operation sees: its own operands alone. -/
noncomputable def dev (o : Oper) (tm : T Value) (x : Operand) : Value := match x with
  | .tmp t => bif inT (some t) (opTmps o.op.operands.toList) then tget tm t else junk
  | x => aev tm x
noncomputable def drawOk (ops : List Oper) (π : List Nat) : Bool :=
  edgesOk ops 0 && permOk π ops.length && pairsOk ops (bmasks ops []) (π.filterMap fun i => (ops[i]?).map fun o => (i, o))

inductive Kd where
  | skip
  | pure
  | read
  | alloc (obj : AObj) (nv : NewV)
  | eff
structure Rec where
  i : Nat
  o : Oper
  tm : T Value
  H : AH
  v : Value
  kd : Kd
/-- One operation: its value, the heap behind it, and of which kind it was. -/
noncomputable def adrawOp (all : List Oper) (o : Oper) (n : Nat) (tm : T Value) (H : AH) : Option (Value × AH × Kd) :=
  match awanted all o n tm with
  | none => none
  | some false => some (undef, H, .skip)
  | some true => bif isEff o.op then (match aeff C (dev o tm) o.op H with
      | some (v, H') => some (v, H', .eff)
      | none => match o.op with
        | .call c => match acall C ih (dev o tm) c H with
          | .ok v H' => some (v, H', .eff)
          | .bad _ => none
        | _ => none)
    else match apure C (dev o tm) o.op with
      | some v => some (v, H, .pure)
      | none => match aread C (dev o tm) o.op H with
        | some v => some (v, H, .read)
        | none => match aalloc C (dev o tm) o.op with
          | some (obj, nv) => some (nv.val H.next, H.push obj, .alloc obj nv)
          | none => none
noncomputable def adrawRun (all : List Oper) (n : Nat) (π : List Nat) : T Value → AH → Option (List Rec × T Value × AH) :=
  List.rec (motive := fun _ => T Value → AH → Option (List Rec × T Value × AH)) (fun tm H => some ([], tm, H))
    (fun i _ rest tm H => match all[i]? with
      | none => none
      | some o => match adrawOp C ih all o n tm H with
        | none => none
        | some (v, H1, kd) => match rest (tset n tm o.dst v) H1 with
          | some (rs, tm2, H2) => some ({ i := i, o := o, tm := tm, H := H, v := v, kd := kd } :: rs, tm2, H2)
          | none => none) π
def Kd.isEff : Kd → Bool
  | .eff => true
  | _ => false
def Kd.isRead : Kd → Bool
  | .read => true
  | _ => false
/-- Does the read q tell the same wherever it may come? 'same' compares values that were read. -/
def vsame : Nat → Value → Value → Bool
  | _, .bool a, .bool b => a == b
  | _, .int j a, .int k b => kindEq j k && ieq a b
  | _, .string a, .string b => strEq a b
  | _, .pointer none, .pointer none => true
  | _, .pointer (some ⟨a, o, none⟩), .pointer (some ⟨b, p, none⟩) => Nat.beq a b && Nat.beq o p
  | _, .slice none n c, .slice none m d => Nat.beq n m && Nat.beq c d
  | _, .slice (some ⟨a, o, none⟩) n c, .slice (some ⟨b, p, none⟩) m d => Nat.beq a b && Nat.beq o p && Nat.beq n m && Nat.beq c d
  | _, .slice (some ⟨a, o, some s⟩) n c, .slice (some ⟨b, p, some t⟩) m d => Nat.beq a b && Nat.beq o p && Nat.beq s t && Nat.beq n m && Nat.beq c d
  | _, .map none, .map none => true
  | _, .map (some a), .map (some b) => Nat.beq a b
  | _, .nilFunc, .nilFunc => true
  | _, .nilIface, .nilIface => true
  | f + 1, .iface t a, .iface u b => Nat.beq t u && vsame f a b
  | f + 1, .agg ⟨xs⟩, .agg ⟨ys⟩ => Nat.beq xs.length ys.length && (xs.zip ys).all fun p => vsame f p.1 p.2
  | f + 1, .tuple ⟨xs⟩, .tuple ⟨ys⟩ => Nat.beq xs.length ys.length && (xs.zip ys).all fun p => vsame f p.1 p.2
  | f + 1, .func (.func g) ⟨xs⟩ ⟨ys⟩, .func (.func h) ⟨zs⟩ ⟨us⟩ => Nat.beq g h && Nat.beq xs.length zs.length && Nat.beq ys.length us.length && ((xs.zip zs).all fun p => vsame f p.1 p.2) && ((ys.zip us).all fun p => vsame f p.1 p.2)
  | _, _, _ => false
noncomputable def tellsSame (q : Rec) (H : AH) : Bool := match aread C (dev q.o q.tm) q.o.op H with
  | some v => vsame 5 v q.v
  | none => false
noncomputable def stab (bf : List Nat) (HF : AH) (q : Rec) (l : List Rec) : Bool :=
  List.rec (motive := fun _ => Bool) (tellsSame C q HF)
    (fun r _ rest => bif r.kd.isEff then (tellsSame C q r.H && (bif (bf.getD r.i 0).testBit q.i then true else rest)) else rest) l
noncomputable def stabAll (bf : List Nat) (HF : AH) (l : List Rec) : Bool :=
  List.rec (motive := fun _ => Bool) true (fun q l rest => (bif q.kd.isRead then stab C bf HF q l else true) && rest) l
noncomputable def adraw (ops : List Oper) (fr : AFr) (H : AH) : Out :=
  bif drawOk ops (canon ops) then
    (match adrawRun C ih ops fr.n (canon ops) fr.tm H with
      | none => .bad [20001]
      | some (rs, tm2, H2) => bif stabAll C (bmasks ops []) H2 rs then .ok .normal { fr with tm := tm2 } H2 else .bad [20002])
  else .bad [20003]

/-! ### Code -/
noncomputable def rndOk (H : AH) (r : Option Nat) : Bool := match r with
  | none => true
  | some l => match H.get l with
    | some (.loop _) => true
    | _ => false
noncomputable def rngH (r : Option Nat) (H : AH) : AH := match r with | none => H.push (.deferred true) | some _ => H
noncomputable def rngD (r : Option Nat) (H : AH) (ds : List ADef) : List ADef := match r with | none => ADef.mark H.next :: ds | some _ => ds
noncomputable def arange (f : Operand) (ps : Array Tmp) (assign body : Code) (fr : AFr) (H : AH) : Out :=
  bif rndOk H fr.rnd then
  (let H1 := rngH fr.rnd H
  let ds := rngD fr.rnd H fr.ds
  match aev fr.tm f with
  | .func (.func g) ⟨first⟩ ⟨cap⟩ =>
    match afun C ih g ((first ++ [.func (.yield H1.next) #[] #[]]) ++ cap) (H1.push (.loop { st := .ready, pending := none, tm := fr.tm, n := fr.n, params := ps, assign := assign, body := body })) with
    | .ok _ H2 => match H2.get H1.next with
      | some (.loop r) => match r.st with
        | .busy => .bad [10001]
        | _ => match r.pending with
          | none => .ok .normal { fr with ds := ds } (H2.set H1.next (.loop { r with st := .exhausted }))
          | some (.exit id) => .ok (.exit id) { fr with ds := ds } (H2.set H1.next (.loop { r with st := .exhausted }))
          | some .ret => .ok .ret { fr with ds := ds } (H2.set H1.next (.loop { r with st := .exhausted }))
          | some _ => .bad [10002]
      | _ => .bad [10003]
    | .bad w => .bad w
  | _ => .bad [10004]) else .bad [10005]
noncomputable def engStep (c : Code) (fr : AFr) (H : AH) : Out := match c with
  | .skip => .ok .normal fr H
  | .label _ => .ok .normal fr H
  | .seq a b => match ih a fr H with
    | .ok .normal fr1 H1 => ih b fr1 H1
    | .ok e fr1 H1 => .ok e fr1 H1
    | .bad w => .bad w
  | .cond x a b => match aev fr.tm x with
    | .bool true => ih a fr H
    | .bool false => ih b fr H
    | _ => .bad [1]
  | .block id b => match ih b fr H with
    | .ok (.exit j) fr1 H1 => bif Nat.beq j id then .ok .normal fr1 H1 else .ok (.exit j) fr1 H1
    | .ok e fr1 H1 => .ok e fr1 H1
    | .bad w => .bad w
  | .loop b => match ih b fr H with
    | .ok .normal fr1 H1 => ih (.loop b) fr1 H1
    | .ok e fr1 H1 => .ok e fr1 H1
    | .bad w => .bad w
  | .scope b => ih b fr H
  | .exit id => .ok (.exit id) fr H
  | .ret => .ok .ret fr H
  | .region id ops draw => bif draw then
      (match adraw C ih ops.toList fr H with | .bad w => .bad (w ++ [id]) | r => r)
    else (match aseq C ih ops.toList ops.toList 0 fr H with | .bad w => .bad (w ++ [id]) | r => r)
  | .rangeFunc f ps assign body => arange C ih f ps assign body fr H
  | .goto _ => .bad [2]
  | .refuse _ => .bad [3]
end
noncomputable def eng (C : Ctx) (n : Nat) : Code → AFr → AH → Out :=
  Nat.rec (motive := fun _ => Code → AFr → AH → Out) (fun _ _ _ => .bad [0]) (fun _ ih => engStep C ih) n
end Go.Eng
