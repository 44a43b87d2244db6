/- The machine's steps, of whatever frame. -/
import Derived.Test.YtcnamndapofimaaGreatDoorEngJ
import Derived.Test.YtcnamndapofimaaGreatDoorEngK
import Derived.Defers
namespace Go.Eng
open Go
section
variable {P : Program} {F : Frame} {cs : List Frame} {w w' : World} {k : List Item}

theorem st_skip (hm : F.mode = .run) (ht : F.todo = .code .skip :: k) : step P (lone F cs w) = .next (lone { F with todo := k } cs w) :=
  step_lone_go (by simp [stepG, stepG.exec, hm, ht])
theorem st_label {l : Nat} (hm : F.mode = .run) (ht : F.todo = .code (.label l) :: k) : step P (lone F cs w) = .next (lone { F with todo := k } cs w) :=
  step_lone_go (by simp [stepG, stepG.exec, hm, ht])
theorem st_inBlock {l : Nat} (hm : F.mode = .run) (ht : F.todo = .inBlock l :: k) : step P (lone F cs w) = .next (lone { F with todo := k } cs w) :=
  step_lone_go (by simp [stepG, stepG.exec, hm, ht])
theorem st_inScope {b : Code} (hm : F.mode = .run) (ht : F.todo = .inScope b :: k) : step P (lone F cs w) = .next (lone { F with todo := k } cs w) :=
  step_lone_go (by simp [stepG, stepG.exec, hm, ht])
theorem st_seq {a b : Code} (hm : F.mode = .run) (ht : F.todo = .code (.seq a b) :: k) : step P (lone F cs w) = .next (lone { F with todo := .code a :: .code b :: k } cs w) :=
  step_lone_go (by simp [stepG, stepG.exec, hm, ht])
theorem st_cond {c : Operand} {a b : Code} {t : Bool} (hm : F.mode = .run) (ht : F.todo = .code (.cond c a b) :: k) (hc : F.eval c = .bool t) :
    step P (lone F cs w) = .next (lone { F with todo := .code (if t then a else b) :: k } cs w) :=
  step_lone_go (by simp [stepG, stepG.exec, hm, ht, hc])
theorem st_block {id : Nat} {b : Code} (hm : F.mode = .run) (ht : F.todo = .code (.block id b) :: k) : step P (lone F cs w) = .next (lone { F with todo := .code b :: .inBlock id :: k } cs w) :=
  step_lone_go (by simp [stepG, stepG.exec, hm, ht])
theorem st_loop {b : Code} (hm : F.mode = .run) (ht : F.todo = .code (.loop b) :: k) : step P (lone F cs w) = .next (lone { F with todo := .code b :: .inLoop b :: k } cs w) :=
  step_lone_go (by simp [stepG, stepG.exec, hm, ht])
theorem st_inLoop {b : Code} (hm : F.mode = .run) (ht : F.todo = .inLoop b :: k) : step P (lone F cs w) = .next (lone { F with todo := .code b :: .inLoop b :: k } cs w) :=
  step_lone_go (by simp [stepG, stepG.exec, hm, ht])
theorem st_scope {b : Code} (hm : F.mode = .run) (ht : F.todo = .code (.scope b) :: k) : step P (lone F cs w) = .next (lone { F with todo := .code b :: .inScope b :: k } cs w) :=
  step_lone_go (by simp [stepG, stepG.exec, hm, ht])
theorem st_exit {id : Nat} {k' : List Item} (hm : F.mode = .run) (ht : F.todo = .code (.exit id) :: k) (hk : exitTo id k = some k') : step P (lone F cs w) = .next (lone { F with todo := k' } cs w) :=
  step_lone_go (by simp [stepG, stepG.exec, hm, ht, hk])
theorem st_ret (hm : F.mode = .run) (ht : F.todo = .code .ret :: k) (hr : F.roundOf = none) : step P (lone F cs w) = .next (lone { F with mode := .returning } cs w) :=
  step_lone_go (by simp [stepG, stepG.exec, hm, ht, hr])
theorem st_end (hm : F.mode = .run) (ht : F.todo = []) (hr : F.roundOf = none) : step P (lone F cs w) = .next (lone { F with mode := .returning } cs w) :=
  step_lone_go (by simp [stepG, stepG.exec, hm, ht, hr])
theorem st_region {id : Nat} {ops : Array Oper} (hm : F.mode = .run) (ht : F.todo = .code (.region id ops false) :: k) : step P (lone F cs w) = .next (lone { F with todo := .inRegion ops (List.range ops.size) :: k } cs w) :=
  step_lone_go (by simp [stepG, stepG.exec, hm, ht])
theorem st_draw {id : Nat} {ops : Array Oper} (hm : F.mode = .run) (ht : F.todo = .code (.region id ops true) :: k) :
    step P (lone F cs w) = .next (lone { F with todo := .inRegion ops (Region.schedule (P.follows .mixedOrders) ops (w.tape w.drawn (.order F.fn id))) :: k } cs w.drew) :=
  step_lone_go (by simp [stepG, stepG.exec, hm, ht, choose, Sem.run, Question.forced, Question.cut])
theorem st_regionEnd {ops : Array Oper} (hm : F.mode = .run) (ht : F.todo = .inRegion ops [] :: k) : step P (lone F cs w) = .next (lone { F with todo := k } cs w) :=
  step_lone_go (by simp [stepG, stepG.exec, hm, ht])
variable {ops : Array Oper} {i : Nat} {rest : List Nat} {o : Oper}
theorem finish_region (ht : F.todo = .inRegion ops (i :: rest) :: k) (ho : ops[i]? = some o) (v : Value) :
    F.finish v = { F with tmps := (match o.dst with | some d => F.tmps.setIfInBounds d v | none => F.tmps), todo := .inRegion ops rest :: k } := by
  simp only [Frame.finish, ht, ho, Option.bind_some]
  cases o.dst <;> rfl
theorem st_skipOp (hm : F.mode = .run) (ht : F.todo = .inRegion ops (i :: rest) :: k) (ho : ops[i]? = some o) (hw : Region.wanted o (yielded ops F.tmps) = false) :
    step P (lone F cs w) = .next (lone (F.finish undef) cs w) :=
  step_lone_go (by simp [stepG, stepG.exec, hm, ht, ho, hw])
theorem stG_op (hm : F.mode = .run) (ht : F.todo = .inRegion ops (i :: rest) :: k) (ho : ops[i]? = some o) (hw : Region.wanted o (yielded ops F.tmps) = true) (hd : F.roundOf = none ∨ ∀ c, o.op ≠ .defer c) :
    stepG P true { frame := F, callers := cs, status := .running, dying := none } w = stepG.apply P true F cs none (execOp F.eval o) w := by
  have e : stepG P true { frame := F, callers := cs, status := .running, dying := none } w = stepG.oper P true F cs none w := by
    simp [stepG, stepG.exec, hm, ht, ho, hw]
  rw [e]
  unfold stepG.oper
  have hf : F.oper? = some o := by simp [Frame.oper?, ht, ho]
  rw [hf]
  simp only
  rcases hd with hr | hd
  · rw [hr]
  · cases hr : F.roundOf with
    | none => rfl
    | some l =>
      cases hop : o.op with
      | defer c => exact absurd hop (hd c)
      | _ => rfl
theorem kind_region (ht : F.todo = .inRegion ops (i :: rest) :: k) : (match F.todo with | .call _ true _ _ :: _ => CallKind.wrapped | _ => CallKind.normal) = .normal := by rw [ht]
theorem st_value (hm : F.mode = .run) (ht : F.todo = .inRegion ops (i :: rest) :: k) (ho : ops[i]? = some o) (hw : Region.wanted o (yielded ops F.tmps) = true) (hd : F.roundOf = none ∨ ∀ c, o.op ≠ .defer c)
    {v : Value} (hr : (execOp F.eval o).run P w = .ok (.value v) w') : step P (lone F cs w) = .next (lone (F.finish v) cs w') :=
  step_lone_go (by rw [stG_op hm ht ho hw hd]; simp only [stepG.apply, Sem.runT_eq, if_true, hr, GStep.bare_after]; rfl)
theorem st_skipV (hm : F.mode = .run) (ht : F.todo = .inRegion ops (i :: rest) :: k) (ho : ops[i]? = some o) (hw : Region.wanted o (yielded ops F.tmps) = true) (hd : F.roundOf = none ∨ ∀ c, o.op ≠ .defer c)
    (hr : (execOp F.eval o).run P w = .ok .skip w') : step P (lone F cs w) = .next (lone (F.finish undef) cs w') :=
  step_lone_go (by rw [stG_op hm ht ho hw hd]; simp only [stepG.apply, Sem.runT_eq, if_true, hr, GStep.bare_after]; rfl)
theorem st_enter (hm : F.mode = .run) (ht : F.todo = .inRegion ops (i :: rest) :: k) (ho : ops[i]? = some o) (hw : Region.wanted o (yielded ops F.tmps) = true) (hd : F.roundOf = none ∨ ∀ c, o.op ≠ .defer c)
    {f : FuncId} {args : Array Value} (hr : (execOp F.eval o).run P w = .ok (.enter f args) w') : step P (lone F cs w) = .next (lone (Frame.enter P f args .normal) (F :: cs) w') :=
  step_lone_go (by rw [stG_op hm ht ho hw hd]; simp only [stepG.apply, Sem.runT_eq, if_true, hr, GStep.bare_after]; rw [ht]; rfl)
theorem st_round (hm : F.mode = .run) (ht : F.todo = .inRegion ops (i :: rest) :: k) (ho : ops[i]? = some o) (hw : Region.wanted o (yielded ops F.tmps) = true) (hd : F.roundOf = none ∨ ∀ c, o.op ≠ .defer c)
    {l : Nat} {f : FuncId} {tmps : Array Value} {assign body : Code} (hr : (execOp F.eval o).run P w = .ok (.round l f tmps assign body) w') : step P (lone F cs w) = .next (lone (Frame.round l f tmps assign body .normal) (F :: cs) w') :=
  step_lone_go (by rw [stG_op hm ht ho hw hd]; simp only [stepG.apply, Sem.runT_eq, if_true, hr, GStep.bare_after]; rfl)
theorem st_defer (hm : F.mode = .run) (ht : F.todo = .inRegion ops (i :: rest) :: k) (ho : ops[i]? = some o) (hw : Region.wanted o (yielded ops F.tmps) = true) (hd : F.roundOf = none)
    {d : Deferred} (hr : (execOp F.eval o).run P w = .ok (.defer d) w') : step P (lone F cs w) = .next (lone ({ F with defers := d :: F.defers }.finish undef) cs w') :=
  step_lone_go (by rw [stG_op hm ht ho hw (.inl hd)]; simp only [stepG.apply, Sem.runT_eq, if_true, hr, GStep.bare_after]; rfl)
theorem st_recover (hm : F.mode = .run) (ht : F.todo = .inRegion ops (i :: rest) :: k) (ho : ops[i]? = some o) (hw : Region.wanted o (yielded ops F.tmps) = true) (hd : F.roundOf = none)
    (hr : (execOp F.eval o).run P w = .ok .recover w') (hn : tryRecover F cs = none) : step P (lone F cs w) = .next (lone (F.finish .nilIface) cs w') :=
  step_lone_go (by rw [stG_op hm ht ho hw (.inl hd)]; simp only [stepG.apply, Sem.runT_eq, if_true, hr, GStep.bare_after, hd, hn]; rfl)
/-- A frame that has returned, with nothing deferred. -/
theorem st_leave {c : Frame} {fn : Func} {v : Value} (hm : F.mode = .returning) (hd : F.defers = []) (hk : F.kind = .normal) (hf : P.funcs[F.fn]? = some fn) (hr : (results fn F.tmps).run P w = .ok v w) :
    step P (lone F (c :: cs) w) = .next (lone (c.finish v) cs w) :=
  step_lone_go (by simp [stepG, unwind, doReturn, hm, hd, hk, hf, hr])
theorem st_leaveD {c : Frame} {fn : Func} {v : Value} (hm : F.mode = .returning) (hd : F.defers = []) (hk : F.kind = .deferred) (hf : P.funcs[F.fn]? = some fn) (hr : (results fn F.tmps).run P w = .ok v w) (hc : c.mode = .returning) :
    step P (lone F (c :: cs) w) = .next (lone c cs w) :=
  step_lone_go (by simp [stepG, unwind, doReturn, hm, hd, hk, hf, hr, hc])
theorem st_mark {b : Nat} {as : Array Value} {ds : List Deferred} {calls : List Deferred} (hm : F.mode = .returning) (hd : F.defers = { target := .collected b, args := as } :: ds) (hr : (Instr.takeDeferred b).run P w = .ok calls w') :
    step P (lone F cs w) = .next (lone { F with defers := calls ++ ds } cs w') :=
  step_lone_go (by simp [stepG, unwind, hm, hd, hr])
end
end Go.Eng
