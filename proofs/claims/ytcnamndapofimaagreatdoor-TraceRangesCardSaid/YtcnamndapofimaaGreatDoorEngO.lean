/- Functions' ends, rounds, loops over functions: the machine's steps and what they come to. -/
import Derived.Test.YtcnamndapofimaaGreatDoorEngN
import Derived.RangeFuncRecord
namespace Go.Eng
open Go
section
variable {P : Program} {C : Ctx} {σ : Ren} {H : AH} {w w' : World} {ih : Code → AFr → AH → Out} {F : Frame} {cs : List Frame} {k : List Item}

theorem st_beginRound {cl : Nat} (hm : F.mode = .run) (ht : F.todo = .beginRound :: k) (hr : F.roundOf = some cl) (hb : (Instr.beginRound cl).run P w = .ok () w') :
    step P (lone F cs w) = .next (lone { F with todo := k } cs w') :=
  step_lone_go (by
    have e : stepG P true { frame := F, callers := cs, status := .running, dying := none } w = stepG.apply P true F cs none (do F.roundOf.elim (stuck "beginRound: no round") Instr.beginRound; pure .skip) w := by
      simp [stepG, stepG.exec, hm, ht]
    have e2 : (do F.roundOf.elim (stuck "beginRound: no round") Instr.beginRound; pure .skip : Sem Next).run P w = .ok .skip w' := by
      rw [hr]; simp only [Option.elim_some, Sem.run_bind, hb, Result.andThen_ok, Sem.run_pure]
    rw [e]
    simp only [stepG.apply, Sem.runT_eq, if_true, e2, GStep.bare_after]
    simp [Frame.finish, ht])
theorem st_roundEnd {cl : Nat} {c : Frame} {v : Value} (hm : F.mode = .run) (ht : F.todo = []) (hk : F.kind = .normal) (hr : F.roundOf = some cl) (he : (Instr.endRound cl none).run P w = .ok v w') :
    step P (lone F (c :: cs) w) = .next (lone (c.finish v) cs w') :=
  step_lone_go (by simp [stepG, stepG.exec, hm, ht, hr, he, doReturn, hk])
theorem st_roundRet {cl : Nat} {c : Frame} {v : Value} (hm : F.mode = .run) (ht : F.todo = .code .ret :: k) (hk : F.kind = .normal) (hr : F.roundOf = some cl) (he : (Instr.endRound cl (some .ret)).run P w = .ok v w') :
    step P (lone F (c :: cs) w) = .next (lone (c.finish v) cs w') :=
  step_lone_go (by simp [stepG, stepG.exec, hm, ht, hr, he, doReturn, hk])
theorem st_roundExit {cl id : Nat} {c : Frame} {v : Value} (hm : F.mode = .run) (ht : F.todo = .code (.exit id) :: k) (hx : exitTo id k = none) (hk : F.kind = .normal) (hr : F.roundOf = some cl) (he : (Instr.endRound cl (some (.exit id))).run P w = .ok v w') :
    step P (lone F (c :: cs) w) = .next (lone (c.finish v) cs w') :=
  step_lone_go (by simp [stepG, stepG.exec, hm, ht, hx, hr, he, doReturn, hk])
theorem st_range {f : Operand} {ps : Array Tmp} {assign body : Code} {cl : Nat} {mark : List Deferred} {g : FuncId} {args : Array Value} {d : Deferred} (hm : F.mode = .run) (ht : F.todo = .code (.rangeFunc f ps assign body) :: k)
    (h1 : (Instr.enterLoop F.fn F.tmps ps assign body F.roundOf).run P w = .ok (cl, mark) w')
    (h2 : (resolve F.eval { callee := .value f, args := #[.const (.func (.yield cl) #[] #[])], argTypes := #[] } 0).run P w' = .ok d w')
    (h3 : (Go.invoke d.target d.args).run P w' = .ok (.enter g args) w') :
    step P (lone F cs w) = .next (lone (Frame.enter P g args .normal) ({ F with todo := .inRangeFunc cl :: k, defers := mark ++ F.defers } :: cs) w') :=
  step_lone_go (by
    have ev : ∀ m, ({ F with todo := .inRangeFunc cl :: k, defers := mark ++ F.defers, mode := m } : Frame).eval = F.eval := by intro m; funext x; cases x <;> rfl
    simp [stepG, stepG.exec, hm, ht, h1, stepG.apply, ev, h2, h3])
theorem st_endRange {cl : Nat} {jump : Option Code} (hm : F.mode = .run) (ht : F.todo = .endRangeFunc cl :: k) (h : (Instr.endLoop cl).run P w = .ok jump w') :
    step P (lone F cs w) = .next (lone { F with todo := (jump.map Item.code).toList ++ k } cs w') :=
  step_lone_go (by simp [stepG, stepG.exec, hm, ht, h])

theorem HRel.loop [Base] (hH : HRel σ H w) {b cb δ e : Nat} {r : ALoop} (hb : H.get b = some (.loop r)) (hσ : σ b = .to cb δ e) :
    ∃ (ct : Array Value) (cd : Nat) (cf : FuncId), w.heap[cb]? = some (.loop { state := r.st, pending := r.pending, fn := cf, tmps := ct, params := r.params, assign := r.assign, body := r.body, defers := cd }) ∧ TRel σ r.tm r.n ct := by
  obtain ⟨o, h1, h2⟩ := hH.obj b cb δ e hσ
  rw [hb] at h1; cases h1
  exact h2
theorem HRel.deferred [Base] (hH : HRel σ H w) {b cb δ e : Nat} {o : Bool} (hb : H.get b = some (.deferred o)) (hσ : σ b = .to cb δ e) : w.heap[cb]? = some (.deferred (if o then some [] else none)) := by
  obtain ⟨o, h1, h2⟩ := hH.obj b cb δ e hσ
  rw [hb] at h1; cases h1
  exact h2
theorem VRel.map_alive [Base] (hH : HRel σ H w) {b cb : Nat} {o : AObj} (h : VRel σ (.map (some b)) (.map (some cb))) (hb : H.get b = some o) : ∃ δ e, σ b = .to cb δ e := by
  rcases h.map_inv with ⟨cr, δ, e, h1, h2⟩ | ⟨cr, h1, _⟩
  · cases h2; exact ⟨δ, e, h1⟩
  · exact absurd h1 (hH.alive hb)
/-- An object that is no cells is put in its own place. -/
theorem Leads.put [Base] (hH : HRel σ H w) {b cb δ e : Nat} {o : AObj} {co : Obj} (hσ : σ b = .to cb δ e) (hnc : ∀ cs t fz, w.heap[cb]? ≠ some (.cells cs t fz)) (hrw : o.rw = true) (hlt : cb < w.heap.size) (ho : ∀ w' : World, w'.heap[cb]? = some co → ORel σ w' cb δ e o) :
    Leads σ H w σ (H.set b o) (w.putObj cb co) :=
  Leads.turn hH hσ (fun o1 h1 => by
    obtain ⟨o2, h2, h3⟩ := hH.obj _ _ _ _ hσ
    rw [h1] at h2; cases h2
    cases o1 with
    | cells k => obtain ⟨cs, t, fz, h4, _⟩ := h3; exact absurd h4 (hnc _ _ _)
    | _ => rfl) hrw (ho _ (World.putObj_heap_same hlt)) (fun q hq => World.putObj_heap_other hq) (by simp) ⟨rfl, rfl, rfl⟩
theorem Leads.putLoop [Base] (hH : HRel σ H w) {b cb δ e : Nat} {r r' : ALoop} {ct : Array Value} {cd : Nat} {cf : FuncId} (hσ : σ b = .to cb δ e)
    (h : w.heap[cb]? = some (.loop { state := r.st, pending := r.pending, fn := cf, tmps := ct, params := r.params, assign := r.assign, body := r.body, defers := cd })) (ht : TRel σ r.tm r.n ct)
    (h' : r'.tm = r.tm ∧ r'.n = r.n ∧ r'.params = r.params ∧ r'.assign = r.assign ∧ r'.body = r.body) :
    Leads σ H w σ (H.set b (.loop r')) (w.putObj cb (.loop { state := r'.st, pending := r'.pending, fn := cf, tmps := ct, params := r.params, assign := r.assign, body := r.body, defers := cd })) := by
  refine Leads.put hH hσ (by rw [h]; simp) rfl (Array.getElem?_eq_some_iff.1 h).1 fun w' hw => ⟨ct, cd, cf, ?_, ?_⟩
  · obtain ⟨_, _, h3, h4, h5⟩ := h'
    rw [hw, h3, h4, h5]
  · rw [h'.1, h'.2.1]; exact ht

/-! ### Entering -/
theorem enter_rel {args cargs : List Value} (h : VRelL σ args cargs) (m : Nat) : TRel σ (T.lay args .leaf 0) (Nat.max args.length m) ((⟨cargs⟩ : Array Value) ++ Array.replicate (m - cargs.length) undef) := by
  refine ⟨?_, fun i => ?_⟩
  · simp only [Array.size_append, Array.size_replicate, List.size_toArray]
    rw [h.length]
    show cargs.length + (m - cargs.length) = max cargs.length m
    omega
  · unfold tget
    rw [T.get_lay]
    by_cases hi : i < args.length
    · rw [if_pos ⟨Nat.zero_le _, by omega⟩, Nat.sub_zero, List.getElem?_eq_getElem hi]
      have hr := getD_rel h i
      rw [show args.getD i undef = args[i] by simp [List.getD, List.getElem?_eq_getElem hi]] at hr
      have : ((⟨cargs⟩ : Array Value) ++ Array.replicate (m - cargs.length) undef).getD i undef = cargs.getD i undef := by
        rw [arr_getD, Array.toList_append]
        exact getD_append_left (by rw [← h.length]; exact hi)
      rw [this]
      exact hr
    · rw [if_neg (by omega)]
      have : ((⟨cargs⟩ : Array Value) ++ Array.replicate (m - cargs.length) undef).getD i undef = undef := by
        rw [arr_getD, Array.toList_append]
        have hc : cargs.length ≤ i := by rw [← h.length]; omega
        simp only [List.getD]
        rw [List.getElem?_append_right hc]
        by_cases h2 : i - cargs.length < m - cargs.length
        · simp [h2]
        · simp [h2]
      rw [this]
      exact VRel.undef
theorem layP_cons (n : Nat) (p : Tmp) (ps : List Tmp) (a : Value) (args : List Value) (tm : T Value) : layP n (p :: ps) (a :: args) tm = layP n ps args (tset n tm (some p) a) := rfl
theorem layP_rel [Base] {n : Nat} : ∀ (ps : List Tmp) (args cargs : List Value) (tm : T Value) (ct : Array Value), VRelL σ args cargs → TRel σ tm n ct →
    TRel σ (layP n ps args tm) n ((ps.zip cargs).foldl (fun (tmps : Array Value) (x : Tmp × Value) => tmps.setIfInBounds x.1 x.2) ct)
  | [], args, cargs, tm, ct, h, ht => ht
  | p :: ps, [], cargs, tm, ct, h, ht => by cases h; exact ht
  | p :: ps, a :: args, cargs, tm, ct, h, ht => by
    cases h with | cons h1 h2 =>
    rw [layP_cons, List.zip_cons_cons, List.foldl_cons]
    exact layP_rel ps args _ _ _ h2 (tset_rel ht (some p) h1)

/-! ### Results -/
theorem aload_ok [Base] (hC : CtxOk C P) (hH : HRel σ H w) {t : TypeId} {v cv r : Value} (hv : VRel σ v cv) (h : aload C t v H = some r) :
    ∃ a cr, cv = .pointer (some a) ∧ (loadVar t a).run P w = .ok cr w ∧ VRel σ r cr := by
  unfold aload at h
  have hp : ∃ a, cv = .pointer (some a) := by
    simp only [aread] at h
    split at h
    · exact VRel.somePtr_inv hv
    · cases h
  obtain ⟨a, rfl⟩ := hp
  obtain ⟨cr, h1, h2⟩ := aread_ok (o := { dst := none, op := .load t (.tmp 0), type := 0, pos := "", after := #[], guard := none }) (cev := fun _ => .pointer (some a)) hC hH (fun _ => hv) h
  refine ⟨a, cr, rfl, ?_, h2⟩
  simp only [execOp, Instr.loadAt, Sem.run_bind, Instr.sureAddr, Sem.run_pure, Result.andThen_ok] at h1
  cases hl : (loadVar t a).run P w with
  | ok x w1 => rw [hl] at h1; simp only [Result.andThen_ok, Result.ok.injEq, Next.value.injEq] at h1; rw [h1.1, h1.2]
  | halt x w1 => rw [hl] at h1; simp at h1
def resOne (ct : Array Value) : ResultVar → Sem Value
  | .tmp t => pure (ct.getD t undef)
  | .cell a t => do loadVar t (← asAddr (ct.getD a undef))
theorem results_eq (fn : Func) (ct : Array Value) : results fn ct = (do
    let vs ← fn.results.mapM (resOne ct)
    pure (if h : vs.size = 1 then vs[0] else .tuple vs)) := rfl
theorem aresList_cons (tm : T Value) (r : ResultVar) (l : List ResultVar) : aresList C tm H (r :: l) = match aresList C tm H l with
      | none => none
      | some vs => match r with
        | .tmp t => some (tget tm t :: vs)
        | .cell a t => match aload C t (tget tm a) H with
          | some v => some (v :: vs)
          | none => none := rfl
theorem aresList_ok [Base] (hC : CtxOk C P) (hH : HRel σ H w) {tm : T Value} {n : Nat} {ct : Array Value} (ht : TRel σ tm n ct) : ∀ (l : List ResultVar) (vs : List Value), aresList C tm H l = some vs →
    ∃ cvs, (l.mapM (resOne ct)).run P w = .ok cvs w ∧ VRelL σ vs cvs
  | [], vs, h => by
    have : [] = vs := by simpa [aresList] using h
    subst this
    exact ⟨[], rfl, .nil⟩
  | r :: l, vs, h => by
    rw [aresList_cons] at h
    split at h
    · cases h
    · rename_i us hus
      obtain ⟨cus, h1, h2⟩ := aresList_ok hC hH ht l us hus
      split at h
      · rename_i t
        cases h
        refine ⟨ct.getD t undef :: cus, ?_, .cons (ht.2 t) h2⟩
        rw [List.mapM_cons]
        simp only [resOne, Sem.run_bind, Sem.run_pure, Result.andThen_ok]
        rw [h1]; rfl
      · rename_i a t
        split at h
        · rename_i v hv
          cases h
          obtain ⟨ad, cr, q1, q2, q3⟩ := aload_ok hC hH (ht.2 a) hv
          refine ⟨cr :: cus, ?_, .cons q3 h2⟩
          rw [List.mapM_cons]
          have hA : (asAddr (ct.getD a undef)).run P w = .ok ad w := by rw [q1]; rfl
          simp only [Sem.run_bind]
          have h0 : (resOne ct (.cell a t)).run P w = .ok cr w := by simp only [resOne, Sem.run_bind, hA, Result.andThen_ok, q2]
          rw [h0]
          simp only [Result.andThen_ok, h1, Sem.run_pure]
        · cases h
theorem aresults_ok [Base] (hC : CtxOk C P) (hH : HRel σ H w) {tm : T Value} {n : Nat} {ct : Array Value} (ht : TRel σ tm n ct) {fn : Func} {v : Value} (h : aresults C fn tm H = some v) :
    ∃ cv, (results fn ct).run P w = .ok cv w ∧ VRel σ v cv := by
  unfold aresults at h
  have key : ∀ vs, aresList C tm H fn.results.toList = some vs → ∃ cvs : List Value, VRelL σ vs cvs ∧ (results fn ct).run P w = .ok (if h : (⟨cvs⟩ : Array Value).size = 1 then (⟨cvs⟩ : Array Value)[0] else .tuple ⟨cvs⟩) w := by
    intro vs hvs
    obtain ⟨cvs, h1, h2⟩ := aresList_ok hC hH ht fn.results.toList vs hvs
    refine ⟨cvs, h2, ?_⟩
    rw [results_eq, Array.mapM_eq_mapM_toList]
    simp only [Sem.run_bind, Sem.run_map, h1, Result.andThen_ok]
    rfl
  split at h
  · cases h
  · rename_i u hu
    cases h
    obtain ⟨cvs, h1, h2⟩ := key _ hu
    cases h1 with
    | cons a b =>
      cases b
      exact ⟨_, h2, a⟩
  · rename_i vs hne hvs
    cases h
    obtain ⟨cvs, h1, h2⟩ := key _ hvs
    refine ⟨_, h2, ?_⟩
    rw [dif_neg]
    · exact .tuple _ _ h1
    · intro hs
      have hs : cvs.length = 1 := hs
      rw [← h1.length] at hs
      match vs, hs with
      | [u], _ => exact hne u rfl
end
end Go.Eng
