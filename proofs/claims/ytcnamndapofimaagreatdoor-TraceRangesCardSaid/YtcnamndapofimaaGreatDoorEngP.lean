/- The engine's code is sound. -/
import Derived.Test.YtcnamndapofimaaGreatDoorEngO
namespace Go.Eng
open Go
section
variable {P : Program} {C : Ctx}

def Arr : AExit → List Item → Frame → Prop
  | .normal, k, F => F.todo = k
  | .exit id, k, F => ∃ k', F.todo = .code (.exit id) :: k' ∧ exitTo id k' = exitTo id k
  | .ret, _, F => ∃ k', F.todo = .code .ret :: k'
def CodeOk [Base] (P : Program) (_C : Ctx) (ih : Code → AFr → AH → Out) : Prop := ∀ c fr H e fr' H', ih c fr H = .ok e fr' H' → ∀ σ w F cs k, FRel P σ fr F → HRel σ H w → KindOk F cs → F.todo = .code c :: k →
  ∃ F' w' σ', Steps P (lone F cs w) (lone F' cs w') ∧ Arr e k F' ∧ FRel P σ' fr' F' ∧ Leads σ H w σ' H' w' ∧ Keeps F F'
/-- What is asked of the program, beside its types. -/
structure NamesOk (P : Program) (C : Ctx) : Prop where
  named : ∀ f fn, C.fn f = some fn → fn.body.isSome = true → (fn.name == "runtime.NumGoroutine") = false
def HookOk [Base] (P : Program) (C : Ctx) : Prop := ∀ f args H r, C.hook f args H = some r → ∃ fn, P.funcs[f]? = some fn ∧ fn.body.isSome = true ∧ (fn.name == "runtime.NumGoroutine") = false ∧
  ∀ σ w cargs, HRel σ H w → VRelL σ args cargs → match r with
    | .ret v H' => Calls P f ⟨cargs⟩ w fun e w' => ∃ cv σ', e = .returned cv ∧ VRel σ' v cv ∧ Leads σ H w σ' H' w'
    | .call g as => ∃ cas, VRelL σ as cas ∧ ∀ R : Value → World → Prop, (Calls P g ⟨cas⟩ w fun e w' => ∃ cv, e = .returned cv ∧ R cv w') → Calls P f ⟨cargs⟩ w fun e w' => ∃ cv, e = .returned cv ∧ R cv w'

theorem run_callFunc {f : FuncId} {fn : Func} {args : Array Value} (hf : P.funcs[f]? = some fn) (hb : fn.body.isSome = true) (hn : (fn.name == "runtime.NumGoroutine") = false) (w : World) :
    (callFunc f args).run P w = .ok (.enter f args) w := by
  have hb' : fn.body.isNone = false := by cases h : fn.body <;> simp [h] at hb ⊢
  simp only [callFunc, Sem.run_bind, run_program, Result.andThen_ok, hf, hn, Bool.false_eq_true, if_false, hb', Sem.run_pure]

/-- A body, from its entering to its 'returning'. -/
theorem abody_ok [Base] {ih : Code → AFr → AH → Out} (hC : CtxOk C P) (hcode : CodeOk P C ih) {f : FuncId} {args : List Value} {H : AH} {e : AExit} {fr : AFr} {H1 : AH} (h : abody C ih f args H = .ok e fr H1) (he : ∀ id, e ≠ .exit id)
    {σ : Ren} {w : World} {cargs : List Value} (hH : HRel σ H w) (ha : VRelL σ args cargs) {kind : CallKind} {cs : List Frame} (hk : kind = .normal ∨ (kind = .deferred ∧ ∃ c r, cs = c :: r ∧ c.mode = .returning)) :
    ∃ fn, C.fn f = some fn ∧ fn.body.isSome = true ∧ ∃ F w' σ', Steps P (lone (Frame.enter P f ⟨cargs⟩ kind) cs w) (lone F cs w') ∧ F.mode = .returning ∧ F.fn = f ∧ F.kind = kind ∧
      TRel σ' fr.tm fr.n F.tmps ∧ DRel P σ' fr.ds F.defers ∧ Leads σ H w σ' H1 w' := by
  unfold abody at h
  split at h
  · cases h
  · rename_i fn hfn
    split at h
    · cases h
    · rename_i c hc
      have hf := hC.fn f fn hfn
      let F0 := Frame.enter P f ⟨cargs⟩ kind
      have hF0 : F0 = { fn := f, tmps := (⟨cargs⟩ : Array Value) ++ Array.replicate (fn.ntmps - cargs.length) undef, todo := [.code c], defers := [], mode := .run, kind := kind } := by
        simp [F0, Frame.enter, hf, hc]
      have hrel : FRel P σ { tm := T.lay args .leaf 0, n := Nat.max args.length fn.ntmps, ds := [], rnd := none } F0 := by
        rw [hF0]
        exact ⟨enter_rel ha fn.ntmps, .nil, rfl, rfl⟩
      have hkind : KindOk F0 cs := by
        rw [hF0]
        exact hk
      obtain ⟨F', w', σ', q1, q2, q3, q4, q5⟩ := hcode _ _ _ _ _ _ h σ w F0 cs [] hrel hH hkind (by rw [hF0])
      have hr : fr.rnd = none ∨ ∃ l, fr.rnd = some l := by cases fr.rnd <;> simp
      have hro : F'.roundOf = none := by rw [q5.2.2, hF0]
      refine ⟨fn, hfn, by rw [hc]; rfl, ?_⟩
      · have fin : ∃ F2, step P (lone F' cs w') = .next (lone F2 cs w') ∧ F2 = { F' with mode := .returning } := by
          cases e with
          | exit id => exact absurd rfl (he id)
          | normal => exact ⟨_, st_end q3.mode q2 hro, rfl⟩
          | ret => obtain ⟨k', hk'⟩ := q2; exact ⟨_, st_ret q3.mode hk' hro, rfl⟩
        obtain ⟨F2, hs, rfl⟩ := fin
        refine ⟨_, w', σ', q1.trans (.one hs), rfl, ?_, ?_, q3.tm, q3.ds, q4⟩
        · show F'.fn = f; rw [q5.1, hF0]
        · show F'.kind = kind; rw [q5.2.1, hF0]

theorem adeferred_ok [Base] {ih : Code → AFr → AH → Out} (hC : CtxOk C P) (hN : NamesOk P C) (hcode : CodeOk P C ih) {f : FuncId} {args : List Value} {H H1 : AH} (h : adeferred C ih f args H = some H1)
    {σ : Ren} {w : World} {cargs : List Value} (hH : HRel σ H w) (ha : VRelL σ args cargs) {c : Frame} {cs : List Frame} (hc : c.mode = .returning) :
    (callFunc f ⟨cargs⟩).run P w = .ok (.enter f ⟨cargs⟩) w ∧ ∃ w' σ', Steps P (lone (Frame.enter P f ⟨cargs⟩ .deferred) (c :: cs) w) (lone c cs w') ∧ Leads σ H w σ' H1 w' := by
  unfold adeferred at h
  split at h
  · cases h
  · rename_i e fr H2 hne hb
    split at h
    · rename_i fn hds hfn
      split at h
      · rename_i v hv
        cases h
        obtain ⟨fn', q1, q2, F, w', σ', q3, q4, q5, q6, q7, q8, q9⟩ := abody_ok hC hcode hb (fun id e => hne id e) hH ha (kind := .deferred) (cs := c :: cs) (.inr ⟨rfl, c, cs, rfl, hc⟩)
        rw [hfn] at q1
        obtain rfl : fn = fn' := Option.some.inj q1
        rw [hds] at q8
        obtain ⟨cv, r1, r2⟩ := aresults_ok hC q9.rel q7 hv
        refine ⟨run_callFunc (hC.fn f fn hfn) q2 (hN.named f fn hfn q2) w, w', σ', q3.trans (.one (st_leaveD q4 ?_ q6 (by rw [q5]; exact hC.fn f fn hfn) r1 hc)), q9⟩
        generalize F.defers = x at q8
        cases q8; rfl
      · cases h
    · cases h
  · cases h
theorem adefers_cons {ih : Code → AFr → AH → Out} (d : ADef) (ds : List ADef) (H : AH) : adefers C ih (d :: ds) H = match d with
      | .mark b => match H.get b with
        | some (.deferred true) => adefers C ih ds (H.set b (.deferred false))
        | _ => none
      | .call f args => match adeferred C ih f args H with
        | some H1 => adefers C ih ds H1
        | none => none := rfl
theorem adefers_ok [Base] {ih : Code → AFr → AH → Out} (hC : CtxOk C P) (hN : NamesOk P C) (hcode : CodeOk P C ih) {cs : List Frame} : ∀ (ds : List ADef) (H H1 : AH), adefers C ih ds H = some H1 →
    ∀ (σ : Ren) (w : World) (F : Frame), HRel σ H w → DRel P σ ds F.defers → F.mode = .returning →
    ∃ w' σ', Steps P (lone F cs w) (lone { F with defers := [] } cs w') ∧ Leads σ H w σ' H1 w'
  | [], H, H1, h, σ, w, F, hH, hD, hm => by
    have h : some H = some H1 := h
    cases h
    generalize hd : F.defers = ds at hD
    cases hD
    have : ({ F with defers := [] } : Frame) = F := by rw [← hd]
    rw [this]
    exact ⟨w, σ, Steps.refl P _, Leads.refl hH⟩
  | d :: ds, H, H1, h, σ, w, F, hH, hD, hm => by
    rw [adefers_cons] at h
    generalize hd : F.defers = cds at hD
    cases hD with
    | cons h1 h2 =>
      rename_i cd cds
      cases d with
      | mark b =>
        simp only at h
        split at h
        · rename_i hb
          obtain ⟨r, e1, e2⟩ := h1
          obtain ⟨δ, e, hσ⟩ := VRel.map_alive hH e2 hb
          have hr := hH.deferred hb hσ
          simp only [if_true] at hr
          obtain ⟨tg, as⟩ := cd
          simp only at e1
          subst e1
          have L : Leads σ H w σ (H.set b (.deferred false)) (w.putObj r (.deferred none)) := Leads.put hH hσ (by rw [hr]; simp) rfl (Array.getElem?_eq_some_iff.1 hr).1 fun w' hw => hw
          have hs := st_mark (P := P) (cs := cs) (w := w) hm hd (run_takeDeferred hr)
          rw [List.nil_append] at hs
          obtain ⟨w', σ', q1, q2⟩ := adefers_ok hC hN hcode ds _ _ h σ _ { F with defers := cds } L.rel h2 hm
          exact ⟨w', σ', .head hs q1, L.trans q2⟩
        · cases h
      | call f args =>
        simp only at h
        split at h
        · rename_i H2 hd2
          obtain ⟨cargs, e1, ⟨fv, cap, e2⟩, e3⟩ := h1
          obtain ⟨q1, w1, σ1, q2, q3⟩ := adeferred_ok hC hN hcode hd2 hH e1 (c := { F with defers := cds }) (cs := cs) hm
          have hs := step_defer (P := P) (cs := cs) (w := w) (by rw [hm]; intro e; cases e) hd e2 (by rw [e3, q1])
          obtain ⟨w', σ', r1, r2⟩ := adefers_ok hC hN hcode ds _ _ h σ1 w1 { F with defers := cds } q3.rel (h2.ext q3.ext) hm
          exact ⟨w', σ', (Steps.head hs q2).trans r1, q3.trans r2⟩
        · cases h
/-- A function, without a look at the hook. -/
theorem afunB_ok [Base] {ih : Code → AFr → AH → Out} (hC : CtxOk C P) (hN : NamesOk P C) (hcode : CodeOk P C ih) {f : FuncId} {args : List Value} {H H1 : AH} {v : Value} (h : afunB C ih f args H = .ok v H1)
    {σ : Ren} {w : World} {cargs : List Value} (hH : HRel σ H w) (ha : VRelL σ args cargs) :
    (∀ w, (callFunc f ⟨cargs⟩).run P w = .ok (.enter f ⟨cargs⟩) w) ∧ Calls P f ⟨cargs⟩ w fun e w' => ∃ cv σ', e = .returned cv ∧ VRel σ' v cv ∧ Leads σ H w σ' H1 w' := by
  unfold afunB at h
  split at h
  · cases h
  · cases h
  · rename_i e fr H2 hne hb
    split at h
    · rename_i H3 fn hds hfn
      split at h
      · rename_i u hv
        cases h
        refine ⟨fun w => ?_, fun cs => ?_⟩
        · obtain ⟨fn', q1, q2, _⟩ := abody_ok hC hcode hb (fun id e => hne id e) hH ha (kind := .normal) (cs := []) (.inl rfl)
          rw [hfn] at q1
          obtain rfl : fn = fn' := Option.some.inj q1
          exact run_callFunc (hC.fn f fn hfn) q2 (hN.named f fn hfn q2) w
        · obtain ⟨fn', q1, q2, F, w', σ', q3, q4, q5, q6, q7, q8, q9⟩ := abody_ok hC hcode hb (fun id e => hne id e) hH ha (kind := .normal) (cs := cs) (.inl rfl)
          rw [hfn] at q1
          obtain rfl : fn = fn' := Option.some.inj q1
          obtain ⟨w2, σ2, r1, r2⟩ := adefers_ok hC hN hcode (cs := cs) _ _ _ hds σ' w' F q9.rel q8 q4
          obtain ⟨cv, s1, s2⟩ := aresults_ok hC r2.rel (ct := F.tmps) (n := fr.n) ⟨q7.1, fun i => (q7.2 i).ext r2.ext⟩ hv
          refine ⟨.returned cv, w2, _, ⟨cv, σ2, rfl, s2, q9.trans r2⟩, q3.trans r1, q5, q4, rfl, q6, fn, ?_, s1⟩
          show P.funcs[F.fn]? = some fn
          rw [q5]; exact hC.fn f fn hfn
      · cases h
    · cases h
theorem Calls.finish {f : FuncId} {args : Array Value} {w : World} {R : Value → World → Prop} (h : Calls P f args w fun e w' => ∃ cv, e = .returned cv ∧ R cv w') (c : Frame) (cs : List Frame) :
    ∃ cv w', Steps P (lone (Frame.enter P f args .normal) (c :: cs) w) (lone (c.finish cv) cs w') ∧ R cv w' := by
  obtain ⟨e, w', fr, ⟨cv, rfl, hR⟩, h1, _, h3⟩ := h (c :: cs)
  have h1 : Steps P _ _ := h1
  exact ⟨cv, w', h1.trans (.one (step_leave_returned h3)), hR⟩
theorem afun_ok [Base] {ih : Code → AFr → AH → Out} (hC : CtxOk C P) (hN : NamesOk P C) (hK : HookOk P C) (hcode : CodeOk P C ih) {f : FuncId} {args : List Value} {H H1 : AH} {v : Value} (h : afun C ih f args H = .ok v H1)
    {σ : Ren} {w : World} {cargs : List Value} (hH : HRel σ H w) (ha : VRelL σ args cargs) :
    (∀ w, (callFunc f ⟨cargs⟩).run P w = .ok (.enter f ⟨cargs⟩) w) ∧ Calls P f ⟨cargs⟩ w fun e w' => ∃ cv σ', e = .returned cv ∧ VRel σ' v cv ∧ Leads σ H w σ' H1 w' := by
  unfold afun at h
  split at h
  · rename_i u H' hk
    cases h
    obtain ⟨fn, h1, h2, h3, h4⟩ := hK f args H _ hk
    exact ⟨fun w => run_callFunc h1 h2 h3 w, h4 σ w cargs hH ha⟩
  · rename_i g as hk
    obtain ⟨fn, h1, h2, h3, h4⟩ := hK f args H _ hk
    obtain ⟨cas, h5, h6⟩ := h4 σ w cargs hH ha
    refine ⟨fun w => run_callFunc h1 h2 h3 w, ?_⟩
    have := h6 (fun cv w' => ∃ σ', VRel σ' v cv ∧ Leads σ H w σ' H1 w') ((afunB_ok hC hN hcode h hH h5).2.mono fun e w' ⟨cv, σ', e1, e2, e3⟩ => ⟨cv, e1, σ', e2, e3⟩)
    exact this.mono fun e w' ⟨cv, e1, σ', e2, e3⟩ => ⟨cv, σ', e1, e2, e3⟩
  · exact afunB_ok hC hN hcode h hH ha
theorem callOk [Base] {ih : Code → AFr → AH → Out} (hC : CtxOk C P) (hN : NamesOk P C) (hK : HookOk P C) (hcode : CodeOk P C ih) : CallOk P C ih := by
  intro f args H v H' h σ w cargs hH ha
  obtain ⟨h1, h2⟩ := afun_ok hC hN hK hcode h hH ha
  refine ⟨h1 w, fun c cs => ?_⟩
  obtain ⟨cv, w', q1, σ', q2, q3⟩ := Calls.finish (R := fun cv w' => ∃ σ', VRel σ' v cv ∧ Leads σ H w σ' H' w') (h2.mono fun e w' ⟨cv, σ', e1, e2, e3⟩ => ⟨cv, e1, σ', e2, e3⟩) c cs
  exact ⟨cv, w', σ', q1, q2, q3⟩
end
end Go.Eng
