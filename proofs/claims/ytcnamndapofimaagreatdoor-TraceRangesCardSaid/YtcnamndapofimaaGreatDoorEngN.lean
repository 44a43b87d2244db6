/- Operations one behind the other: a region without an open order. -/
import Derived.Test.YtcnamndapofimaaGreatDoorEngM
namespace Go.Eng
open Go
def CallOk [Base] (P : Program) (C : Ctx) (ih : Code → AFr → AH → Out) : Prop := ∀ f args H v H', afun C ih f args H = .ok v H' → ∀ σ w cargs, HRel σ H w → VRelL σ args cargs →
  (callFunc f ⟨cargs⟩).run P w = .ok (.enter f ⟨cargs⟩) w ∧
  ∀ (c : Frame) (cs : List Frame), ∃ cv w' σ', Steps P (lone (Frame.enter P f ⟨cargs⟩ .normal) (c :: cs) w) (lone (c.finish cv) cs w') ∧ VRel σ' v cv ∧ Leads σ H w σ' H' w'
def RoundOk [Base] (P : Program) (_C : Ctx) (ih : Code → AFr → AH → Out) : Prop := ∀ l args H v H', around ih l args H = .ok v H' → ∀ σ w cl cargs, HRel σ H w → VRelL σ args cargs → VRel σ (.map (some l)) (.map (some cl)) →
  ∃ f tmps assign body, (Instr.yield cl ⟨cargs⟩).run P w = .ok (.round cl f tmps assign body) w ∧
  ∀ (c : Frame) (cs : List Frame), ∃ cv w' σ', Steps P (lone (Frame.round cl f tmps assign body .normal) (c :: cs) w) (lone (c.finish cv) cs w') ∧ VRel σ' v cv ∧ Leads σ H w σ' H' w'
def Keeps (F F' : Frame) : Prop := F'.fn = F.fn ∧ F'.kind = F.kind ∧ F'.roundOf = F.roundOf
theorem Keeps.refl (F : Frame) : Keeps F F := ⟨rfl, rfl, rfl⟩
theorem Keeps.trans {F F' F'' : Frame} (h : Keeps F F') (k : Keeps F' F'') : Keeps F F'' := ⟨k.1.trans h.1, k.2.1.trans h.2.1, k.2.2.trans h.2.2⟩
def KindOk (F : Frame) (cs : List Frame) : Prop := F.kind = .normal ∨ (F.kind = .deferred ∧ ∃ c r, cs = c :: r ∧ c.mode = .returning)
theorem KindOk.keeps {F F' : Frame} {cs : List Frame} (h : KindOk F cs) (k : Keeps F F') : KindOk F' cs := by
  rcases h with h | ⟨h, h2⟩
  · exact .inl (k.2.1.trans h)
  · exact .inr ⟨k.2.1.trans h, h2⟩
theorem KindOk.recover {F : Frame} {cs : List Frame} (h : KindOk F cs) : tryRecover F cs = none := by
  unfold tryRecover
  rcases h with h | ⟨h, c, r, rfl, h2⟩
  · rw [h]
  · rw [h]; simp [h2]
section
variable {P : Program} {C : Ctx} {σ : Ren} {H : AH} {w : World} {ih : Code → AFr → AH → Out} {F : Frame} {cs : List Frame} {k : List Item} {ops : Array Oper} {i : Nat} {rest : List Nat} {o : Oper}

theorem run_callOp {cev : Operand → Value} {c : Call} (ho : o.op = .call c) (w : World) : (execOp cev o).run P w = (do let d ← resolve cev c o.type; Go.invoke d.target d.args : Sem Next).run P w := by
  unfold execOp; rw [ho]
theorem acall_ok [Base] (hC : CtxOk C P) (hcall : CallOk P C ih) (hround : RoundOk P C ih) (hH : HRel σ H w) {ev : Operand → Value} (hev : ∀ x, VRel σ (ev x) (F.eval x)) {c : Call} (hop : o.op = .call c)
    (hm : F.mode = .run) (ht : F.todo = .inRegion ops (i :: rest) :: k) (ho : ops[i]? = some o) (hw : Region.wanted o (yielded ops F.tmps) = true)
    {v : Value} {H1 : AH} (h : acall C ih ev c H = .ok v H1) : ∃ cv w' σ', Steps P (lone F cs w) (lone (F.finish cv) cs w') ∧ VRel σ' v cv ∧ Leads σ H w σ' H1 w' := by
  have hnd : ∀ c, o.op ≠ .defer c := fun c' e => by rw [hop] at e; cases e
  unfold acall at h
  split at h
  · cases h
  · rename_i f args hcl
    obtain ⟨cargs, h1, d, h2, _, h3⟩ := acallee_fn hC hev hcl o.type
    obtain ⟨q1, q2⟩ := hcall f args H v H1 h σ w cargs hH h1
    obtain ⟨cv, w', σ', q3, q4, q5⟩ := q2 F cs
    refine ⟨cv, w', σ', .head (st_enter hm ht ho hw (.inr hnd) (f := f) (args := ⟨cargs⟩) (w' := w) ?_) q3, q4, q5⟩
    rw [run_callOp hop]
    simp only [Sem.run_bind, h2, Result.andThen_ok, h3, q1]
  · rename_i l args hcl
    obtain ⟨cl, cargs, h1, h2, h3⟩ := acallee_round hC hev hcl o.type
    obtain ⟨f, tmps, assign, body, q1, q2⟩ := hround l args H v H1 h σ w cl cargs hH h1 h2
    obtain ⟨cv, w', σ', q3, q4, q5⟩ := q2 F cs
    refine ⟨cv, w', σ', .head (st_round hm ht ho hw (.inr hnd) (l := cl) (f := f) (tmps := tmps) (assign := assign) (body := body) (w' := w) ?_) q3, q4, q5⟩
    rw [run_callOp hop, h3, q1]

theorem aopV_ok [Base] (hC : CtxOk C P) (hcall : CallOk P C ih) (hround : RoundOk P C ih) (hH : HRel σ H w) {ev : Operand → Value} (hev : ∀ x, VRel σ (ev x) (F.eval x))
    (hm : F.mode = .run) (ht : F.todo = .inRegion ops (i :: rest) :: k) (ho : ops[i]? = some o) (hw : Region.wanted o (yielded ops F.tmps) = true) (hnd : ∀ c, o.op ≠ .defer c)
    {v : Value} {H1 : AH} (h : aopV C ih ev o.op H = .ok v H1) : ∃ cv w' σ', Steps P (lone F cs w) (lone (F.finish cv) cs w') ∧ VRel σ' v cv ∧ Leads σ H w σ' H1 w' := by
  unfold aopV at h
  split at h
  · rename_i u hu
    cases h
    obtain ⟨cv, h1, h2⟩ := apure_ok hC hev hu w
    exact ⟨cv, w, σ, .one (st_value hm ht ho hw (.inr hnd) h1), h2, Leads.refl hH⟩
  · split at h
    · rename_i u hu
      cases h
      obtain ⟨cv, h1, h2⟩ := aread_ok hC hH hev hu
      exact ⟨cv, w, σ, .one (st_value hm ht ho hw (.inr hnd) h1), h2, Leads.refl hH⟩
    · split at h
      · rename_i obj nv hu
        cases h
        obtain ⟨cobj, h1, h2⟩ := aalloc_ok hC hev hu
        exact ⟨_, _, _, .one (st_value hm ht ho hw (.inr hnd) (h2 w)), NewV.val_rel (upd_self _ _ _), Leads.push hH h1⟩
      · split at h
        · rename_i u H' hu
          cases h
          obtain ⟨nx, cv, w', σ', h1, h2, h3, h4⟩ := aeff_ok hC hH hev hu
          rcases h2 with rfl | ⟨rfl, rfl⟩
          · exact ⟨cv, w', σ', .one (st_value hm ht ho hw (.inr hnd) h1), h3, h4⟩
          · exact ⟨undef, w', σ', .one (st_skipV hm ht ho hw (.inr hnd) h1), h3, h4⟩
        · split at h
          · rename_i c hc
            exact acall_ok hC hcall hround hH hev hc hm ht ho hw h
          · cases h

/-- What is known behind an operation. -/
theorem FRel.finish [Base] {fr : AFr} (hf : FRel P σ fr F) (ht : F.todo = .inRegion ops (i :: rest) :: k) (ho : ops[i]? = some o) {v cv : Value} (hv : VRel σ v cv) :
    FRel P σ { fr with tm := tset fr.n fr.tm o.dst v } (F.finish cv) ∧ (F.finish cv).todo = .inRegion ops rest :: k ∧ Keeps F (F.finish cv) := by
  rw [finish_region ht ho]
  exact ⟨⟨tset_rel hf.tm o.dst hv, hf.ds, hf.rnd, hf.mode⟩, rfl, rfl, rfl, rfl⟩
theorem aoper_ok [Base] (hC : CtxOk C P) (hcall : CallOk P C ih) (hround : RoundOk P C ih) {fr : AFr} (hf : FRel P σ fr F) (hH : HRel σ H w) (hk : KindOk F cs)
    (ht : F.todo = .inRegion ops (i :: rest) :: k) (ho : ops[i]? = some o) (hw : Region.wanted o (yielded ops F.tmps) = true)
    {e : AExit} {fr1 : AFr} {H1 : AH} (h : aoper C ih o fr H = .ok e fr1 H1) :
    ∃ F' w' σ', Steps P (lone F cs w) (lone F' cs w') ∧ F'.todo = .inRegion ops rest :: k ∧ FRel P σ' fr1 F' ∧ Leads σ H w σ' H1 w' ∧ Keeps F F' := by
  have hev : ∀ x, VRel σ (aev fr.tm x) (F.eval x) := aev_rel hf.tm
  have hrnd := hf.rnd
  unfold aoper at h
  split at h
  · rename_i c hop
    split at h
    · rename_i f args hr hcl
      cases h
      rw [hr] at hrnd
      obtain ⟨cargs, h1, d, h2, h3, h4⟩ := acallee_fn hC hev hcl o.type
      have hst := st_defer (P := P) (cs := cs) (w := w) (w' := w) (d := d) hf.mode ht ho hw hrnd (by
        unfold execOp; rw [hop]
        simp only [Sem.run_bind, h2, Result.andThen_ok, Sem.run_pure])
      have ht' : ({ F with defers := d :: F.defers } : Frame).todo = .inRegion ops (i :: rest) :: k := ht
      refine ⟨_, w, σ, .one hst, ?_, ?_, Leads.refl hH, ?_⟩
      · rw [finish_region ht' ho]
      · rw [finish_region ht' ho]
        exact ⟨tset_rel hf.tm o.dst VRel.undef, .cons ⟨cargs, h1, h3, h4⟩ hf.ds, hf.rnd, hf.mode⟩
      · rw [finish_region ht' ho]; exact ⟨rfl, rfl, rfl⟩
    · cases h
  · rename_i hnd
    cases hrec : isRecover o.op with
    | true =>
      rw [hrec, cond_true] at h
      split at h
      · rename_i hr
        cases h
        rw [hr] at hrnd
        have hrun : (execOp F.eval o).run P w = .ok .recover w := by
          unfold isRecover at hrec
          split at hrec
          · rename_i c hop
            split at hrec
            · rename_i hcl
              rw [run_callOp hop]
              simp only [resolve, hcl, Sem.run_bind, Sem.run_pure, Result.andThen_ok, Go.invoke, builtin]
            · cases hrec
          · cases hrec
        obtain ⟨q1, q2, q3⟩ := hf.finish ht ho (v := .nilIface) .nilIface
        exact ⟨_, w, σ, .one (st_recover hf.mode ht ho hw hrnd hrun hk.recover), q2, q1, Leads.refl hH, q3⟩
      · cases h
    | false =>
      rw [hrec, cond_false] at h
      split at h
      · rename_i v H2 hop
        cases h
        obtain ⟨cv, w', σ', h1, h2, h3⟩ := aopV_ok hC hcall hround hH hev hf.mode ht ho hw (fun c e => hnd c e) hop
        obtain ⟨q1, q2, q3⟩ := (hf.ext h3.ext).finish ht ho h2
        exact ⟨_, w', σ', h1, q2, q1, h3, q3⟩
      · cases h

theorem aseq_cons (all : List Oper) (o : Oper) (l : List Oper) (i : Nat) (fr : AFr) (H : AH) : aseq C ih all (o :: l) i fr H = match awanted all o fr.n fr.tm with
      | none => .bad [40003, i]
      | some false => aseq C ih all l (i + 1) { fr with tm := tset fr.n fr.tm o.dst undef } H
      | some true => match aoper C ih o fr H with
        | .ok _ fr1 H1 => aseq C ih all l (i + 1) fr1 H1
        | .bad w => .bad (w ++ [30000 + i]) := rfl
theorem aseq_ok [Base] (hC : CtxOk C P) (hcall : CallOk P C ih) (hround : RoundOk P C ih) : ∀ (l : List Oper) (i : Nat) (fr : AFr) (H : AH) (σ : Ren) (F : Frame) (w : World), ops.toList.drop i = l → FRel P σ fr F → HRel σ H w → KindOk F cs →
    F.todo = .inRegion ops (List.range' i l.length) :: k → ∀ {e : AExit} {fr1 : AFr} {H1 : AH}, aseq C ih ops.toList l i fr H = .ok e fr1 H1 →
    e = .normal ∧ ∃ F' w' σ', Steps P (lone F cs w) (lone F' cs w') ∧ F'.todo = .inRegion ops [] :: k ∧ FRel P σ' fr1 F' ∧ Leads σ H w σ' H1 w' ∧ Keeps F F'
  | [], i, fr, H, σ, F, w, hl, hf, hH, hk, ht, e, fr1, H1, h => by
    have h : Out.ok .normal fr H = .ok e fr1 H1 := h
    cases h
    exact ⟨rfl, F, w, σ, Steps.refl P _, ht, hf, Leads.refl hH, Keeps.refl F⟩
  | o :: l, i, fr, H, σ, F, w, hl, hf, hH, hk, ht, e, fr1, H1, h => by
    have ho : ops[i]? = some o := by
      have := congrArg (fun x : List Oper => x[0]?) hl
      simpa using this
    have hl' : ops.toList.drop (i + 1) = l := by
      have := congrArg (fun x : List Oper => x.drop 1) hl
      simpa using this
    rw [List.length_cons, List.range'_succ] at ht
    rw [aseq_cons] at h
    split at h
    · cases h
    · rename_i hwt
      have hw := awanted_ok hf.tm hwt
      obtain ⟨q1, q2, q3⟩ := hf.finish ht ho (v := undef) VRel.undef
      obtain ⟨r0, F', w', σ', r1, r2, r3, r4, r5⟩ := aseq_ok hC hcall hround l (i + 1) _ H σ (F.finish undef) w hl' q1 hH (hk.keeps q3) q2 h
      exact ⟨r0, F', w', σ', .head (st_skipOp hf.mode ht ho hw) r1, r2, r3, r4, q3.trans r5⟩
    · rename_i hwt
      have hw := awanted_ok hf.tm hwt
      split at h
      · rename_i fr2 H2 hop
        obtain ⟨F2, w2, σ2, p1, p2, p3, p4, p5⟩ := aoper_ok hC hcall hround hf hH hk ht ho hw hop
        obtain ⟨r0, F', w', σ', r1, r2, r3, r4, r5⟩ := aseq_ok hC hcall hround l (i + 1) fr2 H2 σ2 F2 w2 hl' p3 p4.rel (hk.keeps p5) p2 h
        exact ⟨r0, F', w', σ', p1.trans r1, r2, r3, p4.trans r4, p5.trans r5⟩
      · cases h
end
end Go.Eng
