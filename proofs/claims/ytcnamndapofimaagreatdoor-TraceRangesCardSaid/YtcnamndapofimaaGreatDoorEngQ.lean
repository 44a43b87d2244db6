/- Rounds, loops over functions, and the code's own steps. -/
import Derived.Test.YtcnamndapofimaaGreatDoorEngP
import Derived.RangeFuncNested
namespace Go.Eng
open Go
section
variable {P : Program} {C : Ctx}
theorem cond_cres {c : Bool} {a : CRes} {l : List Nat} {v : Value} {H : AH} (h : (bif c then a else .bad l) = .ok v H) : c = true ∧ a = .ok v H := by
  cases c with
  | true => exact ⟨rfl, h⟩
  | false => cases h
theorem cond_out {c : Bool} {a : Out} {l : List Nat} {e : AExit} {fr : AFr} {H : AH} (h : (bif c then a else .bad l) = .ok e fr H) : c = true ∧ a = .ok e fr H := by
  cases c with
  | true => exact ⟨rfl, h⟩
  | false => cases h
theorem roundOk [Base] {ih : Code → AFr → AH → Out} (hcode : CodeOk P C ih) : RoundOk P C ih := by
  intro l args H v H' h σ w cl cargs hH ha hl
  unfold around at h
  split at h
  · rename_i r hr
    have hh := cond_cres h; clear h; obtain ⟨hsz, h⟩ := hh
    obtain ⟨δ, e, hσ⟩ := VRel.map_alive hH hl hr
    obtain ⟨ct, cd, cf, q1, q2⟩ := hH.loop hr hσ
    have hs : cargs.length = r.params.size := by rw [← ha.length]; exact Nat.eq_of_beq_eq_true hsz
    refine ⟨_, _, _, _, run_yield q1 (args := ⟨cargs⟩) (by simpa using hs), fun c cs => ?_⟩
    let F0 := Frame.round cl cf (((r.params.zip ⟨cargs⟩).foldl (fun tmps (x : Tmp × Value) => tmps.setIfInBounds x.1 x.2) ct)) r.assign r.body .normal
    show ∃ cv w' σ', Steps P (lone F0 (c :: cs) w) (lone (c.finish cv) cs w') ∧ VRel σ' v cv ∧ Leads σ H w σ' H' w'
    split at h
    · rename_i fr H1 hA
      have hrel : FRel P σ { tm := layP r.n r.params.toList args r.tm, n := r.n, ds := [], rnd := some l } F0 := by
        refine ⟨?_, .nil, ⟨cl, rfl, hl⟩, rfl⟩
        have := layP_rel (σ := σ) r.params.toList args cargs r.tm ct ha q2
        have e1 : F0.tmps = (r.params.toList.zip cargs).foldl (fun (tmps : Array Value) (x : Tmp × Value) => tmps.setIfInBounds x.1 x.2) ct := by
          show (r.params.zip ⟨cargs⟩).foldl _ ct = _
          rw [← Array.foldl_toList, Array.toList_zip]
        rw [e1]; exact this
      obtain ⟨F1, w1, σ1, p1, p2, p3, p4, p5⟩ := hcode _ _ _ _ _ _ hA σ w F0 (c :: cs) [.beginRound, .code r.body] hrel hH (.inl rfl) rfl
      have hro : F1.roundOf = some cl := p5.2.2
      have hl1 := hl.ext p4.ext
      have p2 : F1.todo = [.beginRound, .code r.body] := p2
      split at h
      · rename_i r1 hr1
        split at h
        · rename_i hst
          obtain ⟨δ1, e1, hσ1⟩ := VRel.map_alive p4.rel hl1 hr1
          obtain ⟨ct1, cd1, cf1, t1, t2⟩ := p4.rel.loop hr1 hσ1
          have hb := st_beginRound (P := P) (cs := c :: cs) (w := w1) p3.mode p2 hro (run_beginRound t1 hst)
          have L1 : Leads σ1 H1 w1 σ1 (H1.set l (.loop { r1 with st := .busy })) (w1.putObj cl (.loop { state := .busy, pending := r1.pending, fn := cf1, tmps := ct1, params := r1.params, assign := r1.assign, body := r1.body, defers := cd1 })) :=
            Leads.putLoop p4.rel (r := r1) (r' := { r1 with st := .busy }) hσ1 t1 t2 ⟨rfl, rfl, rfl, rfl, rfl⟩
          split at h
          · rename_i e2 fr2 H2 hB
            have hrel2 : FRel P σ1 { tm := fr.tm, n := fr.n, ds := fr.ds, rnd := some l } { F1 with todo := [.code r.body] } := ⟨p3.tm, p3.ds, ⟨cl, hro, hl1⟩, p3.mode⟩
            obtain ⟨F2, w2, σ2, u1, u2, u3, u4, u5⟩ := hcode _ _ _ _ _ _ hB σ1 _ { F1 with todo := [.code r.body] } (c :: cs) [] hrel2 L1.rel (.inl p5.2.1) rfl
            have hro2 : F2.roundOf = some cl := u5.2.2.trans hro
            have hk2 : F2.kind = .normal := u5.2.1.trans p5.2.1
            have L2 := (p4.trans L1).trans u4
            split at h
            · rename_i r2 hr2
              have hl2 := hl.ext L2.ext
              obtain ⟨δ2, e2', hσ2⟩ := VRel.map_alive u4.rel hl2 hr2
              obtain ⟨ct2, cd2, cf2, x1, x2⟩ := u4.rel.loop hr2 hσ2
              have steps := p1.trans (Steps.head hb u1)
              split at h
              · cases h
                have hx := st_roundEnd (P := P) (c := c) (cs := cs) u3.mode u2 hk2 hro2 (run_endRound none x1)
                refine ⟨_, _, σ2, steps.trans (.one hx), .bool true, L2.trans (Leads.putLoop u4.rel (r := r2) (r' := { r2 with st := .ready, pending := none }) hσ2 x1 x2 ⟨rfl, rfl, rfl, rfl, rfl⟩)⟩
              · rename_i id
                cases h
                obtain ⟨k', y1, y2⟩ := u2
                have hx := st_roundExit (P := P) (c := c) (cs := cs) u3.mode y1 y2 hk2 hro2 (run_endRound (some (.exit id)) x1)
                refine ⟨_, _, σ2, steps.trans (.one hx), .bool false, L2.trans (Leads.putLoop u4.rel (r := r2) (r' := { r2 with st := .done, pending := some (.exit id) }) hσ2 x1 x2 ⟨rfl, rfl, rfl, rfl, rfl⟩)⟩
              · cases h
                obtain ⟨k', y1⟩ := u2
                have hx := st_roundRet (P := P) (c := c) (cs := cs) u3.mode y1 hk2 hro2 (run_endRound (some .ret) x1)
                refine ⟨_, _, σ2, steps.trans (.one hx), .bool false, L2.trans (Leads.putLoop u4.rel (r := r2) (r' := { r2 with st := .done, pending := some .ret }) hσ2 x1 x2 ⟨rfl, rfl, rfl, rfl, rfl⟩)⟩
            · cases h
          · cases h
        · cases h
      · cases h
    · cases h
    · cases h
  · cases h

theorem rndOk_some {H : AH} {l : Nat} (h : rndOk H (some l) = true) : ∃ r, H.get l = some (.loop r) := by
  unfold rndOk at h
  split at h
  · rename_i e; cases e
  · rename_i e; cases e
    split at h
    · rename_i r hr; exact ⟨r, hr⟩
    · cases h
theorem arange_ok [Base] {ih : Code → AFr → AH → Out} (hC : CtxOk C P) (hN : NamesOk P C) (hK : HookOk P C) (hcode : CodeOk P C ih) {f : Operand} {ps : Array Tmp} {assign body : Code} {fr fr' : AFr} {H H' : AH} {e : AExit}
    (h : arange C ih f ps assign body fr H = .ok e fr' H') {σ : Ren} {w : World} {F : Frame} {cs : List Frame} {k : List Item} (hf : FRel P σ fr F) (hH : HRel σ H w) (_hk : KindOk F cs) (ht : F.todo = .code (.rangeFunc f ps assign body) :: k) :
    ∃ F' w' σ', Steps P (lone F cs w) (lone F' cs w') ∧ Arr e k F' ∧ FRel P σ' fr' F' ∧ Leads σ H w σ' H' w' ∧ Keeps F F' := by
  unfold arange at h
  have hh := cond_out h; clear h; obtain ⟨hrn, h⟩ := hh
  -- the record and the mark are laid
  have lay : ∃ cl mark w1 σ1, (Instr.enterLoop F.fn F.tmps ps assign body F.roundOf).run P w = .ok (cl, mark) w1 ∧ 
      Leads σ H w σ1 ((rngH fr.rnd H).push (.loop { st := .ready, pending := none, tm := fr.tm, n := fr.n, params := ps, assign := assign, body := body })) w1 ∧
      VRel σ1 (.map (some (rngH fr.rnd H).next)) (.map (some cl)) ∧
      (∃ δ e, σ1 (rngH fr.rnd H).next = .to cl δ e) ∧
      DRel P σ1 (rngD fr.rnd H fr.ds) (mark ++ F.defers) := by
    have hr := hf.rnd
    cases hrr : fr.rnd with
    | none =>
      rw [hrr] at hr
      simp only [rngH, rngD] at hr ⊢
      rw [hr, run_enterLoop_outer]
      have L1 : Leads σ H w (Eng.upd σ H.next (.to w.heap.size 0 0)) (H.push (.deferred true)) (w.alloc (.deferred (some []))) :=
        Leads.pushAt hH (World.alloc_heap_new w _) rfl
      have L2 := Leads.pushAt (e := 0) (obj := .loop { st := .ready, pending := none, tm := fr.tm, n := fr.n, params := ps, assign := assign, body := body })
        (cobj := .loop { state := .ready, pending := none, fn := F.fn, tmps := F.tmps, params := ps, assign := assign, body := body, defers := w.heap.size }) L1.rel
        (by
          refine ⟨F.tmps, w.heap.size, F.fn, World.alloc_heap_new _ _, hf.tm.1, fun i => (hf.tm.2 i).ext L1.ext⟩) rfl
      refine ⟨_, _, _, _, rfl, L1.trans L2, ?_, ?_, ?_⟩
      · exact .map _ _ 0 0 (by rw [upd_self]; simp)
      · exact ⟨0, 0, by rw [upd_self]; simp⟩
      · refine .cons ⟨_, rfl, ?_⟩ (hf.ds.ext (L1.trans L2).ext)
        exact VRel.ext L2.ext (.map _ _ 0 0 (upd_self _ _ _))
    | some l =>
      rw [hrr] at hr hrn
      obtain ⟨cl0, hr1, hr2⟩ := hr
      obtain ⟨r0, hr0⟩ := rndOk_some hrn
      obtain ⟨δ, e, hσ⟩ := VRel.map_alive hH hr2 hr0
      obtain ⟨ct, cd, cf, q1, q2⟩ := hH.loop hr0 hσ
      simp only [rngH, rngD]
      rw [hr1, run_enterLoop_inner q1]
      have L2 := Leads.pushAt (e := 0) (obj := .loop { st := .ready, pending := none, tm := fr.tm, n := fr.n, params := ps, assign := assign, body := body })
        (cobj := .loop { state := .ready, pending := none, fn := F.fn, tmps := F.tmps, params := ps, assign := assign, body := body, defers := cd }) hH
        (by
          exact ⟨F.tmps, cd, F.fn, World.alloc_heap_new _ _, hf.tm⟩) rfl
      refine ⟨_, _, _, _, rfl, L2, ?_, ?_, ?_⟩
      · exact .map _ _ 0 0 (by rw [upd_self])
      · exact ⟨0, 0, by rw [upd_self]⟩
      · exact hf.ds.ext L2.ext
  obtain ⟨cl, mark, w1, σ1, a1, L1, a3, ⟨δ1, e1, a4⟩, a5⟩ := lay
  simp only at h
  generalize hH1 : rngH fr.rnd H = H1 at h L1 a3 a4
  generalize hds : (rngD fr.rnd H fr.ds) = ds at h a5
  split at h
  · rename_i g first cap hfv
    have hx := aev_rel hf.tm f
    rw [hfv] at hx
    obtain ⟨xs', ys', hc, h1, h2⟩ := hx.func_inv
    split at h
    · rename_i v H2 hcall
      have hargs : VRelL σ1 ((first ++ [.func (.yield H1.next) #[] #[]]) ++ cap) ((xs' ++ [.func (.yield cl) #[] #[]]) ++ ys') :=
        ((h1.ext L1.ext).append (.cons (VRel.yield _ _ δ1 e1 a4) .nil)).append (h2.ext L1.ext)
      obtain ⟨b1, b2⟩ := callOk hC hN hK hcode g _ _ _ _ hcall σ1 w1 _ L1.rel hargs
      have hd : (resolve F.eval { callee := .value f, args := #[.const (.func (.yield cl) #[] #[])], argTypes := #[] } 0).run P w1 = .ok { target := .fn (.func g) ⟨ys'⟩, args := (⟨xs'⟩ : Array Value) ++ #[.func (.yield cl) #[] #[]] } w1 := by
        have : (#[.const (.func (.yield cl) #[] #[])] : Array Operand).map F.eval = #[.func (.yield cl) #[] #[]] := by simp [Frame.eval]
        simp only [resolve, hc, Deferred.ofValue, Sem.run_pure, this]
      have hinv : (Go.invoke (.fn (.func g) ⟨ys'⟩) ((⟨xs'⟩ : Array Value) ++ #[.func (.yield cl) #[] #[]])).run P w1 = .ok (.enter g ⟨(xs' ++ [.func (.yield cl) #[] #[]]) ++ ys'⟩) w1 := by
        rw [← b1]
        simp only [Go.invoke]
        congr 2
        apply Array.ext'
        simp
      have hs := st_range (P := P) (cs := cs) hf.mode ht a1 hd hinv
      obtain ⟨cv, w2, σ2, b3, b4, L2⟩ := b2 { F with todo := .inRangeFunc cl :: k, defers := mark ++ F.defers } cs
      have b3 : Steps P _ (lone { F with todo := .endRangeFunc cl :: k, defers := mark ++ F.defers } cs w2) := b3
      have L := L1.trans (L2)
      split at h
      · rename_i r hr
        have hl2 := a3.ext L2.ext
        obtain ⟨δ2, e2, hσ2⟩ := VRel.map_alive L2.rel hl2 hr
        obtain ⟨ct2, cd2, cf2, x1, x2⟩ := L2.rel.loop hr hσ2
        have fin : r.st ≠ .busy → ∃ w' σ', Steps P (lone F cs w) (lone { F with todo := (r.pending.map Item.code).toList ++ k, defers := mark ++ F.defers } cs w') ∧
            FRel P σ' { fr with ds := ds } { F with todo := (r.pending.map Item.code).toList ++ k, defers := mark ++ F.defers } ∧ Leads σ H w σ' (H2.set H1.next (.loop { r with st := .exhausted })) w' := by
          intro hb
          have hx := st_endRange (P := P) (F := { F with todo := .endRangeFunc cl :: k, defers := mark ++ F.defers }) (cs := cs) hf.mode rfl (run_endLoop x1 hb)
          refine ⟨_, σ2, (Steps.head hs b3).trans (.one hx), ?_, L.trans (Leads.putLoop L2.rel (r := r) (r' := { r with st := .exhausted }) hσ2 x1 x2 ⟨rfl, rfl, rfl, rfl, rfl⟩)⟩
          have := hf.ext L.ext
          exact ⟨this.tm, a5.ext L2.ext, this.rnd, hf.mode⟩
        split at h
        · cases h
        · rename_i hnb
          obtain ⟨w', σ', y1, y2, y3⟩ := fin (fun e => hnb e)
          split at h
          · rename_i hp
            cases h
            rw [hp] at y1 y2
            exact ⟨_, w', σ', y1, rfl, y2, y3, rfl, rfl, rfl⟩
          · rename_i id hp
            cases h
            rw [hp] at y1 y2
            exact ⟨_, w', σ', y1, ⟨k, rfl, rfl⟩, y2, y3, rfl, rfl, rfl⟩
          · rename_i hp
            cases h
            rw [hp] at y1 y2
            exact ⟨_, w', σ', y1, ⟨k, rfl⟩, y2, y3, rfl, rfl, rfl⟩
          · cases h
      · cases h
    · cases h
  · cases h
end
end Go.Eng
