/- What an entry says of a call, the call does. -/
import Derived.Test.YtcnamndapofimaaGreatDoorCutA
namespace Go.Eng
open Go
theorem isNil_eq {α : Type} {l : List α} (h : isNil l = true) : l = [] := by cases l with
  | nil => rfl
  | cons => cases h
theorem lkp_map {g : Nat → Nat} {k : AObj → AObj} (l : List (Nat × AObj)) (b : Nat) (hg : ∀ x, g x = g b → x = b) : lkp (l.map fun p => (g p.1, k p.2)) (g b) = (lkp l b).map k := by
  induction l with
  | nil => rfl
  | cons p l ih =>
    rw [List.map_cons, lkp_cons, lkp_cons, ih]
    by_cases h : p.1 = b
    · rw [if_pos h, if_pos (by simp [h])]; rfl
    · rw [if_neg h, if_neg (fun e => h (hg _ e))]
theorem lkp_map_none {g : Nat → Nat} {k : AObj → AObj} (l : List (Nat × AObj)) (b : Nat) (hg : ∀ x o, lkp l x = some o → g x ≠ b) : lkp (l.map fun p => (g p.1, k p.2)) b = none := by
  have : ∀ p ∈ l, g p.1 ≠ b := fun p hp => by obtain ⟨o, ho⟩ := lkp_some_of_mem hp; exact hg _ _ ho
  clear hg
  induction l with
  | nil => rfl
  | cons p l ih =>
    rw [List.map_cons, lkp_cons, if_neg (this p (List.mem_cons_self ..))]
    exact ih fun q hq => this q (List.mem_cons_of_mem _ hq)
theorem newId_lt {N K b : Nat} (h : b < N) : newId N K b = b := by
  unfold newId; rw [show Nat.blt b N = true by rw [Nat.blt_eq]; exact h, cond_true]
theorem newId_ge {N K b : Nat} (h : N ≤ b) : newId N K b = K + (b - N) := by
  unfold newId
  have : Nat.blt b N = false := by
    cases hq : Nat.blt b N with
    | false => rfl
    | true => rw [Nat.blt_eq] at hq; omega
  rw [this, cond_false]
theorem newId_inj {N K x y : Nat} (h : N ≤ K) (e : newId N K x = newId N K y) : x = y := by
  rcases Nat.lt_or_ge x N with hx | hx <;> rcases Nat.lt_or_ge y N with hy | hy
  · rw [newId_lt hx, newId_lt hy] at e; exact e
  · rw [newId_lt hx, newId_ge hy] at e; omega
  · rw [newId_ge hx, newId_lt hy] at e; omega
  · rw [newId_ge hx, newId_ge hy] at e; omega
structure Fits [Base] (e : Ent) (H : AH) : Prop where
  le : e.N ≤ H.next
  same : H.next = e.N ∨ (e.hin = [] ∧ e.args.map (renV (fun _ => none) 8) = e.args)
  get : ∀ b o, lkp e.hin b = some o → H.get b = some o
theorem Ent.fits_ok [Base] {e : Ent} {H : AH} (h : e.fits H = true) : Fits e H := by
  unfold Ent.fits at h
  simp only [Bool.and_eq_true, Bool.or_eq_true, Nat.beq_eq, Nat.ble_eq, List.all_eq_true] at h
  obtain ⟨h1, h2⟩ := h
  refine ⟨?_, ?_, fun b o hb => ?_⟩
  · rcases h1 with h1 | h1
    · omega
    · exact h1.1.2
  · rcases h1 with h1 | h1
    · exact .inl h1
    · exact .inr ⟨isNil_eq h1.1.1, lsame_eq _ _ h1.2⟩
  · have := h2 _ (lkp_mem hb)
    cases hg : H.get b with
    | none => simp [hg] at this
    | some o' => simp only [hg] at this; rw [(osame_eq this).1]
theorem inL_mem {l : List Nat} {b : Nat} : inL l b = true ↔ b ∈ l := by
  induction l with
  | nil => exact ⟨fun h => (by cases h), fun h => by cases h⟩
  | cons x l ih =>
    rw [inL_cons, List.mem_cons]
    by_cases h : x = b
    · rw [if_pos h]; exact ⟨fun _ => .inl h.symm, fun _ => rfl⟩
    · rw [if_neg h, ih]; exact ⟨.inr, fun q => q.resolve_left fun e => h e.symm⟩
structure Form (e : Ent) : Prop where
  pos : 0 < e.N
  le : e.N ≤ e.M
  hin : ∀ b o, lkp e.hin b = some o → b < e.N
  all : ∀ b o, lkp e.all b = some o → b < e.M ∧ (b < e.N → ∃ o', lkp e.hin b = some o')
  hall : ∀ b o, lkp e.hin b = some o → inL e.kills b = false → ∃ o', lkp e.all b = some o'
  kill : ∀ b, inL e.kills b = true → (∃ o, lkp e.hin b = some o) ∧ lkp e.all b = none
theorem Ent.form_ok {e : Ent} (h : e.form = true) : Form e := by
  unfold Ent.form at h
  simp only [Bool.and_eq_true, Nat.blt_eq, Nat.ble_eq, List.all_eq_true, Bool.or_eq_true, Bool.not_eq_true'] at h
  obtain ⟨⟨⟨⟨h1, h2⟩, h3⟩, h4'⟩, h5⟩ := h
  have h4 : ∀ x ∈ e.out, x.1 < e.M ∧ (e.N ≤ x.1 ∨ (match lkp e.hin x.1 with | some _ => true | none => false) = true) := fun x hx => (h4' x hx).1
  refine ⟨h1, h2, fun b o hb => h3 _ (lkp_mem hb), fun b o hb => ?_, fun b o hb hk => ?_, fun b hb => ⟨?_, ?_⟩⟩
  · unfold Ent.all at hb
    rw [lkp_append] at hb
    cases ho : lkp e.out b with
    | some o' =>
      obtain ⟨q1, q2⟩ := h4 _ (lkp_mem ho)
      refine ⟨q1, fun hlt => ?_⟩
      rcases q2 with q2 | q2
      · exact absurd q2 (by simpa using hlt)
      · cases hh : lkp e.hin b with
        | some x => exact ⟨x, rfl⟩
        | none => simp [hh] at q2
    | none =>
      rw [ho] at hb
      have hb : lkp (dropK e.kills e.hin) b = some o := hb
      rw [lkp_dropK] at hb
      split at hb
      · cases hb
      · exact ⟨Nat.lt_of_lt_of_le (h3 _ (lkp_mem hb)) h2, fun _ => ⟨o, hb⟩⟩
  · unfold Ent.all
    rw [lkp_append, lkp_dropK, hb, hk]
    cases lkp e.out b with
    | some x => exact ⟨x, rfl⟩
    | none => exact ⟨o, rfl⟩
  · have := h5 b (inL_mem.1 hb)
    cases hh : lkp e.hin b with
    | some o => exact ⟨o, rfl⟩
    | none => simp [hh] at this
  · unfold Ent.all
    rw [lkp_append, lkp_dropK, hb]
    cases ho : lkp e.out b with
    | some x => have := (h4' _ (lkp_mem ho)).2; simp only at this; rw [hb] at this; cases this
    | none => rfl
theorem Ent.found_ok {e : Ent} {H2 : AH} (h : e.found H2 = true) : (∀ b o, lkp e.all b = some o → H2.get b = some o ∧ plainO o = true) ∧ (∀ b o, lkp e.hin b = some o → ∀ o', lkp e.all b = some o' → renO (e.ρ e.N) o' = o') ∧ ∀ b, inL e.kills b = true → H2.get b = none := by
  unfold Ent.found at h
  simp only [Bool.and_eq_true, List.all_eq_true] at h
  obtain ⟨⟨h1, h2⟩, h3⟩ := h
  refine ⟨fun b o hb => ?_, fun b o hb o' ho' => ?_, fun b hb => ?_⟩
  · have := h1 _ (lkp_mem hb)
    simp only [hb] at this
    cases hg : H2.get b with
    | none => simp [hg] at this
    | some o' => simp only [hg] at this; obtain ⟨q1, q2⟩ := osame_eq this; rw [← q1]; exact ⟨rfl, q2⟩
  · have := h2 _ (lkp_mem hb)
    simp only [ho'] at this
    exact (osame_eq this).1
  · have := h3 b (inL_mem.1 hb)
    cases hg : H2.get b with
    | some o => simp [hg] at this
    | none => rfl
/-- The part of a renaming that the entry sees. -/
noncomputable def Ent.σin (e : Ent) (σ : Ren) : Ren := fun b => match lkp e.hin b with
  | some _ => σ b
  | none => if b < e.N then .dead else .unborn
theorem Ent.σin_some {e : Ent} {σ : Ren} {b : Nat} {o : AObj} (h : lkp e.hin b = some o) : e.σin σ b = σ b := by unfold Ent.σin; rw [h]
theorem Ent.σin_to {e : Ent} {σ : Ren} {b cb δ f : Nat} (h : e.σin σ b = .to cb δ f) : (∃ o, lkp e.hin b = some o) ∧ σ b = .to cb δ f := by
  unfold Ent.σin at h
  split at h
  · rename_i o ho; exact ⟨⟨o, ho⟩, h⟩
  · split at h <;> cases h
theorem Ent.start_get (e : Ent) (b : Nat) : e.start.get b = lkp e.hin b := by
  unfold Ent.start
  rw [AH.get_layO]
  cases lkp e.hin b <;> rfl
theorem Ent.ext_in [Base] {e : Ent} {σ : Ren} {H : AH} {w : World} (hH : HRel σ H w) (hs : H.next = e.N) : Ext σ (e.σin σ) := by
  intro b
  cases hb : lkp e.hin b with
  | some o => rw [e.σin_some hb]; cases σ b <;> simp
  | none =>
    have : e.σin σ b = if b < e.N then .dead else .unborn := by unfold Ent.σin; rw [hb]
    rw [this]
    cases hq : σ b with
    | unborn => trivial
    | dead =>
      rcases Nat.lt_or_ge b e.N with h | h
      · simp [h]
      · have := hH.fresh b (by omega); rw [hq] at this; cases this
    | to cb δ f =>
      rcases Nat.lt_or_ge b e.N with h | h
      · simp [h]
      · have := hH.fresh b (by omega); rw [hq] at this; cases this
theorem Ent.rel_in [Base] {e : Ent} {σ : Ren} {H : AH} {w : World} (hF : Form e) (hf : Fits e H) (hH : HRel σ H w) : HRel (e.σin σ) e.start w where
  obj b cb δ f h := by
    obtain ⟨⟨o, ho⟩, hb⟩ := Ent.σin_to h
    obtain ⟨o', h1, h2⟩ := hH.obj b cb δ f hb
    rw [hf.get b o ho] at h1
    cases h1
    refine ⟨o, by rw [e.start_get]; exact ho, ?_⟩
    rcases hf.same with hs | hs
    · exact h2.ext (Ent.ext_in hH hs)
    · rw [hs.1] at ho; cases ho
  inj b b' cb δ f δ' f' h h' := hH.inj _ _ _ _ _ _ _ (Ent.σin_to h).2 (Ent.σin_to h').2
  dead b h := by
    rw [e.start_get]
    cases hb : lkp e.hin b with
    | none => rfl
    | some o =>
      rw [e.σin_some hb] at h
      have := hf.get b o hb
      rw [hH.dead b h] at this; cases this
  nil := by
    cases hb : lkp e.hin 0 with
    | some o => rw [e.σin_some hb]; exact hH.nil
    | none => unfold Ent.σin; rw [hb]; simp only [if_pos hF.pos]
  fresh b h := by
    have hb : lkp e.hin b = none := by
      cases hb : lkp e.hin b with
      | none => rfl
      | some o => have := hF.hin b o hb; have h : e.N ≤ b := h; omega
    unfold Ent.σin; rw [hb]
    have h : e.N ≤ b := h
    simp only [if_neg (show ¬ b < e.N by omega)]
  base k hk := ⟨(hH.base k hk).1, fun b δ f h => by
    obtain ⟨⟨o, ho⟩, hb⟩ := Ent.σin_to h
    obtain ⟨q, h1, h2⟩ := (hH.base k hk).2 b δ f hb
    rw [hf.get b o ho] at h1
    cases h1
    exact ⟨q, by rw [e.start_get]; exact ho, h2⟩⟩
noncomputable def Ent.σout (e : Ent) (K : Nat) (σ σ2 : Ren) : Ren := fun b =>
  if b < K then (match lkp e.hin b with
    | some _ => σ2 b
    | none => σ b)
  else match lkp e.all (b - K + e.N) with
    | some _ => σ2 (b - K + e.N)
    | none => .unborn
theorem Ent.cases_out [Base] {e : Ent} {H H2 : AH} {σ σ2 : Ren} (hF : Form e) (hf : Fits e H) (hfo : e.found H2 = true) (b : Nat) :
    (∃ b0 oa, lkp e.all b0 = some oa ∧ newId e.N H.next b0 = b ∧ e.σout H.next σ σ2 b = σ2 b0 ∧ (e.laid H).get b = some (renO (e.ρ H.next) oa) ∧ H2.get b0 = some oa ∧ plainO oa = true ∧ (b < H.next → b0 = b ∧ ∃ o, lkp e.hin b = some o)) ∨
    (e.σout H.next σ σ2 b = σ b ∧ (e.laid H).get b = H.get b ∧ b < H.next ∧ lkp e.hin b = none) ∨
    (e.σout H.next σ σ2 b = .unborn ∧ H.next ≤ b) ∨
    (e.σout H.next σ σ2 b = σ2 b ∧ (e.laid H).get b = none ∧ H2.get b = none ∧ b < H.next ∧ ∃ o, lkp e.hin b = some o) := by
  obtain ⟨hfo, _, hfk⟩ := Ent.found_ok hfo
  have hget : ∀ c, (e.laid H).get c = match lkp (e.all.map fun p => (newId e.N H.next p.1, renO (e.ρ H.next) p.2)) c with
    | some o => some o
    | none => if inL e.kills c = true then none else H.get c := fun c => by
      unfold Ent.laid; rw [AH.get_layO]
      cases lkp (e.all.map fun p => (newId e.N H.next p.1, renO (e.ρ H.next) p.2)) c with
      | some o => rfl
      | none =>
        simp only
        unfold AH.get
        simp only [killO_get]
        by_cases hk : inL e.kills c = true
        · rw [if_pos hk, if_pos hk]
        · rw [if_neg hk, if_neg hk]
  have hlk : ∀ b0 oa, lkp e.all b0 = some oa → (e.laid H).get (newId e.N H.next b0) = some (renO (e.ρ H.next) oa) := fun b0 oa h => by
    rw [hget, lkp_map (g := newId e.N H.next) (k := renO (e.ρ H.next)) _ _ (fun x hx => newId_inj hf.le hx), h]; rfl
  rcases Nat.lt_or_ge b H.next with hb | hb
  · cases hh : lkp e.hin b with
    | some o =>
      have hlt := hF.hin b o hh
      cases hkl : inL e.kills b with
      | true =>
        refine .inr (.inr (.inr ⟨?_, ?_, hfk b hkl, hb, o, rfl⟩))
        · unfold Ent.σout; rw [if_pos hb, hh]
        · rw [hget, lkp_map_none, hkl]; rfl
          intro x o' hx e1
          have hn := (hF.kill b hkl).2
          rcases Nat.lt_or_ge x e.N with h1 | h1
          · rw [newId_lt h1] at e1; subst e1; rw [hn] at hx; cases hx
          · rw [newId_ge h1] at e1; omega
      | false =>
      obtain ⟨oa, hoa⟩ := hF.hall b o hh hkl
      refine .inl ⟨b, oa, hoa, newId_lt hlt, ?_, ?_, (hfo b oa hoa).1, (hfo b oa hoa).2, fun _ => ⟨rfl, o, rfl⟩⟩
      · unfold Ent.σout; rw [if_pos hb, hh]
      · have := hlk b oa hoa; rwa [newId_lt hlt] at this
    | none =>
      refine .inr (.inl ⟨?_, ?_, hb, rfl⟩)
      · unfold Ent.σout; rw [if_pos hb, hh]
      · rw [hget, lkp_map_none]
        · have : inL e.kills b = false := by
            cases hq : inL e.kills b with
            | false => rfl
            | true => obtain ⟨o, ho⟩ := (hF.kill b hq).1; rw [hh] at ho; cases ho
          rw [this]; rfl
        intro x o hx e1
        rcases Nat.lt_or_ge x e.N with h1 | h1
        · rw [newId_lt h1] at e1
          obtain ⟨o', ho'⟩ := (hF.all x o hx).2 h1
          rw [e1, hh] at ho'; cases ho'
        · rw [newId_ge h1] at e1; omega
  · cases hh : lkp e.all (b - H.next + e.N) with
    | some oa =>
      have e1 : newId e.N H.next (b - H.next + e.N) = b := by rw [newId_ge (by omega)]; omega
      refine .inl ⟨_, oa, hh, e1, ?_, ?_, (hfo _ oa hh).1, (hfo _ oa hh).2, fun h => by omega⟩
      · unfold Ent.σout; rw [if_neg (by omega), hh]
      · have := hlk _ oa hh; rwa [e1] at this
    | none =>
      refine .inr (.inr (.inl ⟨?_, hb⟩))
      unfold Ent.σout; rw [if_neg (by omega), hh]
theorem Ent.compat [Base] {e : Ent} {H H2 : AH} {σ σ2 : Ren} {w w2 : World} (hF : Form e) (hf : Fits e H) (hH : HRel σ H w) (hL : HRel σ2 H2 w2) : Compat (e.ρ H.next) σ2 (e.σout H.next σ σ2) := by
  intro b c hbc
  have : e.σout H.next σ σ2 c = σ2 b := by
    unfold Ent.ρ at hbc
    cases ha : lkp e.all b with
    | some oa =>
      simp only [ha, Option.some.injEq] at hbc
      rcases Nat.lt_or_ge b e.N with h | h
      · rw [newId_lt h] at hbc
        subst hbc
        obtain ⟨o, ho⟩ := (hF.all b oa ha).2 h
        unfold Ent.σout; rw [if_pos (Nat.lt_of_lt_of_le h hf.le), ho]
      · rw [newId_ge h] at hbc
        subst hbc
        unfold Ent.σout
        rw [if_neg (by omega), show H.next + (b - e.N) - H.next + e.N = b by omega, ha]
    | none =>
      simp only [ha] at hbc
      cases h1 : Nat.beq b 0 with
      | false =>
        rw [h1, cond_false] at hbc
        obtain ⟨h1, h2⟩ := cond_some hbc
        cases h2
        obtain ⟨o, ho⟩ := (hF.kill b h1).1
        unfold Ent.σout; rw [if_pos (Nat.lt_of_lt_of_le (hF.hin b o ho) hf.le), ho]
      | true =>
      rw [h1, cond_true] at hbc
      obtain rfl := Nat.eq_of_beq_eq_true h1
      cases hbc
      unfold Ent.σout
      rw [if_pos (Nat.lt_of_lt_of_le hF.pos hf.le), hL.nil]
      cases lkp e.hin 0 with
      | none => exact hH.nil
      | some o => rfl
  rw [this]
  cases σ2 b <;> trivial
theorem Ent.leads [Base] {e : Ent} {H H2 : AH} {σ σ2 : Ren} {w w2 : World} (hF : Form e) (hf : Fits e H) (hfo : e.found H2 = true) (hH : HRel σ H w) (L : Leads (e.σin σ) e.start w σ2 H2 w2) :
    Leads σ H w (e.σout H.next σ σ2) (e.laid H) w2 := by
  have hC := Ent.compat (σ := σ) hF hf hH L.rel
  have T := Ent.cases_out (σ := σ) (σ2 := σ2) hF hf hfo
  have hfr : ∀ b cb δ f, σ b = .to cb δ f → lkp e.hin b = none → w2.heap[cb]? = w.heap[cb]? ∧ ∀ x δ f, σ2 x ≠ .to cb δ f := fun b cb δ f hb hn => by
    obtain ⟨o, _, ho⟩ := hH.obj b cb δ f hb
    exact L.frame cb ho.lt fun x δ' f' hx => by
      obtain ⟨⟨o', ho'⟩, hx'⟩ := Ent.σin_to hx
      rw [hH.inj _ _ _ _ _ _ _ hx' hb, hn] at ho'; cases ho'
  have hno : ∀ b cb δ f, H2.get b = none → σ2 b ≠ .to cb δ f := fun b cb δ f h1 h2 => by
    obtain ⟨o, q, _⟩ := L.rel.obj b cb δ f h2; rw [h1] at q; cases q
  have hext : Ext σ (e.σout H.next σ σ2) := by
    intro b
    rcases T b with ⟨b0, oa, h1, h2, h3, h4, h5, h6, h7⟩ | ⟨h1, h2, h3, h4⟩ | ⟨h1, h2⟩ | ⟨g1, g2, g3, g4, g5⟩
    · rcases Nat.lt_or_ge b H.next with hb | hb
      · obtain ⟨rfl, o, ho⟩ := h7 hb
        have := L.ext b0
        rw [e.σin_some ho] at this
        rw [h3]; exact this
      · rw [hH.fresh b hb]; trivial
    · rw [h1]; cases σ b <;> simp
    · rw [hH.fresh b h2]; trivial
    · obtain ⟨o, ho⟩ := g5
      have := L.ext b
      rw [e.σin_some ho] at this
      rw [g1]; exact this
  refine ⟨⟨?_, ?_, ?_, ?_, ?_, ?_⟩, hext, ?_, ?_, L.size, ?_, L.os, L.froz⟩
  · intro b cb δ f hb
    rcases T b with ⟨b0, oa, h1, h2, h3, h4, h5, h6, h7⟩ | ⟨h1, h2, h3, h4⟩ | ⟨h1, h2⟩ | ⟨g1, g2, g3, g4, g5⟩
    · rw [h3] at hb
      obtain ⟨o, q1, q2⟩ := L.rel.obj b0 cb δ f hb
      rw [h5] at q1; cases q1
      exact ⟨_, h4, q2.ren hC h6⟩
    · rw [h1] at hb
      obtain ⟨o, q1, q2⟩ := hH.obj b cb δ f hb
      exact ⟨o, h2.trans q1, (q2.world (hfr b cb δ f hb h4).1).ext hext⟩
    · rw [h1] at hb; cases hb
    · rw [g1] at hb; exact absurd hb (hno _ _ _ _ g3)
  · intro b b' cb δ f δ' f' hb hb'
    rcases T b with ⟨b0, oa, h1, h2, h3, h4, h5, h6, h7⟩ | ⟨h1, h2, h3, h4⟩ | ⟨h1, h2⟩ | ⟨g1, g2, g3, g4, g5⟩
    · rw [h3] at hb
      rcases T b' with ⟨b0', oa', k1, k2, k3, k4, k5, k6, k7⟩ | ⟨k1, k2, k3, k4⟩ | ⟨k1, k2⟩ | ⟨m1, m2, m3, m4, m5⟩
      · rw [k3] at hb'
        have := L.rel.inj _ _ _ _ _ _ _ hb hb'
        rw [← h2, ← k2, this]
      · rw [k1] at hb'
        exact absurd hb ((hfr b' _ _ _ hb' k4).2 _ _ _)
      · rw [k1] at hb'; cases hb'
      · rw [m1] at hb'; exact absurd hb' (hno _ _ _ _ m3)
    · rw [h1] at hb
      rcases T b' with ⟨b0', oa', k1, k2, k3, k4, k5, k6, k7⟩ | ⟨k1, k2, k3, k4⟩ | ⟨k1, k2⟩ | ⟨m1, m2, m3, m4, m5⟩
      · rw [k3] at hb'
        exact absurd hb' ((hfr b _ _ _ hb h4).2 _ _ _)
      · rw [k1] at hb'
        exact hH.inj _ _ _ _ _ _ _ hb hb'
      · rw [k1] at hb'; cases hb'
      · rw [m1] at hb'; exact absurd hb' (hno _ _ _ _ m3)
    · rw [h1] at hb; cases hb
    · rw [g1] at hb; exact absurd hb (hno _ _ _ _ g3)
  · intro b hb
    rcases T b with ⟨b0, oa, h1, h2, h3, h4, h5, h6, h7⟩ | ⟨h1, h2, h3, h4⟩ | ⟨h1, h2⟩ | ⟨g1, g2, g3, g4, g5⟩
    · rw [h3] at hb
      have := L.rel.dead b0 hb
      rw [h5] at this; cases this
    · rw [h1] at hb; rw [h2]; exact hH.dead b hb
    · rw [h1] at hb; cases hb
    · exact g2
  · rcases T 0 with ⟨b0, oa, h1, h2, h3, h4, h5, h6, h7⟩ | ⟨h1, h2, h3, h4⟩ | ⟨h1, h2⟩ | ⟨g1, g2, g3, g4, g5⟩
    · obtain ⟨rfl, _⟩ := h7 (Nat.lt_of_lt_of_le hF.pos hf.le)
      rw [h3]; exact L.rel.nil
    · rw [h1]; exact hH.nil
    · have := hF.pos; have := hf.le; omega
    · rw [g1]; exact L.rel.nil
  · intro b hb
    have hb : H.next + (e.M - e.N) ≤ b := hb
    have := hF.le
    rcases T b with ⟨b0, oa, h1, h2, h3, h4, h5, h6, h7⟩ | ⟨h1, h2, h3, h4⟩ | ⟨h1, h2⟩ | ⟨g1, g2, g3, g4, g5⟩
    · have q := (hF.all b0 oa h1).1
      rcases Nat.lt_or_ge b0 e.N with hq | hq
      · rw [newId_lt hq] at h2; have := hf.le; omega
      · rw [newId_ge hq] at h2; omega
    · omega
    · exact h1
    · omega
  · intro k hk
    refine ⟨(L.rel.base k hk).1, fun b δ f hb => ?_⟩
    rcases T b with ⟨b0, oa, h1, h2, h3, h4, h5, h6, h7⟩ | ⟨h1, h2, h3, h4⟩ | ⟨h1, h2⟩ | ⟨g1, g2, g3, g4, g5⟩
    · rw [h3] at hb
      obtain ⟨q, q1, q2⟩ := (L.rel.base k hk).2 b0 δ f hb
      rw [h5] at q1; cases q1
      exact ⟨_, h4, q2⟩
    · rw [h1] at hb
      rw [h2]; exact (hH.base k hk).2 b δ f hb
    · rw [h1] at hb; cases hb
    · rw [g1] at hb; exact absurd hb (hno _ _ _ _ g3)
  · show H.next ≤ H.next + _
    omega
  · intro b hb hu
    rcases T b with ⟨b0, oa, h1, h2, h3, h4, h5, h6, h7⟩ | ⟨h1, h2, h3, h4⟩ | ⟨h1, h2⟩ | ⟨g1, g2, g3, g4, g5⟩
    · obtain ⟨rfl, o, ho⟩ := h7 hb
      have := L.stay b0 (hF.hin _ _ ho) (by rw [e.σin_some ho]; exact hu)
      refine ⟨by rw [h3]; exact this.1, ?_⟩
      have q := this.2
      rw [h5, e.start_get, ho] at q
      cases q
      rw [h4, hf.get _ _ ho]
      rcases hf.same with hs | hs
      · rw [hs, (Ent.found_ok hfo).2.1 _ _ ho _ h1]
      · rw [hs.1] at ho; cases ho
    · exact ⟨h1.trans hu, h2⟩
    · omega
    · obtain ⟨o, ho⟩ := g5
      have := (L.stay b (hF.hin _ _ ho) (by rw [e.σin_some ho]; exact hu)).2
      rw [g3, e.start_get, ho] at this; cases this
  · intro cb hc hn
    obtain ⟨q1, q2⟩ := L.frame cb hc fun x δ f hx => hn _ _ _ (Ent.σin_to hx).2
    refine ⟨q1, fun b δ f hb => ?_⟩
    rcases T b with ⟨b0, oa, h1, h2, h3, h4, h5, h6, h7⟩ | ⟨h1, h2, h3, h4⟩ | ⟨h1, h2⟩ | ⟨g1, g2, g3, g4, g5⟩
    · rw [h3] at hb; exact q2 _ _ _ hb
    · rw [h1] at hb; exact hn _ _ _ hb
    · rw [h1] at hb; cases hb
    · rw [g1] at hb; exact absurd hb (hno _ _ _ _ g3)
theorem Ent.sound [Base] {P : Program} {e : Ent} (hE : EntOk P e) {σ : Ren} {H : AH} {w : World} {cargs : List Value} (hf : e.fits H = true) (hH : HRel σ H w) (ha : VRelL σ e.args cargs) :
    Calls P e.f ⟨cargs⟩ w fun ev w' => ∃ cv σ', ev = .returned cv ∧ VRel σ' (renV (e.ρ H.next) 8 e.v) cv ∧ Leads σ H w σ' (e.laid H) w' := by
  have hf := Ent.fits_ok hf
  have hF := Ent.form_ok hE.form
  obtain ⟨H2, hfo, hc⟩ := hE.calls
  have ha' : VRelL (e.σin σ) e.args cargs := by
    rcases hf.same with hs | hs
    · exact ha.ext (Ent.ext_in hH hs)
    · rw [← hs.2]
      exact VRelL.ren (VRel.ren (fun b c h => by cases h) 8) ha
  exact (hc _ _ _ (Ent.rel_in hF hf hH) ha').mono fun ev w' ⟨cv, σ2, h1, h2, h3⟩ =>
    ⟨cv, _, h1, VRel.ren (Ent.compat hF hf hH h3.rel) 8 _ _ h2, Ent.leads hF hf hfo hH h3⟩
def HookAns [Base] (P : Program) (f : FuncId) (args : List Value) (H : AH) (r : HRes) : Prop := ∃ fn, P.funcs[f]? = some fn ∧ fn.body.isSome = true ∧ (fn.name == "runtime.NumGoroutine") = false ∧
  ∀ σ w cargs, HRel σ H w → VRelL σ args cargs → match r with
    | .ret v H' => Calls P f ⟨cargs⟩ w fun e w' => ∃ cv σ', e = .returned cv ∧ VRel σ' v cv ∧ Leads σ H w σ' H' w'
    | .call g as => ∃ cas, VRelL σ as cas ∧ ∀ R : Value → World → Prop, (Calls P g ⟨cas⟩ w fun e w' => ∃ cv, e = .returned cv ∧ R cv w') → Calls P f ⟨cargs⟩ w fun e w' => ∃ cv, e = .returned cv ∧ R cv w'
theorem hookE_ok [Base] {P : Program} {es : List Ent} (hE : ∀ e ∈ es, EntOk P e) {f : FuncId} {args : List Value} {H : AH} {r : HRes} (h : hookE es f args H = some r) : HookAns P f args H r := by
  induction es with
  | nil => cases h
  | cons e es ih =>
    have h : (bif Nat.beq f e.f && lsame args e.args && e.fits H then some (HRes.ret (renV (e.ρ H.next) 8 e.v) (e.laid H)) else hookE es f args H) = some r := h
    cases hc : (Nat.beq f e.f && lsame args e.args && e.fits H) with
    | false => rw [hc, cond_false] at h; exact ih (fun x hx => hE x (List.mem_cons_of_mem _ hx)) h
    | true =>
      rw [hc, cond_true] at h
      cases h
      simp only [Bool.and_eq_true] at hc
      obtain ⟨⟨h1, h2⟩, h3⟩ := hc
      obtain rfl := Nat.eq_of_beq_eq_true h1
      obtain rfl := lsame_eq _ _ h2
      have hk := hE e (List.mem_cons_self ..)
      obtain ⟨fn, f1, f2, f3⟩ := hk.fn
      exact ⟨fn, f1, f2, f3, fun σ w cargs hH ha => Ent.sound hk h3 hH ha⟩
/-- A table of entries behind another hook. -/
noncomputable def hookT (h0 : FuncId → List Value → AH → Option HRes) (es : List Ent) : FuncId → List Value → AH → Option HRes := fun f args H => match h0 f args H with
  | some r => some r
  | none => hookE es f args H
theorem hookT_ok [Base] {P : Program} {h0 : FuncId → List Value → AH → Option HRes} {es : List Ent} (h1 : HookOk P (ctxOf P h0)) (h2 : ∀ e ∈ es, EntOk P e) : HookOk P (ctxOf P (hookT h0 es)) := by
  intro f args H r h
  have h : hookT h0 es f args H = some r := h
  unfold hookT at h
  split at h
  · rename_i r' hr
    cases h
    exact h1 f args H _ hr
  · exact hookE_ok h2 h
end Go.Eng
