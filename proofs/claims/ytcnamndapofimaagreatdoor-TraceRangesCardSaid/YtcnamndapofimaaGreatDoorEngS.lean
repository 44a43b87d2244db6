/- The code's own steps, and the engine whole. -/
import Derived.Test.YtcnamndapofimaaGreatDoorEngQ
namespace Go.Eng
open Go
section
variable {P : Program} {C : Ctx}
def DrawOk [Base] (P : Program) (C : Ctx) (ih : Code → AFr → AH → Out) : Prop := ∀ (id : Nat) (ops : Array Oper) fr H e fr' H', adraw C ih ops.toList fr H = .ok e fr' H' → ∀ σ w F cs k, FRel P σ fr F → HRel σ H w → KindOk F cs → F.todo = .code (.region id ops true) :: k →
  ∃ F' w' σ', Steps P (lone F cs w) (lone F' cs w') ∧ Arr e k F' ∧ FRel P σ' fr' F' ∧ Leads σ H w σ' H' w' ∧ Keeps F F'
theorem Steps.tail {m m₁ m' : Machine} (h : Steps P m m') (hs : step P m = .next m₁) (hne : m ≠ m') : Steps P m₁ m' := by
  obtain ⟨n, hn⟩ := h
  cases n with
  | zero => simp [runN] at hn; exact absurd hn hne
  | succ n => exact ⟨n, by simpa [runN, hs] using hn⟩
theorem lone_inj {F F' : Frame} {cs : List Frame} {w w' : World} (h : lone F cs w = lone F' cs w') : F = F' := by
  unfold lone at h
  simpa using congrArg Machine.gs h |> fun e => by
    simp at e; exact e
theorem Arr.ne {e : AExit} {k : List Item} {F F0 : Frame} (h : Arr e k F) {b : Code} (h0 : F0.todo = .code (.loop b) :: k) : F0 ≠ F := by
  intro he
  subst he
  cases e with
  | normal => have h : F0.todo = k := h; rw [h0] at h; exact absurd (congrArg List.length h) (by simp)
  | exit id => obtain ⟨k', h, _⟩ := h; rw [h0] at h; cases h
  | ret => obtain ⟨k', h⟩ := h; rw [h0] at h; cases h
theorem engStep_ok [Base] {ih : Code → AFr → AH → Out} (hC : CtxOk C P) (hN : NamesOk P C) (hK : HookOk P C) (hD : DrawOk P C ih) (hcode : CodeOk P C ih) : CodeOk P C (engStep C ih) := by
  intro c fr H e fr' H' h σ w F cs k hf hH hk ht
  cases c with
  | skip => cases h; exact ⟨_, w, σ, .one (st_skip hf.mode ht), rfl, hf.todo k, Leads.refl hH, rfl, rfl, rfl⟩
  | label l => cases h; exact ⟨_, w, σ, .one (st_label hf.mode ht), rfl, hf.todo k, Leads.refl hH, rfl, rfl, rfl⟩
  | seq a b =>
    simp only [engStep] at h
    split at h
    · rename_i fr1 H1 ha
      obtain ⟨F1, w1, σ1, p1, p2, p3, p4, p5⟩ := hcode _ _ _ _ _ _ ha σ w { F with todo := .code a :: .code b :: k } cs (.code b :: k) (hf.todo _) hH hk rfl
      obtain ⟨F2, w2, σ2, q1, q2, q3, q4, q5⟩ := hcode _ _ _ _ _ _ h σ1 w1 F1 cs k p3 p4.rel (hk.keeps p5) p2
      exact ⟨F2, w2, σ2, (Steps.head (st_seq hf.mode ht) p1).trans q1, q2, q3, p4.trans q4, Keeps.trans p5 q5⟩
    · rename_i e1 fr1 H1 hne ha
      cases h
      obtain ⟨F1, w1, σ1, p1, p2, p3, p4, p5⟩ := hcode _ _ _ _ _ _ ha σ w { F with todo := .code a :: .code b :: k } cs (.code b :: k) (hf.todo _) hH hk rfl
      refine ⟨F1, w1, σ1, Steps.head (st_seq hf.mode ht) p1, ?_, p3, p4, p5⟩
      cases e with
      | normal => exact absurd rfl (hne)
      | exit id => obtain ⟨k', y1, y2⟩ := p2; exact ⟨k', y1, y2⟩
      | ret => exact p2
    · cases h
  | cond x a b =>
    simp only [engStep] at h
    have hx := aev_rel hf.tm x
    split at h
    · rename_i hv
      rw [hv] at hx
      obtain ⟨F1, w1, σ1, p1, p2, p3, p4, p5⟩ := hcode _ _ _ _ _ _ h σ w { F with todo := .code a :: k } cs k (hf.todo _) hH hk rfl
      exact ⟨F1, w1, σ1, Steps.head (st_cond hf.mode ht hx.bool_inv) p1, p2, p3, p4, p5⟩
    · rename_i hv
      rw [hv] at hx
      obtain ⟨F1, w1, σ1, p1, p2, p3, p4, p5⟩ := hcode _ _ _ _ _ _ h σ w { F with todo := .code b :: k } cs k (hf.todo _) hH hk rfl
      exact ⟨F1, w1, σ1, Steps.head (st_cond hf.mode ht hx.bool_inv) p1, p2, p3, p4, p5⟩
    · cases h
  | block id b =>
    simp only [engStep] at h
    split at h
    · rename_i j fr1 H1 hb
      obtain ⟨F1, w1, σ1, p1, p2, p3, p4, p5⟩ := hcode _ _ _ _ _ _ hb σ w { F with todo := .code b :: .inBlock id :: k } cs (.inBlock id :: k) (hf.todo _) hH hk rfl
      obtain ⟨k', y1, y2⟩ := p2
      have p1 := Steps.head (st_block hf.mode ht) p1
      cases hj : Nat.beq j id with
      | true =>
        rw [hj, cond_true] at h
        cases h
        have hj := Nat.eq_of_beq_eq_true hj
        have y2 : exitTo j k' = some k := by rw [y2]; simp [exitTo, hj]
        exact ⟨_, w1, σ1, p1.trans (.one (st_exit p3.mode y1 y2)), rfl, p3.todo k, p4, p5⟩
      | false =>
        rw [hj, cond_false] at h
        cases h
        have hj : ¬ j = id := fun e => by rw [e, Nat.beq_refl] at hj; cases hj
        refine ⟨F1, w1, σ1, p1, ⟨k', y1, ?_⟩, p3, p4, p5⟩
        rw [y2]; simp [exitTo, Ne.symm hj]
    · rename_i e1 fr1 H1 hne hb
      cases h
      obtain ⟨F1, w1, σ1, p1, p2, p3, p4, p5⟩ := hcode _ _ _ _ _ _ hb σ w { F with todo := .code b :: .inBlock id :: k } cs (.inBlock id :: k) (hf.todo _) hH hk rfl
      have p1 := Steps.head (st_block hf.mode ht) p1
      cases e with
      | normal => exact ⟨_, w1, σ1, p1.trans (.one (st_inBlock p3.mode p2)), rfl, p3.todo k, p4, p5⟩
      | exit j => exact absurd rfl (hne j)
      | ret => exact ⟨F1, w1, σ1, p1, p2, p3, p4, p5⟩
    · cases h
  | loop b =>
    simp only [engStep] at h
    split at h
    · rename_i fr1 H1 ha
      obtain ⟨F1, w1, σ1, p1, p2, p3, p4, p5⟩ := hcode _ _ _ _ _ _ ha σ w { F with todo := .code b :: .inLoop b :: k } cs (.inLoop b :: k) (hf.todo _) hH hk rfl
      obtain ⟨F2, w2, σ2, q1, q2, q3, q4, q5⟩ := hcode _ _ _ _ _ _ h σ1 w1 { F1 with todo := .code (.loop b) :: k } cs k (p3.todo _) p4.rel (hk.keeps p5) rfl
      have q1 := Steps.tail q1 (st_loop p3.mode rfl) (fun e => q2.ne (F0 := { F1 with todo := .code (.loop b) :: k }) rfl (lone_inj e))
      exact ⟨F2, w2, σ2, (Steps.head (st_loop hf.mode ht) p1).trans (.head (st_inLoop p3.mode p2) q1), q2, q3, p4.trans q4, Keeps.trans p5 q5⟩
    · rename_i e1 fr1 H1 hne ha
      cases h
      obtain ⟨F1, w1, σ1, p1, p2, p3, p4, p5⟩ := hcode _ _ _ _ _ _ ha σ w { F with todo := .code b :: .inLoop b :: k } cs (.inLoop b :: k) (hf.todo _) hH hk rfl
      refine ⟨F1, w1, σ1, Steps.head (st_loop hf.mode ht) p1, ?_, p3, p4, p5⟩
      cases e with
      | normal => exact absurd rfl (hne)
      | exit id => obtain ⟨k', y1, y2⟩ := p2; exact ⟨k', y1, y2⟩
      | ret => exact p2
    · cases h
  | scope b =>
    simp only [engStep] at h
    obtain ⟨F1, w1, σ1, p1, p2, p3, p4, p5⟩ := hcode _ _ _ _ _ _ h σ w { F with todo := .code b :: .inScope b :: k } cs (.inScope b :: k) (hf.todo _) hH hk rfl
    have p1 := Steps.head (st_scope hf.mode ht) p1
    cases e with
    | normal => exact ⟨_, w1, σ1, p1.trans (.one (st_inScope p3.mode p2)), rfl, p3.todo k, p4, p5⟩
    | exit id => obtain ⟨k', y1, y2⟩ := p2; exact ⟨F1, w1, σ1, p1, ⟨k', y1, y2⟩, p3, p4, p5⟩
    | ret => exact ⟨F1, w1, σ1, p1, p2, p3, p4, p5⟩
  | exit id => cases h; exact ⟨F, w, σ, Steps.refl P _, ⟨k, ht, rfl⟩, hf, Leads.refl hH, Keeps.refl F⟩
  | ret => cases h; exact ⟨F, w, σ, Steps.refl P _, ⟨k, ht⟩, hf, Leads.refl hH, Keeps.refl F⟩
  | region id ops draw =>
    simp only [engStep] at h
    cases draw with
    | true =>
      rw [cond_true] at h
      have h : adraw C ih ops.toList fr H = .ok e fr' H' := by
        revert h
        cases adraw C ih ops.toList fr H with
        | ok => exact fun h => h
        | bad w => intro h; cases h
      exact hD id ops fr H e fr' H' h σ w F cs k hf hH hk ht
    | false =>
      rw [cond_false] at h
      have h : aseq C ih ops.toList ops.toList 0 fr H = .ok e fr' H' := by
        revert h
        cases aseq C ih ops.toList ops.toList 0 fr H with
        | ok => exact fun h => h
        | bad w => intro h; cases h
      have hk' : KindOk { F with todo := .inRegion ops (List.range ops.size) :: k } cs := hk
      obtain ⟨rfl, F1, w1, σ1, p1, p2, p3, p4, p5⟩ := aseq_ok (k := k) (ops := ops) hC (callOk hC hN hK hcode) (roundOk hcode) ops.toList 0 fr H σ { F with todo := .inRegion ops (List.range ops.size) :: k } w (by simp) (hf.todo _) hH hk' (by
        simp [List.range_eq_range']) h
      exact ⟨_, w1, σ1, (Steps.head (st_region hf.mode ht) p1).trans (.one (st_regionEnd p3.mode p2)), rfl, p3.todo k, p4, p5⟩
  | rangeFunc f ps assign body => exact arange_ok hC hN hK hcode h hf hH hk ht
  | goto l => cases h
  | refuse m => cases h
end
end Go.Eng
