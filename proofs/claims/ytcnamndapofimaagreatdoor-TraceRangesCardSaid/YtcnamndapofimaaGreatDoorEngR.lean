/- Operations whose order is open: the plain part. -/
import Derived.Test.YtcnamndapofimaaGreatDoorEngS
namespace Go.Eng
open Go

theorem bmask_bit {acc : List Nat} {o : Oper} {j : Nat} (h : (bmask acc o).testBit j = true) :
    ∃ e ∈ o.after.toList, Region.binds .any e = true ∧ (j = e.on ∨ (acc.getD e.on 0).testBit j = true) := by
  unfold bmask at h
  generalize o.after.toList = l at h ⊢
  induction l with
  | nil => simp at h
  | cons e l ih =>
    simp only at h
    cases hb : Region.binds .any e with
    | false =>
      rw [hb, cond_false] at h
      obtain ⟨e', h1, h2⟩ := ih h
      exact ⟨e', List.mem_cons_of_mem _ h1, h2⟩
    | true =>
      rw [hb, cond_true, Nat.testBit_or, Nat.testBit_or, Bool.or_eq_true, Bool.or_eq_true] at h
      rcases h with (h | h) | h
      · obtain ⟨e', h1, h2⟩ := ih h
        exact ⟨e', List.mem_cons_of_mem _ h1, h2⟩
      · refine ⟨e, List.mem_cons_self, hb, .inl ?_⟩
        rw [Nat.testBit_two_pow] at h
        exact (of_decide_eq_true h).symm
      · exact ⟨e, List.mem_cons_self, hb, .inr h⟩
theorem bmasks_cons (o : Oper) (l : List Oper) (acc : List Nat) : bmasks (o :: l) acc = bmasks l (acc ++ [bmask acc o]) := rfl
theorem bmasks_front : ∀ (l : List Oper) (acc : List Nat), ∃ bs, bmasks l acc = acc ++ bs
  | [], acc => ⟨[], by simp [bmasks]⟩
  | o :: l, acc => by
    obtain ⟨bs, h⟩ := bmasks_front l (acc ++ [bmask acc o])
    exact ⟨bmask acc o :: bs, by rw [bmasks_cons, h]; simp⟩
theorem getD_front {acc bs : List Nat} {i j : Nat} (h : (acc.getD i 0).testBit j = true) : ((acc ++ bs).getD i 0).testBit j = true := by
  by_cases hi : i < acc.length
  · simp only [List.getD] at h ⊢
    rw [List.getElem?_append_left hi]; exact h
  · simp [List.getD, List.getElem?_eq_none (Nat.le_of_not_lt hi)] at h
theorem bmasks_bit : ∀ (l : List Oper) (acc : List Nat) (i j : Nat), ((bmasks l acc).getD i 0).testBit j = true →
    (acc.getD i 0).testBit j = true ∨ ∃ o, acc.length ≤ i ∧ l[i - acc.length]? = some o ∧ ∃ e ∈ o.after.toList, Region.binds .any e = true ∧ (j = e.on ∨ ((bmasks l acc).getD e.on 0).testBit j = true)
  | [], acc, i, j, h => .inl (by simpa [bmasks] using h)
  | o :: l, acc, i, j, h => by
    rw [bmasks_cons] at h ⊢
    rcases bmasks_bit l (acc ++ [bmask acc o]) i j h with h1 | ⟨o', h1, h2, h3⟩
    · by_cases hi : i < acc.length
      · left
        simp only [List.getD] at h1 ⊢
        rwa [List.getElem?_append_left hi] at h1
      · by_cases he : i = acc.length
        · subst he
          right
          refine ⟨o, Nat.le_refl _, by simp, ?_⟩
          have h1 : (bmask acc o).testBit j = true := by simpa [List.getD] using h1
          obtain ⟨e, q1, q2, q3⟩ := bmask_bit h1
          refine ⟨e, q1, q2, ?_⟩
          rcases q3 with q3 | q3
          · exact .inl q3
          · right
            obtain ⟨bs, hbs⟩ := bmasks_front l (acc ++ [bmask acc o])
            rw [hbs]
            exact getD_front (getD_front q3)
        · simp [List.getD, List.getElem?_eq_none (show (acc ++ [bmask acc o]).length ≤ i by simp; omega)] at h1
    · right
      simp only [List.length_append, List.length_cons, List.length_nil] at h1 h2
      refine ⟨o', by omega, ?_, h3⟩
      rw [show i - acc.length = (i - (acc.length + 1)) + 1 by omega, List.getElem?_cons_succ]
      exact h2
theorem pairsOk_spec (all : List Oper) (bf : List Nat) : ∀ (l : List (Nat × Oper)), pairsOk all bf l = true →
    l.Pairwise (fun x y => (isEff x.2.op || conflict all x.2 y.2) = true → (bf.getD y.1 0).testBit x.1 = true) ∧ ∀ x ∈ l, hasDefer x.2.op = false
  | [], _ => ⟨.nil, fun x hx => by cases hx⟩
  | x :: l, h => by
    unfold pairsOk at h
    simp only [Bool.and_eq_true, Bool.not_eq_true', List.all_eq_true, Bool.or_eq_true] at h
    obtain ⟨⟨h1, h2⟩, h3⟩ := h
    obtain ⟨q1, q2⟩ := pairsOk_spec all bf l h3
    refine ⟨.cons (fun y hy he => ?_) q1, fun y hy => ?_⟩
    · rcases h2 y hy with h | h
      · rw [he] at h; cases h
      · exact h
    · rcases List.mem_cons.1 hy with rfl | hy
      · exact h1
      · exact q2 y hy
theorem distinct_spec : ∀ (l : List Nat), distinct l = true → l.Nodup
  | [], _ => .nil
  | x :: l, h => by
    unfold distinct at h
    simp only [Bool.and_eq_true, Bool.not_eq_true', List.all_eq_true] at h
    refine List.nodup_cons.2 ⟨fun hx => ?_, distinct_spec l h.2⟩
    have := h.1 x hx
    rw [Nat.beq_refl] at this; cases this

theorem strEq_true {a b : ByteArray} (h : strEq a b = true) : a = b := by
  unfold strEq at h
  rw [bytesEq_eq, beq_iff_eq] at h
  cases a with | mk x => cases b with | mk y =>
  exact congrArg ByteArray.mk (Array.toList_inj.1 h)
theorem vsame_eq : ∀ (f : Nat) (a b : Value), vsame f a b = true → a = b := by
  have strs : ∀ (f : Nat) (xs ys : List Value), (∀ a b, vsame f a b = true → a = b) → xs.length = ys.length → ((xs.zip ys).all fun p => vsame f p.1 p.2) = true → xs = ys := by
    intro f xs
    induction xs with
    | nil => intro ys _ h _; cases ys with
      | nil => rfl
      | cons => cases h
    | cons x xs ih =>
      intro ys ha h h2
      cases ys with
      | nil => cases h
      | cons y ys =>
        simp only [List.zip_cons_cons, List.all_cons, Bool.and_eq_true] at h2
        rw [ha x y h2.1, ih ys ha (by simpa using h) h2.2]
  have nb : ∀ a b : Nat, Nat.beq a b = true ↔ a = b := fun a b => ⟨Nat.eq_of_beq_eq_true, fun h => by rw [h]; exact Nat.beq_refl b⟩
  intro f
  induction f with
  | zero =>
    intro a b h
    unfold vsame at h
    split at h
    all_goals first
      | cases h; done
      | rfl
      | (rw [strEq_true h]; done)
      | (simp only [Bool.and_eq_true, beq_iff_eq, kindEq_eq, ieq_eq, nb] at h; simp_all; done)
      | skip
  | succ f ih =>
    intro a b h
    unfold vsame at h
    split at h
    case h_14 =>
      rename_i xs ys hf
      cases hf
      simp only [Bool.and_eq_true, nb] at h
      rw [strs _ xs ys ih h.1 h.2]
    case h_15 =>
      rename_i xs ys hf
      cases hf
      simp only [Bool.and_eq_true, nb] at h
      rw [strs _ xs ys ih h.1 h.2]
    case h_16 =>
      rename_i g xs ys h' zs us hf
      cases hf
      simp only [Bool.and_eq_true, nb] at h
      obtain ⟨⟨⟨⟨h1, h2⟩, h3⟩, h4⟩, h5⟩ := h
      rw [h1, strs _ xs zs ih h2 h4, strs _ ys us ih h3 h5]
    case h_13 =>
      rename_i hf
      cases hf
      simp only [Bool.and_eq_true, nb] at h
      rw [h.1, ih _ _ h.2]
    all_goals first
      | cases h; done
      | rfl
      | (rw [strEq_true h]; done)
      | (simp only [Bool.and_eq_true, beq_iff_eq, kindEq_eq, ieq_eq, nb] at h; simp_all; done)
      | skip
end Go.Eng
