/- The engine's operations are sound, one by one: what hangs on values alone. -/
import Derived.Test.YtcnamndapofimaaGreatDoorEngB
import Derived.Lib.Strings
namespace Go.Eng
open Go

structure TIok (P : Program) (t : TypeId) (i : TI) : Prop where
  under : P.underlying t = some i.desc
  info : ∃ inf, P.info? t = some inf ∧ inf.size = i.size ∧ inf.bytes = i.bytes ∧ inf.zero = some i.zval ∧ inf.comparable = i.cmp ∧ inf.methods = i.methods
  closed : closedV 4 i.zval = true
  guard : i.guard = P.eqGuardType P.depth t
  held : i.held = P.stoodInHeld t
  places : placesOf P i.desc = some i.places
theorem mkTI_ok {P : Program} {t : TypeId} {i : TI} (h : mkTI P t = some i) : TIok P t i := by
  unfold mkTI at h
  split at h
  · rename_i inf d h1 h2
    split at h
    · rename_i z pl h3 h4
      cases hc : closedV 4 z with
      | false => simp [hc] at h
      | true =>
        simp only [hc, cond_true, Option.some.injEq] at h
        subst h
        exact ⟨h2, ⟨inf, h1, rfl, rfl, h3, rfl, rfl⟩, hc, rfl, rfl, h4⟩
    · simp at h
  · simp at h

structure CtxOk (C : Ctx) (P : Program) : Prop where
  ty : ∀ t i, C.ti t = some i → TIok P t i
  fn : ∀ f fn, C.fn f = some fn → P.funcs[f]? = some fn
theorem ctxOf_ok (P : Program) (hook : FuncId → List Value → AH → Option HRes) : CtxOk (ctxOf P hook) P where
  ty t i h := by
    unfold Ctx.ti ctxOf at h
    simp only [T.get_lay, T.get_leaf] at h
    split at h
    · rename_i o ho
      split at ho
      · rename_i hr
        simp only [Nat.sub_zero, List.getElem?_map, Option.map_eq_some_iff] at ho
        obtain ⟨a, ha, rfl⟩ := ho
        simp at hr
        rw [List.getElem?_range hr] at ha
        obtain rfl : t = a := by simpa using ha
        exact mkTI_ok h
      · simp at ho
    · simp at h
  fn f fn h := h

section
variable {P : Program} {C : Ctx} {σ : Ren}
theorem TIok.run_under {t : TypeId} {i : TI} (h : TIok P t i) (w : World) : (underlying t).run P w = .ok i.desc w := run_underlying h.under w
theorem TIok.run_size {t : TypeId} {i : TI} (h : TIok P t i) (w : World) : (sizeOf t).run P w = .ok i.size w := by
  obtain ⟨inf, h1, h2, _⟩ := h.info
  simp [sizeOf, typeInfo, h1, h2]
theorem TIok.run_zero {t : TypeId} {i : TI} (h : TIok P t i) (w : World) : (zeroValue t).run P w = .ok i.zval w := by
  obtain ⟨inf, h1, _, _, h2, _⟩ := h.info
  simp [zeroValue, typeInfo, h1, h2]
theorem TIok.run_agg {t : TypeId} {i : TI} (h : TIok P t i) (w : World) : (isAgg t).run P w = .ok i.agg w := by
  unfold isAgg TI.agg
  simp only [Sem.run_bind, h.run_under w, Result.andThen_ok]
  cases i.desc <;> rfl
theorem TIok.run_info {t : TypeId} {i : TI} (h : TIok P t i) (w : World) : ∃ inf, (typeInfo t).run P w = .ok inf w ∧ inf.bytes = i.bytes ∧ inf.comparable = i.cmp ∧ inf.methods = i.methods := by
  obtain ⟨inf, h1, h2, h3, h4, h5, h6⟩ := h.info
  exact ⟨inf, by simp [typeInfo, h1], h3, h5, h6⟩
theorem TIok.zrel {t : TypeId} {i : TI} (h : TIok P t i) : VRel σ i.zval i.zval := closedV_rel _ _ h.closed

theorem ilt_eq (a b : Int) : ilt a b = decide (a < b) := by
  cases a <;> cases b <;> simp only [ilt] <;> (rw [Bool.eq_iff_iff]; simp [Nat.blt_eq] <;> omega)
theorem ieq_eq (a b : Int) : ieq a b = (a == b) := by
  cases a <;> cases b <;> simp only [ieq] <;> (rw [Bool.eq_iff_iff]; simp <;> omega)
theorem wrap_i64 (n : Int) (h0 : -9223372036854775808 ≤ n) (h1 : n < 9223372036854775808) : IntKind.wrap .i64 n = n := by
  have e1 : (2 : Int) ^ IntKind.bits .i64 = 18446744073709551616 := by decide
  have e2 : (2 : Int) ^ (IntKind.bits .i64 - 1) = 9223372036854775808 := by decide
  unfold IntKind.wrap
  simp only [e1, e2, IntKind.signed, Bool.true_and, ge_iff_le, decide_eq_true_eq]
  split <;> omega
theorem cond_or {α : Type} (c : Bool) (x y : α) (h : c = true → x = y) : (bif c then x else y) = y := by cases c with | false => rfl | true => exact h rfl
theorem awrap_eq (k : IntKind) (n : Int) : awrap k n = k.wrap n := by
  unfold awrap
  split
  · rename_i m
    refine cond_or _ _ _ fun h => ?_
    rw [Nat.blt_eq] at h
    exact (wrap_i64 _ (by have : (0 : Int) ≤ Int.ofNat m := Int.natCast_nonneg m; omega) (by rw [Int.ofNat_eq_natCast]; omega)).symm
  · rename_i m
    refine cond_or _ _ _ fun h => ?_
    rw [Nat.blt_eq] at h
    exact (wrap_i64 _ (by rw [Int.negSucc_eq]; omega) (by rw [Int.negSucc_eq]; omega)).symm
  · rfl
theorem bytesEq_eq : ∀ (l m : List UInt8), bytesEq l m = (l == m)
  | [], [] => rfl
  | [], _ :: _ => rfl
  | _ :: _, [] => rfl
  | a :: l, b :: m => by
    unfold bytesEq
    rw [bytesEq_eq l m]
    by_cases h : a = b
    · subst h; simp
    · have : ¬ a.toNat = b.toNat := fun e => h (UInt8.toNat_inj.1 e)
      have h2 : Nat.beq a.toNat b.toNat = false := by rw [← Bool.not_eq_true, Nat.beq_eq]; exact this
      rw [h2]
      simp [h]
theorem strEq_eq (a b : ByteArray) : strEq a b = (a.toList == b.toList) := by
  unfold strEq; rw [bytesEq_eq, ByteArray.toList_eq, ByteArray.toList_eq]
theorem strEq_eq' (a b : ByteArray) : strEq a b = (a == b) := by
  unfold strEq
  rw [bytesEq_eq]
  cases a with | mk x => cases b with | mk y =>
  show (x.toList == y.toList) = (x == y)
  rw [Bool.eq_iff_iff]
  simp
theorem kindEq_eq (j k : IntKind) : kindEq j k = true ↔ j = k := by cases j <;> cases k <;> simp [kindEq]
end
end Go.Eng
