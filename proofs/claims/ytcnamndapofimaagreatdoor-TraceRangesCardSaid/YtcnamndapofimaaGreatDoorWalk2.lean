/- The start: what the caller's memory holds is there to be read, and is left as it is. -/
import Derived.Test.YtcnamndapofimaaGreatDoorWalk1
import Derived.Test.YtcnamndapofimaaGreatDoorEngX
namespace Go.Eng
open Go
section
variable (w : World)
def isCells (b : Nat) : Bool := match w.heap[b]? with
  | some (.cells _ _ _) => true
  | _ => false
noncomputable def absV : Value → Value
  | .bool b => .bool b
  | .int k n => .int k n
  | .string s => .string s
  | .pointer none => .pointer none
  | .slice none n c => .slice none n c
  | .slice (some ⟨b, o, none⟩) n c => bif isCells w b then .slice (some ⟨b + 1, o, none⟩) n c else .slice (some ⟨0, 0, none⟩) n c
  | .slice (some ⟨_, _, some _⟩) n c => .slice (some ⟨0, 0, none⟩) n c
  | .map none => .map none
  | .nilFunc => .nilFunc
  | .nilIface => .nilIface
  | _ => junk
noncomputable def absA : Value → Value
  | .agg ⟨xs⟩ => .agg ⟨xs.map (absV w)⟩
  | v => absV w v
noncomputable def startσ : Ren := fun b => match b with
  | 0 => .dead
  | b + 1 => bif isCells w b then .to b 0 0 else .unborn
noncomputable def startBlk (cs : Array Value) : Blk := { n := cs.size, sz := 1, tr := T.lay (cs.toList.map (absV w)) .leaf 0, zero := [], ro := true }
noncomputable def startO (b : Nat) : Option AObj := match w.heap[b]? with
  | some (.cells cs _ _) => some (.cells (startBlk w cs))
  | _ => none
noncomputable def startH : AH := { next := w.heap.size + 1, tr := T.lay ((List.range w.heap.size).map (startO w)) .leaf 1 }
end
section
variable {w : World}
theorem isCells_lt {b : Nat} (h : isCells w b = true) : b < w.heap.size := by
  unfold isCells at h
  rcases Nat.lt_or_ge b w.heap.size with q | q
  · exact q
  · rw [Array.getElem?_eq_none q] at h; cases h
theorem startH_get (b : Nat) : (startH w).get (b + 1) = startO w b := by
  unfold AH.get startH
  simp only
  rw [T.get_lay]
  by_cases hb : b < w.heap.size
  · rw [if_pos ⟨by omega, by simp; omega⟩]
    simp only [Nat.add_sub_cancel, List.getElem?_map, List.getElem?_range hb, Option.map_some]
  · rw [if_neg (by simp; omega)]
    unfold startO
    rw [Array.getElem?_eq_none (by omega)]
    rfl
theorem startH_zero : (startH w).get 0 = none := by
  unfold AH.get startH
  simp only
  rw [T.get_lay, if_neg (by omega)]
  rfl
theorem startH_wf : WF (startH w) := fun b hb => by
  have hb : w.heap.size + 1 ≤ b := hb
  obtain ⟨c, rfl⟩ : ∃ c, b = c + 1 := ⟨b - 1, by omega⟩
  rw [startH_get]; unfold startO; rw [Array.getElem?_eq_none (by omega)]
theorem startσ_cells {b : Nat} (h : isCells w b = true) : startσ w (b + 1) = .to b 0 0 := by
  show (bif isCells w b then _ else _) = _
  rw [h]; rfl
theorem startσ_dead : startσ w 0 = .dead := rfl
theorem absV_rel (v : Value) : VRel (startσ w) (absV w v) v := by
  unfold absV
  split
  · exact .bool _
  · exact .int _ _
  · exact .string _
  · exact .nilPtr
  · exact .nilSlice _ _
  · rename_i b o n c
    cases h : isCells w b with
    | true => exact .slice (b + 1) o none n c b 0 0 (startσ_cells h)
    | false => exact .sliceDead _ _ _ _ _ _ _ startσ_dead
  · exact .sliceDead _ _ _ _ _ _ _ startσ_dead
  · exact .nilMap
  · exact .nilFunc
  · exact .nilIface
  · exact .any _
theorem absA_rel (v : Value) : VRel (startσ w) (absA w v) v := by
  unfold absA
  split
  · rename_i xs
    refine .agg _ _ (VRelL.of (by simp) fun i x y hx hy => ?_)
    rw [List.getElem?_map, hy] at hx
    cases hx
    exact absV_rel y
  · exact absV_rel _
theorem startBlk_cell (cs : Array Value) (i : Nat) (hi : i < cs.size) : (startBlk w cs).cell i = absV w (cs.getD i undef) := by
  unfold startBlk
  rw [Blk.cell_eq, T.get_lay, if_pos ⟨Nat.zero_le _, by simpa using hi⟩]
  simp [hi]
theorem startH_rel : letI : Base := ⟨w⟩; HRel (startσ w) (startH w) w := by
  letI : Base := ⟨w⟩
  have hto : ∀ {b cb δ e : Nat}, startσ w b = .to cb δ e → b = cb + 1 ∧ isCells w cb = true ∧ δ = 0 ∧ e = 0 := by
    intro b cb δ e h
    cases b with
    | zero => cases h
    | succ b =>
      have h : (bif isCells w b then Slot.to b 0 0 else .unborn) = .to cb δ e := h
      cases hc : isCells w b with
      | true => rw [hc, cond_true] at h; cases h; exact ⟨rfl, hc, rfl, rfl⟩
      | false => rw [hc, cond_false] at h; cases h
  have hget : ∀ {b : Nat}, isCells w b = true → ∃ cs t fz, w.heap[b]? = some (.cells cs t fz) ∧ (startH w).get (b + 1) = some (.cells (startBlk w cs)) := by
    intro b h
    unfold isCells at h
    split at h
    · rename_i cs t fz hb
      refine ⟨cs, t, fz, hb, ?_⟩
      rw [startH_get]; unfold startO; rw [hb]
    · cases h
  refine ⟨?_, ?_, ?_, rfl, ?_, ?_⟩
  · intro b cb δ e h
    obtain ⟨rfl, hc, rfl, rfl⟩ := hto h
    obtain ⟨cs, t, fz, h1, h2⟩ := hget hc
    refine ⟨_, h2, cs, t, fz, h1, ?_, ?_, ?_⟩
    · show cs.size = 0 + cs.size + 0 * 1; omega
    · intro i hi
      rw [startBlk_cell _ _ hi, Nat.zero_add]
      exact absV_rel _
    · intro h; cases h
  · intro b b' cb δ e δ' e' h1 h2
    obtain ⟨rfl, _⟩ := hto h1
    obtain ⟨rfl, _⟩ := hto h2
    rfl
  · intro b h
    cases b with
    | zero => exact startH_zero
    | succ b =>
      have h : (bif isCells w b then Slot.to b 0 0 else .unborn) = .dead := h
      cases hc : isCells w b with
      | true => rw [hc, cond_true] at h; cases h
      | false => rw [hc, cond_false] at h; cases h
  · intro b hb
    have hb : w.heap.size + 1 ≤ b := hb
    obtain ⟨c, rfl⟩ : ∃ c, b = c + 1 := ⟨b - 1, by omega⟩
    show (bif isCells w c then Slot.to c 0 0 else .unborn) = _
    have : isCells w c = false := by
      rw [Bool.eq_false_iff]; intro h; have := isCells_lt h; omega
    rw [this]; rfl
  · intro k hk
    refine ⟨rfl, fun b δ e h => ?_⟩
    obtain ⟨rfl, hc, _⟩ := hto h
    obtain ⟨cs, t, fz, h1, h2⟩ := hget hc
    exact ⟨_, h2, rfl⟩
variable {P : Program} {C : Ctx}
/-- What the engine answers for every input, the function answers; what was there is as it was. -/
theorem FW.calls (hC : CtxOk C P) (hN : NamesOk P C) (hK : ∀ [Base], Base.W0 = w → HookOk P C) (hfol : P.follows .mixedOrders = true) {f : FuncId} {args : List Value} {b : Bool}
    (hh : C.hook f (args.map (absA w)) (startH w) = none) (h : FW C f (args.map (absA w)) (startH w) fun v _ => v = .bool b) :
    Calls P f ⟨args⟩ w fun e w' => e = .returned (.bool b) ∧ w.heap.size ≤ w'.heap.size ∧ (∀ cb, cb < w.heap.size → w'.heap[cb]? = w.heap[cb]?) ∧ (w'.os = w.os ∧ w'.output = w.output ∧ w'.tape = w.tape) ∧ ∀ a, w'.frozen? a = w.frozen? a := by
  letI : Base := ⟨w⟩
  obtain ⟨v, H', ⟨N, hN1⟩, rfl⟩ := h
  have h1 := hN1 N (Nat.le_refl _)
  unfold afun at h1
  rw [hh] at h1
  have hargs : VRelL (startσ w) (args.map (absA w)) args := VRelL.of (by simp) fun i x y hx hy => by
    rw [List.getElem?_map, hy] at hx
    cases hx
    exact absA_rel y
  refine (afunB_ok hC hN (eng_ok hC hN (hK rfl) hfol N) h1 startH_rel hargs).2.mono fun e w' ⟨cv, σ', e1, e2, e3⟩ => ?_
  exact ⟨by rw [e1, e2.bool_inv], e3.size, fun cb hc => (e3.rel.base cb hc).1, e3.os, e3.froz⟩
end
end Go.Eng
/- Slices: what they read; slicing; appending. -/
namespace Go.Eng
open Go
section
variable {C : Ctx} {H H' : AH}
theorem AH.row_cel {b o n : Nat} {l : List Value} (h : H.row b o n = some l) (i : Nat) (hi : i < n) : H.cel b (o + i) = l[i]? := by
  unfold AH.row at h
  unfold AH.cel
  split at h
  · rename_i k hk
    split at h
    · rename_i hn
      cases h
      (try simp only [hk])
      rw [if_pos (by omega), acellsF_get, if_pos hi]
    · cases h
  · cases h
theorem AH.row_len {b o n : Nat} {l : List Value} (h : H.row b o n = some l) : l.length = n := by
  unfold AH.row at h
  split at h
  · split at h
    · cases h; exact acellsF_length _ _ _
    · cases h
  · cases h
theorem AH.row_get {b o n : Nat} {l : List Value} (h : H.row b o n = some l) : ∃ k, H.get b = some (.cells k) := by
  unfold AH.row at h
  split at h
  · rename_i k hk; exact ⟨k, hk⟩
  · cases h
theorem AH.row_sub {b o n : Nat} {l : List Value} (h : H.row b o n = some l) (j m : Nat) (hm : j + m ≤ n) : H.row b (o + j) m = some ((l.drop j).take m) := by
  unfold AH.row at h ⊢
  split at h
  · rename_i k hk
    split at h
    · rename_i hn
      cases h
      (try simp only [hk])
      rw [if_pos (by omega)]
      congr 1
      apply List.ext_getElem?
      intro i
      rw [acellsF_get, List.getElem?_take]
      split
      · rename_i hi; rw [List.getElem?_drop, acellsF_get, if_pos (by omega), Nat.add_assoc]
      · rfl
    · cases h
  · cases h
theorem AH.row_congr {b : Nat} (e : H'.get b = H.get b) (o n : Nat) : H'.row b o n = H.row b o n := by unfold AH.row; rw [e]
theorem AH.cel_congr {b : Nat} (e : H'.get b = H.get b) (o : Nat) : H'.cel b o = H.cel b o := by unfold AH.cel; rw [e]
theorem AH.row_lt {b o n : Nat} {l : List Value} (h : H.row b o n = some l) (w : WF H) : b < H.next := by
  obtain ⟨k, hk⟩ := AH.row_get h
  rcases Nat.lt_or_ge b H.next with q | q
  · exact q
  · rw [w b q] at hk; cases hk
theorem AH.row_keep {b o n : Nat} {l : List Value} {S : List Nat} (h : H.row b o n = some l) (w : WF H) (k : Keep H H' S) (hb : b ∉ S) : H'.row b o n = some l := by
  rw [AH.row_congr (k.get b (AH.row_lt h w) hb)]; exact h

/-! ### What a slice reads -/
/-- The block a slice stands on. -/
def blkOf : Value → List Nat
  | .slice (some ⟨b, _, _⟩) _ _ => [b]
  | _ => []
/-- v is a slice of n elements, of which the cells are cs. -/
def SlAt (H : AH) (v : Value) (n : Nat) (cs : List Value) : Prop :=
  ∃ a c, v = .slice a n c ∧ (n = 0 → cs = []) ∧ (n ≠ 0 → ∃ b o sp, a = some ⟨b, o, sp⟩ ∧ H.row b o cs.length = some cs)
theorem SlAt.keep {v : Value} {n : Nat} {cs : List Value} {S : List Nat} (h : SlAt H v n cs) (w : WF H) (k : Keep H H' S) (hb : ∀ b, n ≠ 0 → b ∈ blkOf v → b ∉ S) : SlAt H' v n cs := by
  obtain ⟨a, c, rfl, h1, h2⟩ := h
  refine ⟨a, c, rfl, h1, fun hn => ?_⟩
  obtain ⟨b, o, sp, rfl, h3⟩ := h2 hn
  exact ⟨b, o, sp, rfl, AH.row_keep h3 w k (hb b hn (by simp [blkOf]))⟩
theorem SlAt.lt {v : Value} {n : Nat} {cs : List Value} (h : SlAt H v n cs) (w : WF H) (hn : n ≠ 0) : ∀ b ∈ blkOf v, b < H.next := by
  obtain ⟨a, c, rfl, _, h2⟩ := h
  obtain ⟨b, o, sp, rfl, h3⟩ := h2 hn
  intro b' hb
  simp [blkOf] at hb
  subst hb
  exact AH.row_lt h3 w
def ints (l : List Int) : List Value := l.map (.int .i64)
@[simp] theorem ints_length (l : List Int) : (ints l).length = l.length := by simp [ints]
@[simp] theorem ints_nil : ints [] = [] := rfl
@[simp] theorem ints_cons (x : Int) (l : List Int) : ints (x :: l) = .int .i64 x :: ints l := rfl
theorem ints_append (l m : List Int) : ints (l ++ m) = ints l ++ ints m := by simp [ints]
theorem ints_get (l : List Int) (i : Nat) : (ints l)[i]? = (l[i]?).map (.int .i64) := by simp [ints]
@[simp] theorem ints_getElem (l : List Int) (i : Nat) (h : i < (ints l).length) : (ints l)[i] = .int .i64 (l[i]'(by simpa using h)) := by simp [ints]
theorem ints_one (l : List Int) : (ints l).all oneCellV = true := by simp [ints, oneCellV]
def IntsAt (H : AH) (v : Value) (l : List Int) : Prop := SlAt H v l.length (ints l)
theorem asrc_sl {v : Value} {n sz : Nat} {cs : List Value} (h : SlAt H v n cs) (hn : cs.length = n * sz) : asrc sz n H v = some cs := by
  obtain ⟨a, c, rfl, h1, h2⟩ := h
  unfold asrc
  by_cases h0 : n = 0
  · have := h1 h0; subst this; subst h0
    cases a with
    | none => rfl
    | some a => rfl
  · obtain ⟨b, o, sp, rfl, h3⟩ := h2 h0
    simp only
    rw [show Nat.beq n 0 = false by rw [Bool.eq_false_iff, Ne, Nat.beq_eq]; exact h0, cond_false]
    unfold AH.row at h3
    split at h3
    · rename_i k hk
      simp only [hk]
      split at h3
      · rename_i hh
        rw [← hn, show Nat.ble (o + cs.length) k.n = true by rw [Nat.ble_eq]; exact hh, cond_true]
        exact h3
      · cases h3
    · cases h3

/-! ### Appending -/
/-- A slice that the one who holds it may append to: n elements of sz cells; the cells are cs. -/
def Own (H : AH) (v : Value) (n sz : Nat) (cs : List Value) : Prop :=
  cs.length = n * sz ∧ ((v = .slice none 0 0 ∧ n = 0) ∨ ∃ b o sp cap k, v = .slice (some ⟨b, o, sp⟩) n cap ∧ n ≤ cap ∧ H.get b = some (.cells k) ∧ k.ro = false ∧ k.sz = sz ∧
    acellsF k (n * sz) o = cs ∧ (if sp.isSome then k.n = o + cap * sz else o + cap * sz ≤ k.n))
theorem Own.sl {v : Value} {n sz : Nat} {cs : List Value} (h : Own H v n sz cs) : SlAt H v n cs := by
  obtain ⟨hl, h⟩ := h
  have h0 : n = 0 → cs = [] := fun e => by subst e; simpa using hl
  rcases h with ⟨rfl, rfl⟩ | ⟨b, o, sp, cap, k, rfl, h1, h2, h3, h4, h5, h6⟩
  · exact ⟨none, 0, rfl, h0, fun e => absurd rfl e⟩
  · refine ⟨_, cap, rfl, h0, fun _ => ⟨b, o, sp, rfl, ?_⟩⟩
    unfold AH.row
    simp only [h2]
    have : o + cap * sz ≤ k.n := by split at h6 <;> omega
    have : n * sz ≤ cap * sz := Nat.mul_le_mul_right _ h1
    rw [if_pos (by omega), hl, h5]
theorem Own.keep {v : Value} {n sz : Nat} {cs : List Value} {S : List Nat} (h : Own H v n sz cs) (w : WF H) (k : Keep H H' S) (hb : ∀ b ∈ blkOf v, b ∉ S) : Own H' v n sz cs := by
  obtain ⟨hl, h⟩ := h
  refine ⟨hl, ?_⟩
  rcases h with h | ⟨b, o, sp, cap, q, rfl, h1, h2, h3⟩
  · exact .inl h
  · refine .inr ⟨b, o, sp, cap, q, rfl, h1, ?_, h3⟩
    have hlt : b < H.next := by
      rcases Nat.lt_or_ge b H.next with q | q
      · exact q
      · rw [w b q] at h2; cases h2
    rw [k.get b hlt (hb b (by simp [blkOf]))]; exact h2
theorem Own.lt {v : Value} {n sz : Nat} {cs : List Value} (h : Own H v n sz cs) (w : WF H) : ∀ b ∈ blkOf v, b < H.next := by
  obtain ⟨hl, h⟩ := h
  rcases h with ⟨rfl, _⟩ | ⟨b, o, sp, cap, q, rfl, h1, h2, h3⟩
  · intro b hb; simp [blkOf] at hb
  · intro b' hb
    simp [blkOf] at hb
    subst hb
    rcases Nat.lt_or_ge b' H.next with q | q
    · exact q
    · rw [w b' q] at h2; cases h2
theorem Own.nil (H : AH) (sz : Nat) : Own H (.slice none 0 0) 0 sz [] := ⟨by simp, .inl ⟨rfl, rfl⟩⟩
theorem acellsF_all (k : Blk) (l : List Value) (o n : Nat) (hn : n = l.length) (h : ∀ i, i < n → l[i]? = some (k.cell (o + i))) : acellsF k n o = l := by
  apply List.ext_getElem?
  intro i
  rw [acellsF_get]
  split
  · rename_i hi; rw [h i hi]
  · rw [List.getElem?_eq_none (by omega)]
theorem Own.laid (H : AH) (l : List Value) (n sz : Nat) (z : List Value) (hl : l.length = n * sz) : Own (H.push (.cells { n := n * sz, sz := sz, tr := T.lay l .leaf 0, zero := z })) (.slice (some ⟨H.next, 0, some 0⟩) n n) n sz l :=
  ⟨hl, .inr ⟨H.next, 0, some 0, n, _, rfl, Nat.le_refl _, by rw [AH.get_push, if_pos rfl], rfl, rfl, acellsF_all _ _ _ _ hl.symm fun i hi => by
    rw [Nat.zero_add, cell_lay0 _ _ _ _ _ (by omega)]; exact List.getElem?_eq_getElem (by omega), by simp⟩⟩
/-- What is owned may be appended to. -/
theorem own_append {j : TI} {v : Value} {n m : Nat} {cs new : List Value} (h : Own H v n j.size cs) (w : WF H) (hz : j.zero.length = j.size) (hb : 0 < j.bytes) (hn : new.length = m * j.size) (h1 : new.all oneCellV = true)
    (hs : (n + m) * j.bytes ≤ 140737488355328) :
    ∃ v' H', aappend j H v m new = some (v', H') ∧ Own H' v' (n + m) j.size (cs ++ new) ∧ Keep H H' (blkOf v) ∧ WF H' ∧ (∀ b ∈ blkOf v', b ∈ blkOf v ∨ H.next ≤ b) := by
  obtain ⟨hl, h⟩ := h
  have hlen : (cs ++ new).length = (n + m) * j.size := by rw [List.length_append, hl, hn, Nat.add_mul]
  have c0 : (Nat.beq j.zero.length j.size && Nat.blt 0 j.bytes && Nat.beq new.length (m * j.size)) = true := by simp [hz, hb, hn, Nat.blt_eq]
  have cb : Nat.ble ((n + m) * j.bytes) 140737488355328 = true := by rw [Nat.ble_eq]; exact hs
  unfold aappend
  rw [c0, cond_true]
  rcases h with ⟨rfl, rfl⟩ | ⟨b, o, sp, cap, k, rfl, q1, q2, q3, q4, q5, q6⟩
  · have hcs : cs = [] := by simpa using hl
    subst hcs
    simp only [Nat.zero_add] at hs cb ⊢
    cases hm : Nat.ble m 0 with
    | true =>
      rw [Nat.ble_eq] at hm
      obtain rfl : m = 0 := by omega
      have : new = [] := by simpa using hn
      subst this
      refine ⟨_, _, rfl, Own.nil _ _, Keep.refl _ _, w, fun b hb => .inl hb⟩
    | false =>
      rw [cond_false, cb]
      refine ⟨_, _, rfl, ?_, Keep.push _ _ _, w.push _, fun b hb => ?_⟩
      · simpa using Own.laid H new m j.size j.zero hn
      · simp [blkOf] at hb; subst hb; exact .inr (Nat.le_refl _)
  · simp only [q2]
    have hfit : o + cap * j.size ≤ k.n := by split at q6 <;> omega
    have hnc : n * j.size ≤ cap * j.size := Nat.mul_le_mul_right _ q1
    cases hm : Nat.ble (n + m) cap with
    | true =>
      rw [Nat.ble_eq] at hm
      have hmc : (n + m) * j.size ≤ cap * j.size := Nat.mul_le_mul_right _ hm
      rw [cond_true, q3, cond_false, show (Nat.ble (o + (n + m) * j.size) k.n && new.all oneCellV) = true by rw [h1, Bool.and_true, Nat.ble_eq]; omega, cond_true]
      have hget : (H.set b (.cells { k with tr := T.lay new k.tr (o + n * j.size) })).get b = some (.cells { k with tr := T.lay new k.tr (o + n * j.size) }) := by rw [AH.get_set, if_pos rfl]
      refine ⟨_, _, rfl, ⟨hlen, .inr ⟨b, o, sp, cap, { k with tr := T.lay new k.tr (o + n * j.size) }, rfl, hm, ?_, q3, q4, ?_, q6⟩⟩, Keep.set _ _ _ (by simp [blkOf]), ?_, fun b hb => .inl hb⟩
      · rw [AH.get_set, if_pos rfl, ← q3]
      · refine acellsF_all _ _ _ _ hlen.symm fun i hi => ?_
        rw [blk_lay_cell]
        rw [Nat.add_mul] at hi hmc
        by_cases hc : i < n * j.size
        · rw [if_neg (by omega), List.getElem?_append_left (by omega), ← q5, acellsF_get, if_pos hc]
        · rw [if_pos (by omega), List.getElem?_append_right (by omega), hl]
          rw [show o + i - (o + n * j.size) = i - n * j.size by omega]
          simp [List.getD, List.getElem?_eq_getElem (show i - n * j.size < new.length by omega)]
      · refine w.set _ ?_
        rcases Nat.lt_or_ge b H.next with q | q
        · exact q
        · rw [w b q] at q2; cases q2
    | false =>
      have hm' : ¬ n + m ≤ cap := fun hh => by rw [← Nat.ble_eq, hm] at hh; cases hh
      rw [cond_false, cb, show Nat.ble (o + n * j.size) k.n = true by rw [Nat.ble_eq]; omega, show Nat.ble n cap = true by rw [Nat.ble_eq]; exact q1]
      simp only [Bool.and_self, cond_true]
      rw [q5]
      cases sp with
      | none =>
        refine ⟨_, _, rfl, Own.laid H _ _ _ _ hlen, Keep.push _ _ _, w.push _, fun b hb => ?_⟩
        simp [blkOf] at hb; subst hb; exact .inr (Nat.le_refl _)
      | some s =>
        simp only [Option.isSome_some, if_true] at q6
        simp only
        rw [show (Nat.beq k.sz j.size && Nat.beq k.n (o + cap * j.size) && new.all oneCellV && !k.ro) = true by simp [q4, q6, h1, q3], cond_true]
        refine ⟨_, _, rfl, Own.laid (H.kill b) _ _ _ _ hlen, (Keep.kill _ _ (by simp [blkOf])).trans (Keep.push _ _ _), (w.kill _).push _, fun b hb => ?_⟩
        simp [blkOf] at hb; subst hb; exact .inr (Nat.le_refl _)
end
end Go.Eng
/- Loops over functions, walked. -/
namespace Go.Eng
open Go
section
variable {C : Ctx}
/-- What follows a loop over a function, by what the loop's object says. -/
def AfterLoop (l : Nat) (fr : AFr) (Q : AExit → AFr → AH → Prop) (H : AH) : Prop := ∃ r, H.get l = some (.loop r) ∧ r.st ≠ .busy ∧ (match r.pending with
  | none => Q .normal fr (H.set l (.loop { r with st := .exhausted }))
  | some (.exit id) => Q (.exit id) fr (H.set l (.loop { r with st := .exhausted }))
  | some .ret => Q .ret fr (H.set l (.loop { r with st := .exhausted }))
  | _ => False)
def loopObj (fr : AFr) (ps : Array Tmp) (assign body : Code) : ALoop := { st := .ready, pending := none, tm := fr.tm, n := fr.n, params := ps, assign := assign, body := body }
theorem W.rangeFunc {f : Operand} {ps : Array Tmp} {assign body : Code} {fr : AFr} {H : AH} {Q : AExit → AFr → AH → Prop} {g : FuncId} {first cap : List Value} (hr : fr.rnd = none) (hf : aev fr.tm f = .func (.func g) ⟨first⟩ ⟨cap⟩)
    (h : FW C g ((first ++ [.func (.yield (H.next + 1)) #[] #[]]) ++ cap) ((H.push (.deferred true)).push (.loop (loopObj fr ps assign body)))
      fun _ H3 => AfterLoop (H.next + 1) { fr with ds := .mark H.next :: fr.ds } Q H3) : W C (.rangeFunc f ps assign body) fr H Q := by
  obtain ⟨tm, nn, ds, rnd⟩ := fr
  have hr : rnd = none := hr
  subst hr
  obtain ⟨v, H3, ⟨N, hN⟩, r, h1, h2, h3⟩ := h
  have key : ∀ n, N ≤ n → ∀ o, (match r.pending with
      | none => Out.ok .normal { tm := tm, n := nn, ds := .mark H.next :: ds, rnd := none } (H3.set (H.next + 1) (.loop { r with st := .exhausted }))
      | some (.exit id) => .ok (.exit id) { tm := tm, n := nn, ds := .mark H.next :: ds, rnd := none } (H3.set (H.next + 1) (.loop { r with st := .exhausted }))
      | some .ret => .ok .ret { tm := tm, n := nn, ds := .mark H.next :: ds, rnd := none } (H3.set (H.next + 1) (.loop { r with st := .exhausted }))
      | some _ => .bad [10002]) = o → engStep C (eng C n) (.rangeFunc f ps assign body) { tm := tm, n := nn, ds := ds, rnd := none } H = o := by
    intro n hn o ho
    show arange C (eng C n) f ps assign body { tm := tm, n := nn, ds := ds, rnd := none } H = o
    unfold arange
    simp only [rndOk, rngH, rngD, cond_true, hf]
    have hN := hN n hn
    unfold loopObj at hN
    simp only [AH.next_push] at hN ⊢
    rw [hN]
    simp only [h1]
    cases hst : r.st with
    | busy => exact absurd hst h2
    | _ => exact ho
  split at h3
  · rename_i hp; exact ⟨_, _, _, .of_step N fun n hn => key n hn _ (by rw [hp]), h3⟩
  · rename_i hp; exact ⟨_, _, _, .of_step N fun n hn => key n hn _ (by rw [hp]), h3⟩
  · rename_i hp; exact ⟨_, _, _, .of_step N fun n hn => key n hn _ (by rw [hp]), h3⟩
  · exact h3.elim
/-- What follows a round. -/
def AfterRound (l : Nat) (K : Value → AH → Prop) (e : AExit) (H : AH) : Prop := ∃ r, H.get l = some (.loop r) ∧ (match e with
  | .normal => K (.bool true) (H.set l (.loop { r with st := .ready, pending := none }))
  | .exit id => K (.bool false) (H.set l (.loop { r with st := .done, pending := some (.exit id) }))
  | .ret => K (.bool false) (H.set l (.loop { r with st := .done, pending := some .ret })))
noncomputable def roundEnd (l : Nat) (r : ALoop) (H : AH) : AExit → CRes
  | .normal => .ok (.bool true) (H.set l (.loop { r with st := .ready, pending := none }))
  | .exit id => .ok (.bool false) (H.set l (.loop { r with st := .done, pending := some (.exit id) }))
  | .ret => .ok (.bool false) (H.set l (.loop { r with st := .done, pending := some .ret }))
theorem CW.round {l : Nat} {args : List Value} {H : AH} {K : Value → AH → Prop} {r : ALoop} (hl : H.get l = some (.loop r)) (ha : args.length = r.params.size)
    (h : W C r.assign { tm := layP r.n r.params.toList args r.tm, n := r.n, ds := [], rnd := some l } H fun e fr H1 => e = .normal ∧ ∃ r1, H1.get l = some (.loop r1) ∧ r1.st = .ready ∧
      W C r.body { tm := fr.tm, n := fr.n, ds := fr.ds, rnd := some l } (H1.set l (.loop { r1 with st := .busy })) fun e _ H2 => AfterRound l K e H2) : CW C (.round l args) H K := by
  obtain ⟨e, fr, H1, ⟨N, hN⟩, rfl, r1, h1, h2, e2, fr2, H2, ⟨M, hM⟩, r2, h3, h4⟩ := h
  have key : ∀ n, max N M ≤ n → atgt C (eng C n) (.round l args) H = roundEnd l r2 H2 e2 := by
    intro n hn
    show around (eng C n) l args H = _
    unfold around
    simp only [hl]
    rw [show Nat.beq args.length r.params.size = true by rw [Nat.beq_eq]; exact ha, cond_true]
    simp only [hN n (by omega), h1, h2, hM n (by omega), h3]
    cases e2 <;> rfl
  cases e2 with
  | normal => exact ⟨_, _, ⟨_, fun n hn => key n hn⟩, h4⟩
  | exit id => exact ⟨_, _, ⟨_, fun n hn => key n hn⟩, h4⟩
  | ret => exact ⟨_, _, ⟨_, fun n hn => key n hn⟩, h4⟩
end
end Go.Eng
/- The further operations' rules. -/
namespace Go.Eng
open Go
section
variable {C : Ctx} (ev : Operand → Value) (H : AH) (K : Value → AH → Prop)
theorem wo_gen {o : Op} (h : wo C ev o H K = ∃ v H', aopN C ev o H = some (v, H') ∧ K v H') : wo C ev o H K = wSome (aopN C ev o H) fun p => K p.1 p.2 := by
  rw [h]; unfold wSome
  exact propext ⟨fun ⟨v, H', h1, h2⟩ => ⟨(v, H'), h1, h2⟩, fun ⟨p, h1, h2⟩ => ⟨p.1, p.2, h1, h2⟩⟩
/-! pure ones -/
theorem aopN_apure {o : Op} (h1 : aread C ev o H = none) (h2 : aalloc C ev o = none) (h3 : aeff C ev o H = none) : aopN C ev o H = (apure C ev o).map fun v => (v, H) := by
  unfold aopN; rw [h1, h2, h3]; cases apure C ev o <;> rfl
noncomputable def bldV (i : Option TI) (C : Ctx) (ps : List (Nat × Value)) : Option Value := match i with
  | none => none
  | some i => match i.desc with
    | .struct _ => (afill (fun k => i.places[k]?) i.zero ps).map fun l => .agg ⟨l⟩
    | .array _ e => match C.ti e with
      | none => none
      | some j => (afill (fun k => some (k * j.size, j.size)) i.zero ps).map fun l => .agg ⟨l⟩
    | _ => none
@[simp ↓] theorem wo_build (t : TypeId) (ps : Array (Nat × Operand)) : wo C ev (.build t ps) H K = tSome (bldV (C.ti t) C (ps.toList.map fun (p : Nat × Operand) => (p.1, ev p.2))) (fun v => K v H) .mk := by
  rw [wo_gen ev H K rfl, aopN_apure ev H rfl rfl rfl]
  have : apure C ev (.build t ps) = bldV (C.ti t) C (ps.toList.map fun (p : Nat × Operand) => (p.1, ev p.2)) := by
    show (match C.ti t with
      | none => none
      | some i => match i.desc with
        | .struct _ => (match afill (fun k => i.places[k]?) i.zero (ps.toList.map fun (p : Nat × Operand) => (p.1, ev p.2)) with
          | some l => some (Value.agg ⟨l⟩)
          | none => none)
        | .array _ e => (match C.ti e with
          | none => none
          | some j => (match afill (fun k => some (k * j.size, j.size)) i.zero (ps.toList.map fun (p : Nat × Operand) => (p.1, ev p.2)) with
            | some l => some (Value.agg ⟨l⟩)
            | none => none))
        | _ => none) = _
    unfold bldV
    cases C.ti t with
    | none => rfl
    | some i =>
      simp only
      cases i.desc with
      | struct fs => simp only; cases afill (fun k => i.places[k]?) i.zero (ps.toList.map fun (p : Nat × Operand) => (p.1, ev p.2)) <;> rfl
      | array n e =>
        simp only
        cases C.ti e with
        | none => rfl
        | some j => simp only; cases afill (fun k => some (k * j.size, j.size)) i.zero (ps.toList.map fun (p : Nat × Operand) => (p.1, ev p.2)) <;> rfl
      | _ => rfl
  rw [this]; unfold tSome wSome
  cases bldV (C.ti t) C (ps.toList.map fun (p : Nat × Operand) => (p.1, ev p.2)) <;> simp
theorem bldV_struct (i : TI) (ps : List (Nat × Value)) (h : isStr i.desc = true) : bldV (some i) C ps = (afill (fun k => i.places[k]?) i.zero ps).map fun l => .agg ⟨l⟩ := by
  unfold bldV
  simp only
  cases hd : i.desc <;> rw [hd] at h <;> first | rfl | cases h
@[simp] theorem wfill_nil (pl : Nat → Option (Nat × Nat)) (cells : List Value) : afill pl cells [] = some cells := rfl
@[simp] theorem wfill_cons (pl : Nat → Option (Nat × Nat)) (cells : List Value) (p : Nat × Value) (ps : List (Nat × Value)) : afill pl cells (p :: ps) = (pl p.1).bind fun q =>
    if (cellsOfV p.2).length = q.2 ∧ 0 < q.2 ∧ q.1 + q.2 ≤ cells.length then afill pl (cells.take q.1 ++ (cellsOfV p.2 ++ cells.drop (q.1 + (cellsOfV p.2).length))) ps else none := by
  show (match pl p.1 with | none => none | some (off, size) => bif someCells p.2 size && Nat.ble (off + size) cells.length then afill pl (spl cells off (cellsOfV p.2)) ps else none) = _
  cases pl p.1 with
  | none => rfl
  | some q =>
    obtain ⟨off, size⟩ := q
    simp only [Option.bind_some]
    by_cases h : (cellsOfV p.2).length = size ∧ 0 < size ∧ off + size ≤ cells.length
    · rw [if_pos h, show (someCells p.2 size && Nat.ble (off + size) cells.length) = true by unfold someCells; simp [h.1, Nat.blt_eq, h.2.1, h.2.2], cond_true]; rfl
    · rw [if_neg h]
      have : (someCells p.2 size && Nat.ble (off + size) cells.length) = false := by
        rw [Bool.eq_false_iff]; intro hh; apply h
        unfold someCells at hh
        simp only [Bool.and_eq_true, Nat.beq_eq, Nat.blt_eq, Nat.ble_eq] at hh
        exact ⟨hh.1.1, hh.1.2, hh.2⟩
      rw [this, cond_false]
@[simp] theorem cellsOfV_int (k : IntKind) (n : Int) : cellsOfV (.int k n) = [.int k n] := rfl
@[simp] theorem cellsOfV_bool (b : Bool) : cellsOfV (.bool b) = [.bool b] := rfl
@[simp] theorem cellsOfV_string (s : ByteArray) : cellsOfV (.string s) = [.string s] := rfl
@[simp] theorem cellsOfV_pointer (a : Option Addr) : cellsOfV (.pointer a) = [.pointer a] := rfl
@[simp] theorem cellsOfV_slice (a : Option Addr) (n c : Nat) : cellsOfV (.slice a n c) = [.slice a n c] := rfl
@[simp] theorem cellsOfV_map (r : Option Nat) : cellsOfV (.map r) = [.map r] := rfl
@[simp] theorem cellsOfV_agg (l : List Value) : cellsOfV (.agg ⟨l⟩) = l := rfl
@[simp] theorem cellsOfV_nilFunc : cellsOfV .nilFunc = [.nilFunc] := rfl
@[simp] theorem cellsOfV_func (f : Fn) (a b : Array Value) : cellsOfV (.func f a b) = [.func f a b] := rfl
@[simp] theorem cellsOfV_nilIface : cellsOfV .nilIface = [.nilIface] := rfl
@[simp] theorem cellsOfV_iface (t : TypeId) (v : Value) : cellsOfV (.iface t v) = [.iface t v] := rfl
@[simp] theorem one_int (k : IntKind) (n : Int) : oneCellV (.int k n) = true := rfl
@[simp] theorem one_bool (b : Bool) : oneCellV (.bool b) = true := rfl
@[simp] theorem one_string (s : ByteArray) : oneCellV (.string s) = true := rfl
@[simp] theorem one_pointer (a : Option Addr) : oneCellV (.pointer a) = true := rfl
@[simp] theorem one_slice (a : Option Addr) (n c : Nat) : oneCellV (.slice a n c) = true := rfl
@[simp] theorem one_map (r : Option Nat) : oneCellV (.map r) = true := rfl
@[simp] theorem one_func (f : Fn) (a b : Array Value) : oneCellV (.func f a b) = true := rfl
@[simp] theorem one_nilFunc : oneCellV .nilFunc = true := rfl
@[simp] theorem one_nilIface : oneCellV .nilIface = true := rfl
@[simp] theorem one_iface (t : TypeId) (v : Value) : oneCellV (.iface t v) = true := rfl
theorem wPureGen {o : Op} (hw : wo C ev o H K = ∃ v H', aopN C ev o H = some (v, H') ∧ K v H') (h1 : aread C ev o H = none) (h2 : aalloc C ev o = none) (h3 : aeff C ev o H = none) : wo C ev o H K = wSome (apure C ev o) fun v => K v H := by
  rw [wo_gen ev H K hw, aopN_apure ev H h1 h2 h3]; unfold wSome
  cases apure C ev o <;> simp
@[simp ↓] theorem wo_makeInterface (t : TypeId) (x : Operand) : wo C ev (.makeInterface t x) H K = tSome (C.ti t) (fun i => tIf (isIfc i.desc) False (K (.iface t (ev x)) H) .mk) .mk := by
  rw [wPureGen ev H K rfl rfl rfl rfl]
  have : apure C ev (.makeInterface t x) = (match C.ti t with
    | none => none
    | some i => match i.desc with
      | .interface _ => none
      | _ => some (Value.iface t (ev x))) := nr rfl
  rw [this]
  unfold tSome tIf wSome wIf
  cases C.ti t with
  | none => simp
  | some i => cases hd : i.desc <;> simp [isIfc, hd]
@[simp ↓] theorem wo_makeFunc (f : FuncId) (a b : Array Operand) : wo C ev (.makeFunc (.func f) a b) H K = K (.func (.func f) ⟨a.toList.map ev⟩ ⟨b.toList.map ev⟩) H := by
  rw [wPureGen ev H K rfl rfl rfl rfl]; unfold wSome; simp [apure]
/-! new blocks -/
theorem aopN_aalloc {o : Op} (h1 : apure C ev o = none) (h2 : aread C ev o H = none) (h3 : aeff C ev o H = none) : aopN C ev o H = (aalloc C ev o).map fun p => (p.2.val H.next, H.push p.1) := by
  unfold aopN; rw [h1, h2, h3]; cases aalloc C ev o <;> rfl
noncomputable def slB (C : Ctx) (t : TypeId) (len : Nat) (ps : List (Nat × Value)) : Option Blk := match C.ti t with
  | none => none
  | some i => match slEl i.desc with
    | none => none
    | some e => match C.ti e with
      | none => none
      | some j => if len * j.size ≤ 16777216 ∧ j.zero.length = j.size then (afillT j.size (len * j.size) ps .leaf).map fun tr => { n := len * j.size, sz := j.size, tr := tr, zero := j.zero } else none
@[simp ↓] theorem wo_buildSlice (t : TypeId) (len : Nat) (ps : Array (Nat × Operand)) : wo C ev (.buildSlice t len ps) H K =
    tSome (slB C t len (ps.toList.map fun (p : Nat × Operand) => (p.1, ev p.2))) (fun k => K (.slice (some ⟨H.next, 0, none⟩) len len) (H.push (.cells k))) .mk := by
  rw [wo_gen ev H K rfl, aopN_aalloc ev H rfl rfl rfl]
  unfold tSome slB wSome aalloc
  simp only
  cases C.ti t with
  | none => simp
  | some i =>
    simp only
    cases hd : i.desc <;> simp only [slEl] <;> try simp
    rename_i e
    cases C.ti e with
    | none => simp
    | some j =>
      simp only
      by_cases h : len * j.size ≤ 16777216 ∧ j.zero.length = j.size
      · rw [if_pos h, show (Nat.ble (len * j.size) 16777216 && Nat.beq j.zero.length j.size) = true by simp [h.1, h.2], cond_true]
        cases afillT j.size (len * j.size) (ps.toList.map fun (p : Nat × Operand) => (p.1, ev p.2)) .leaf with
        | none => simp
        | some tr =>
          simp only [Option.map_some]
          constructor
          · rintro ⟨a, b, ⟨o, nv, h1, h2, h3⟩, k⟩
            cases h1; subst h2; subst h3
            exact ⟨_, rfl, k⟩
          · rintro ⟨k', h, k⟩
            cases h
            exact ⟨_, _, ⟨_, _, rfl, rfl, rfl⟩, k⟩
      · rw [if_neg h, show (Nat.ble (len * j.size) 16777216 && Nat.beq j.zero.length j.size) = false by
          rw [Bool.eq_false_iff]; intro hh; apply h; simpa using hh, cond_false]
        simp
noncomputable def mkB (C : Ctx) (t : TypeId) (l c : Value) : Option (Blk × Nat × Nat) := match C.ti t with
  | none => none
  | some i => match slEl i.desc, l, c with
    | some e, .int _ l, .int _ c => match C.ti e with
      | none => none
      | some j => if 0 ≤ l ∧ l ≤ c ∧ (j.bytes * c.toNat) ≤ 140737488355328 ∧ c ≤ 140737488355328 ∧ j.zero.length = j.size then some ({ n := c.toNat * j.size, sz := j.size, tr := .leaf, zero := j.zero }, l.toNat, c.toNat) else none
    | _, _, _ => none
theorem wo_makeSlice' (t : TypeId) (l c : Operand) (p : Blk × Nat × Nat) (h : mkB C t (ev l) (ev c) = some p) (k : K (.slice (some ⟨H.next, 0, none⟩) p.2.1 p.2.2) (H.push (.cells p.1))) : wo C ev (.makeSlice t l c) H K := by
  rw [wo_gen ev H K rfl, aopN_aalloc ev H rfl rfl rfl]
  unfold mkB at h
  unfold wSome aalloc
  simp only
  split at h
  · cases h
  · rename_i i hi
    split at h
    · rename_i e k1 l' k2 c' he hl hc
      split at h
      · cases h
      · rename_i j hj
        split at h
        · rename_i hh
          cases h
          obtain ⟨h1, h2, h3, h4, h5⟩ := hh
          obtain ⟨nl, rfl⟩ := Int.eq_ofNat_of_zero_le h1
          obtain ⟨nc, rfl⟩ := Int.eq_ofNat_of_zero_le (Int.le_trans h1 h2)
          have hd : i.desc = .slice e := by
            unfold slEl at he; split at he
            · rename_i e' hd; cases he; exact hd
            · cases he
          simp only [hi, hl, hc, hd, hj]
          have hcond : (Nat.ble nl nc && Nat.ble (j.bytes * nc) 140737488355328 && Nat.ble nc 140737488355328 && Nat.beq j.zero.length j.size) = true := by
            simp only [Bool.and_eq_true, Nat.ble_eq, Nat.beq_eq]
            refine ⟨⟨⟨?_, ?_⟩, ?_⟩, h5⟩
            · omega
            · simpa using h3
            · omega
          refine ⟨(.slice (some ⟨H.next, 0, none⟩) nl nc, H.push (.cells { n := nc * j.size, sz := j.size, tr := .leaf, zero := j.zero })), ?_, by simpa using k⟩
          show Option.map _ (bif (Nat.ble nl nc && Nat.ble (j.bytes * nc) 140737488355328 && Nat.ble nc 140737488355328 && Nat.beq j.zero.length j.size) then _ else none) = _
          rw [hcond, cond_true]
          rfl
        · cases h
    · cases h
/-! slices of slices -/
noncomputable def slV (C : Ctx) (t : TypeId) (H : AH) (x : Value) (lo hi mx : Option Value) : Option Value := bif alive H x then aslice C t x lo hi mx else none
@[simp ↓] theorem wo_slice (t : TypeId) (x : Operand) (lo hi mx : Option Operand) : wo C ev (.slice t x lo hi mx) H K = tSome (slV C t H (ev x) (lo.map ev) (hi.map ev) (mx.map ev)) (fun v => K v H) .mk := by
  rw [wo_gen ev H K rfl]
  have : aopN C ev (.slice t x lo hi mx) H = (slV C t H (ev x) (lo.map ev) (hi.map ev) (mx.map ev)).map fun v => (v, H) := by
    unfold aopN
    have e1 : apure C ev (.slice t x lo hi mx) = none := nr rfl
    have e2 : aread C ev (.slice t x lo hi mx) H = slV C t H (ev x) (lo.map ev) (hi.map ev) (mx.map ev) := rfl
    have e3 : aalloc C ev (.slice t x lo hi mx) = none := rfl
    have e4 : aeff C ev (.slice t x lo hi mx) H = none := rfl
    rw [e1, e2, e3, e4]
    cases slV C t H (ev x) (lo.map ev) (hi.map ev) (mx.map ev) <;> rfl
  rw [this]; unfold tSome wSome
  cases slV C t H (ev x) (lo.map ev) (hi.map ev) (mx.map ev) <;> simp
theorem abound_int (k : IntKind) (z : Int) (m : Nat) (h0 : 0 ≤ z) (h1 : z ≤ m) : abound (.int k z) m = some z.toNat := by
  obtain ⟨n, rfl⟩ := Int.eq_ofNat_of_zero_le h0
  show (bif Nat.ble n m then some n else none) = _
  rw [show Nat.ble n m = true by rw [Nat.ble_eq]; omega, cond_true]; rfl
/-! appending -/
noncomputable def appV (C : Ctx) (t u : TypeId) (x y : Value) (H : AH) : Option (Value × AH) := match C.ti t, C.ti u with
  | some i, some ui => match i.desc with
    | .slice e => match C.ti e with
      | none => none
      | some j => match ui.desc, y with
        | .int _, .int _ (.ofNat m) => bif Nat.ble (m * j.bytes) 140737488355328 && Nat.ble m 140737488355328 && Nat.beq j.zero.length j.size then
            aappend j H x m ((List.replicate m j.zero).flatten) else none
        | .int _, _ => none
        | _, v => match alenOf v with
          | none => none
          | some m => match asrc j.size m H v with
            | some new => aappend j H x m new
            | none => none
    | _ => none
  | _, _ => none
@[simp ↓] theorem wo_append (x y : Operand) (t u : TypeId) : wo C ev (.call ⟨.builtin .append, #[x, y], #[t, u]⟩) H K = tSome (appV C t u (ev x) (ev y) H) (fun p => K p.1 p.2) .mk := by
  rw [wo_gen ev H K rfl]
  have : aopN C ev (.call ⟨.builtin .append, #[x, y], #[t, u]⟩) H = appV C t u (ev x) (ev y) H := by
    unfold aopN
    have e1 : apure C ev (.call ⟨.builtin .append, #[x, y], #[t, u]⟩) = none := nr rfl
    have e2 : aread C ev (.call ⟨.builtin .append, #[x, y], #[t, u]⟩) H = none := rfl
    have e3 : aalloc C ev (.call ⟨.builtin .append, #[x, y], #[t, u]⟩) = none := rfl
    have e4 : aeff C ev (.call ⟨.builtin .append, #[x, y], #[t, u]⟩) H = appV C t u (ev x) (ev y) H := rfl
    rw [e1, e2, e3, e4]
  rw [this]; rfl
end
section
variable {C : Ctx} {H : AH}
/-- 'append(x, y...)' onto what is owned. -/
theorem app_own {t u e e' : TypeId} {i ui j : TI} {x y : Value} {n m : Nat} {cs new : List Value} (ht : C.ti t = some i) (hd : i.desc = .slice e) (hj : C.ti e = some j) (hu : C.ti u = some ui) (hud : ui.desc = .slice e')
    (ho : Own H x n j.size cs) (hy : SlAt H y m new) (hn : new.length = m * j.size) (w : WF H) (hz : j.zero.length = j.size) (hb : 0 < j.bytes) (h1 : new.all oneCellV = true) (hs : (n + m) * j.bytes ≤ 140737488355328) :
    ∃ v' H', appV C t u x y H = some (v', H') ∧ Own H' v' (n + m) j.size (cs ++ new) ∧ Keep H H' (blkOf x) ∧ WF H' ∧ (∀ b ∈ blkOf v', b ∈ blkOf x ∨ H.next ≤ b) := by
  obtain ⟨v', H', h⟩ := own_append ho w hz hb hn h1 hs
  refine ⟨v', H', ?_, h.2⟩
  have hl : alenOf y = some m := by obtain ⟨a, c, rfl, _⟩ := hy; rfl
  unfold appV
  simp only [ht, hu, hd, hj, hud, hl, asrc_sl hy hn]
  exact h.1
theorem Own.built (H : AH) (k : Blk) (n sz : Nat) (cap : Nat) (h1 : k.ro = false) (h2 : k.sz = sz) (h3 : k.n = cap * sz) (h4 : n ≤ cap) : Own (H.push (.cells k)) (.slice (some ⟨H.next, 0, none⟩) n cap) n sz (acellsF k (n * sz) 0) :=
  ⟨acellsF_length _ _ _, .inr ⟨H.next, 0, none, cap, k, rfl, h4, by rw [AH.get_push, if_pos rfl], h1, h2, rfl, by simp; omega⟩⟩
end
end Go.Eng
/- The rules for regions that are drawn, and for loops, as rewritings. -/
namespace Go.Eng
open Go
section
variable {C : Ctx}
@[simp ↓] theorem Lpd_normal (I : Nat → AFr → AH → Prop) (m : Nat) (Q : AExit → AFr → AH → Prop) (fr : AFr) (H : AH) : Lpd I m Q .normal fr H = ∃ m', m' < m ∧ I m' fr H := nr rfl
@[simp ↓] theorem Lpd_exit (I : Nat → AFr → AH → Prop) (m j : Nat) (Q : AExit → AFr → AH → Prop) (fr : AFr) (H : AH) : Lpd I m Q (.exit j) fr H = Q (.exit j) fr H := nr rfl
@[simp ↓] theorem Lpd_ret (I : Nat → AFr → AH → Prop) (m : Nat) (Q : AExit → AFr → AH → Prop) (fr : AFr) (H : AH) : Lpd I m Q .ret fr H = Q .ret fr H := nr rfl
/-- The guard, looked up. -/
def awV (want : Bool) : Value → Option Bool
  | .bool b => some (b == want)
  | .tuple ⟨[]⟩ => some false
  | _ => none
noncomputable def awG (want : Bool) (n : Nat) (tm : T Value) : Option Oper → Option Bool
  | some g => match g.dst with
    | some d => if d < n then awV want (tget tm d) else none
    | none => none
  | none => none
@[simp] theorem awV_bool (want b : Bool) : awV want (.bool b) = some (b == want) := rfl
@[simp] theorem awV_undef (want : Bool) : awV want undef = some false := rfl
@[simp] theorem awG_some (want : Bool) (n : Nat) (tm : T Value) (d : Nat) (op : Op) (ty : TypeId) (pos : String) (after : Array Edge) (g : Option (Nat × Bool)) : awG want n tm (some { dst := some d, op := op, type := ty, pos := pos, after := after, guard := g }) = if d < n then awV want (tget tm d) else none := rfl
@[simp] theorem awanted_lit (ops : List Oper) (dst : Option Tmp) (op : Op) (ty : TypeId) (pos : String) (after : Array Edge) (n : Nat) (tm : T Value) : awanted ops { dst := dst, op := op, type := ty, pos := pos, after := after, guard := none } n tm = some true := rfl
@[simp] theorem awanted_guard (ops : List Oper) (dst : Option Tmp) (op : Op) (ty : TypeId) (pos : String) (after : Array Edge) (j : Nat) (want : Bool) (n : Nat) (tm : T Value) :
    awanted ops { dst := dst, op := op, type := ty, pos := pos, after := after, guard := some (j, want) } n tm = awG want n tm (ops[j]?) := by
  show (match ops[j]? with | some g => (match g.dst with | some d => (bif Nat.blt d n then (match tget tm d with | .bool b => some (b == want) | .tuple ⟨[]⟩ => some false | _ => none) else none) | none => none) | none => none) = _
  cases ops[j]? with
  | none => rfl
  | some g =>
    show (match g.dst with | some d => (bif Nat.blt d n then (match tget tm d with | .bool b => some (b == want) | .tuple ⟨[]⟩ => some false | _ => none) else none) | none => none) = match g.dst with | some d => (if d < n then awV want (tget tm d) else none) | none => none
    cases g.dst with
    | none => rfl
    | some d =>
      simp only
      by_cases h : d < n
      · rw [if_pos h, show Nat.blt d n = true by rw [Nat.blt_eq]; exact h, cond_true]; rfl
      · rw [if_neg h, show Nat.blt d n = false by rw [Bool.eq_false_iff, Ne, Nat.blt_eq]; exact h, cond_false]
/-! the drawn order -/
@[simp ↓] theorem wdr_nil (all : List Oper) (n : Nat) (tm : T Value) (H : AH) (rs : List Rec) (K : T Value → AH → List Rec → Prop) : wdr C all n [] tm H rs K = K tm H rs := nr rfl
@[simp ↓] theorem wdr_cons (all : List Oper) (n i : Nat) (π : List Nat) (tm : T Value) (H : AH) (rs : List Rec) (K : T Value → AH → List Rec → Prop) : wdr C all n (i :: π) tm H rs K = tSome (all[i]?) (fun o => tWant (awanted all o n tm)
    (wDraw1 C o tm H fun v H' kd => wdr C all n π (tset n tm o.dst v) H' (rs ++ [{ i := i, o := o, tm := tm, H := H, v := v, kd := kd }]) K)
    (wdr C all n π (tset n tm o.dst undef) H (rs ++ [{ i := i, o := o, tm := tm, H := H, v := undef, kd := .skip }]) K) .mk) .mk := by
  show (match all[i]? with | some o => _ | none => False) = _
  cases all[i]? <;> simp [tSome, wSome, tWant]
def wStill (C : Ctx) (o : Oper) (tm : T Value) (H : AH) (K : Value → AH → Kd → Prop) : Prop := match o.op with
  | .binOp op t x y _ => wBinD C op t (isConstO x || isConstO y) (dev o tm x) (dev o tm y) fun v => K v H .skip
  | .call c => (match c.callee, c.args.toList, c.argTypes.toList with
    | .builtin .len, [x], [t] => withTI C t fun i => wLen i (dev o tm x) fun v => K v H .skip
    | .builtin .min, [x, y], _ => wMin (dev o tm x) (dev o tm y) fun v => K v H .skip
    | .builtin .max, [x, y], _ => wMax (dev o tm x) (dev o tm y) fun v => K v H .skip
    | _, _, _ => False)
  | _ => False
def tMin (x y : Value) (K : Value → Prop) (_ : Tg K) : Prop := wMin x y K
@[simp] theorem tMin_int (j k : IntKind) (a b : Int) (K : Value → Prop) (t : Tg K) : tMin (.int j a) (.int k b) K t = K (.int j (if b < a then b else a)) := rfl
def tMax (x y : Value) (K : Value → Prop) (_ : Tg K) : Prop := wMax x y K
@[simp] theorem tMax_int (j k : IntKind) (a b : Int) (K : Value → Prop) (t : Tg K) : tMax (.int j a) (.int k b) K t = K (.int j (if a < b then b else a)) := rfl
@[simp ↓] theorem wStill_min (dst : Option Tmp) (x y : Operand) (tys : Array TypeId) (ty : TypeId) (pos : String) (after : Array Edge) (g : Option (Nat × Bool)) (tm : T Value) (H : AH) (K : Value → AH → Kd → Prop) :
    wStill C { dst := dst, op := .call ⟨.builtin .min, #[x, y], tys⟩, type := ty, pos := pos, after := after, guard := g } tm H K = tMin (dev { dst := dst, op := .call ⟨.builtin .min, #[x, y], tys⟩, type := ty, pos := pos, after := after, guard := g } tm x) (dev { dst := dst, op := .call ⟨.builtin .min, #[x, y], tys⟩, type := ty, pos := pos, after := after, guard := g } tm y) (fun v => K v H .skip) .mk := nr rfl
@[simp ↓] theorem wStill_max (dst : Option Tmp) (x y : Operand) (tys : Array TypeId) (ty : TypeId) (pos : String) (after : Array Edge) (g : Option (Nat × Bool)) (tm : T Value) (H : AH) (K : Value → AH → Kd → Prop) :
    wStill C { dst := dst, op := .call ⟨.builtin .max, #[x, y], tys⟩, type := ty, pos := pos, after := after, guard := g } tm H K = tMax (dev { dst := dst, op := .call ⟨.builtin .max, #[x, y], tys⟩, type := ty, pos := pos, after := after, guard := g } tm x) (dev { dst := dst, op := .call ⟨.builtin .max, #[x, y], tys⟩, type := ty, pos := pos, after := after, guard := g } tm y) (fun v => K v H .skip) .mk := nr rfl
@[simp ↓] theorem wDraw1_eq (dst : Option Tmp) (op : Op) (ty : TypeId) (pos : String) (after : Array Edge) (g : Option (Nat × Bool)) (tm : T Value) (H : AH) (K : Value → AH → Kd → Prop) : wDraw1 C { dst := dst, op := op, type := ty, pos := pos, after := after, guard := g } tm H K =
    tIf (isEff op) (wo C (dev { dst := dst, op := op, type := ty, pos := pos, after := after, guard := g } tm) op H fun v H' => K v H' .eff) (
      tIf (opReads op) (wo C (dev { dst := dst, op := op, type := ty, pos := pos, after := after, guard := g } tm) op H fun v H' => K v H' .read) (
        tIf (opStill op) (wo C (dev { dst := dst, op := op, type := ty, pos := pos, after := after, guard := g } tm) op H fun v H' => K v H' .skip) (wStill C { dst := dst, op := op, type := ty, pos := pos, after := after, guard := g } tm H K) .mk) .mk) .mk := nr rfl
def tBinD (C : Ctx) (op : BinOp) (t : TypeId) (cst : Bool) (x y : Value) (K : Value → Prop) (_ : Tg K) : Prop := wBinD C op t cst x y K
@[simp ↓] theorem wStill_bin (dst : Option Tmp) (op : BinOp) (t : TypeId) (x y : Operand) (u : TypeId) (ty : TypeId) (pos : String) (after : Array Edge) (g : Option (Nat × Bool)) (tm : T Value) (H : AH) (K : Value → AH → Kd → Prop) :
    wStill C { dst := dst, op := .binOp op t x y u, type := ty, pos := pos, after := after, guard := g } tm H K = tBinD C op t (isConstO x || isConstO y) (dev { dst := dst, op := .binOp op t x y u, type := ty, pos := pos, after := after, guard := g } tm x) (dev { dst := dst, op := .binOp op t x y u, type := ty, pos := pos, after := after, guard := g } tm y) (fun v => K v H .skip) .mk := nr rfl
@[simp ↓] theorem wStill_len (dst : Option Tmp) (x : Operand) (t : TypeId) (ty : TypeId) (pos : String) (after : Array Edge) (g : Option (Nat × Bool)) (tm : T Value) (H : AH) (K : Value → AH → Kd → Prop) :
    wStill C { dst := dst, op := .call ⟨.builtin .len, #[x], #[t]⟩, type := ty, pos := pos, after := after, guard := g } tm H K = tSome (C.ti t) (fun i => tLen i (dev { dst := dst, op := .call ⟨.builtin .len, #[x], #[t]⟩, type := ty, pos := pos, after := after, guard := g } tm x) (fun v => K v H .skip) .mk) .mk := withTI_some t _
@[simp] theorem tBinD_int (op : BinOp) (t : TypeId) (c : Bool) (j k : IntKind) (a b : Int) (K : Value → Prop) (g : Tg K) : tBinD C op t c (.int j a) (.int k b) K g = tBin C { next := 0, tr := .leaf } op t c (.int j a) (.int k b) K g := rfl
theorem natbeq (a b : Nat) : Nat.beq a b = decide (a = b) := by
  rw [Bool.eq_iff_iff, Nat.beq_eq]; simp
@[simp] theorem dev_tmp (dst : Option Tmp) (op : Op) (ty : TypeId) (pos : String) (after : Array Edge) (g : Option (Nat × Bool)) (tm : T Value) (t : Tmp) :
    dev { dst := dst, op := op, type := ty, pos := pos, after := after, guard := g } tm (.tmp t) = if inT (some t) (opTmps op.operands.toList) = true then tget tm t else junk := by
  show (bif inT (some t) (opTmps op.operands.toList) then tget tm t else junk) = _
  cases inT (some t) (opTmps op.operands.toList) <;> rfl
@[simp] theorem dev_const (o : Oper) (tm : T Value) (v : Value) : dev o tm (.const v) = aev tm (.const v) := rfl
@[simp] theorem dev_func (o : Oper) (tm : T Value) (f : FuncId) : dev o tm (.func f) = .func (.func f) ⟨[]⟩ ⟨[]⟩ := rfl
@[simp] theorem opTmps_nil : opTmps [] = [] := rfl
@[simp] theorem opTmps_tmp (t : Tmp) (l : List Operand) : opTmps (.tmp t :: l) = t :: opTmps l := rfl
@[simp] theorem opTmps_const (v : Value) (l : List Operand) : opTmps (.const v :: l) = opTmps l := rfl
@[simp] theorem opTmps_func (f : FuncId) (l : List Operand) : opTmps (.func f :: l) = opTmps l := rfl
@[simp] theorem inT_nil (t : Nat) : inT (some t) [] = false := rfl
@[simp] theorem inT_cons (t a : Nat) (l : List Nat) : inT (some t) (a :: l) = (decide (a = t) || inT (some t) l) := by
  show (Nat.beq a t || _) = _
  rw [natbeq]; rfl
attribute [simp] isEff opReads opStill Op.operands Kd.isEff Kd.isRead
attribute [simp] Call.operands
/-! what was read, looked at again -/
@[simp ↓] theorem stabP_nil (bf : List Nat) (HF : AH) : stabP C bf HF [] = True := nr rfl
@[simp ↓] theorem stabP_cons (bf : List Nat) (HF : AH) (q : Rec) (l : List Rec) : stabP C bf HF (q :: l) = (tIf q.kd.isRead (stabQ C bf HF q l) True .mk ∧ stabP C bf HF l) := nr rfl
@[simp ↓] theorem stabQ_nil (bf : List Nat) (HF : AH) (q : Rec) : stabQ C bf HF q [] = Tells C q HF := nr rfl
@[simp ↓] theorem stabQ_cons (bf : List Nat) (HF : AH) (q r : Rec) (l : List Rec) : stabQ C bf HF q (r :: l) = tIf r.kd.isEff (Tells C q r.H ∧ tIf ((bf.getD r.i 0).testBit q.i) True (stabQ C bf HF q l) .mk) (stabQ C bf HF q l) .mk := nr rfl
@[simp ↓] theorem Tells_mk (i : Nat) (dst : Option Tmp) (op : Op) (ty : TypeId) (pos : String) (after : Array Edge) (g : Option (Nat × Bool)) (tm : T Value) (H G : AH) (v : Value) (kd : Kd) :
    Tells C { i := i, o := { dst := dst, op := op, type := ty, pos := pos, after := after, guard := g }, tm := tm, H := H, v := v, kd := kd } G = wo C (dev { dst := dst, op := op, type := ty, pos := pos, after := after, guard := g } tm) op G fun v' _ => vsame 5 v' v = true := nr rfl
@[simp] theorem vsame_int (f : Nat) (k : IntKind) (a b : Int) : vsame f (.int k a) (.int k b) = decide (a = b) := by
  have : vsame f (.int k a) (.int k b) = (kindEq k k && ieq a b) := by cases f <;> rfl
  rw [this, kindEq_self, ieq_dec, Bool.true_and]
@[simp] theorem vsame_bool (f : Nat) (a b : Bool) : vsame f (.bool a) (.bool b) = (a == b) := by cases f <;> rfl
@[simp] theorem vsame_nilPtr (f : Nat) : vsame f (.pointer none) (.pointer none) = true := by cases f <;> rfl
@[simp] theorem vsame_ptr (f a b o p : Nat) : vsame f (.pointer (some ⟨a, o, none⟩)) (.pointer (some ⟨b, p, none⟩)) = (decide (a = b) && decide (o = p)) := by
  have : vsame f (.pointer (some ⟨a, o, none⟩)) (.pointer (some ⟨b, p, none⟩)) = (Nat.beq a b && Nat.beq o p) := by cases f <;> rfl
  rw [this, natbeq, natbeq]
theorem vsame_slice (f : Nat) (a : Option Addr) (n c : Nat) : vsame f (.slice a n c) (.slice a n c) = true := by
  cases a with
  | none => cases f <;> (show (Nat.beq n n && Nat.beq c c) = true; simp)
  | some a =>
    obtain ⟨b, o, sp⟩ := a
    cases sp with
    | none => cases f <;> (show (Nat.beq b b && Nat.beq o o && Nat.beq n n && Nat.beq c c) = true; simp)
    | some s => cases f <;> (show (Nat.beq b b && Nat.beq o o && Nat.beq s s && Nat.beq n n && Nat.beq c c) = true; simp)
attribute [simp] vsame_slice
@[simp] theorem vsame_map (f r : Nat) : vsame f (.map (some r)) (.map (some r)) = true := by cases f <;> (show Nat.beq r r = true; simp)
theorem strEq_self (s : ByteArray) : strEq s s = true := by
  rw [strEq_eq]; simp
@[simp] theorem vsame_string (f : Nat) (s : ByteArray) : vsame f (.string s) (.string s) = true := by
  have : vsame f (.string s) (.string s) = strEq s s := by cases f <;> rfl
  rw [this, strEq_self]
/-- A value that is the same as itself when looked at again. -/
def selfSame (v : Value) : Prop := ∀ f, vsame f v v = true
@[simp] theorem vsame_agg (f : Nat) (l : List Value) (h : ∀ v ∈ l, vsame f v v = true) : vsame (f + 1) (.agg ⟨l⟩) (.agg ⟨l⟩) = true := by
  show (Nat.beq l.length l.length && (l.zip l).all fun p => vsame f p.1 p.2) = true
  rw [Nat.beq_refl, Bool.true_and, List.all_eq_true]
  intro p hp
  obtain ⟨a, b⟩ := p
  have hab : a = b ∧ a ∈ l := by
    clear h
    induction l with
    | nil => simp at hp
    | cons x l ih =>
      simp only [List.zip_cons_cons, List.mem_cons, Prod.mk.injEq] at hp
      rcases hp with ⟨rfl, rfl⟩ | hp
      · simp
      · have := ih hp; exact ⟨this.1, List.mem_cons_of_mem _ this.2⟩
  obtain ⟨rfl, ha⟩ := hab
  exact h a ha
end
end Go.Eng
/- What memory reads behind new blocks and behind what was put; entries of hooks. -/
namespace Go.Eng
open Go
section
variable {C : Ctx} {H H' : AH}
theorem AH.get_new (H : AH) (vs : List Value) (b : Nat) : (H.new vs).get b = if b = H.next then some (.cells { n := vs.length, sz := 1, tr := .leaf, zero := vs }) else H.get b := by
  unfold AH.new; rw [AH.get_push]
@[simp] theorem AH.next_new (H : AH) (vs : List Value) : (H.new vs).next = H.next + 1 := rfl
@[simp] theorem AH.next_put (H : AH) (b o : Nat) (vs : List Value) : (H.put b o vs).next = H.next := AH.put_next H b o vs
theorem newCell (vs : List Value) (i : Nat) (hi : i < vs.length) : ({ n := vs.length, sz := 1, tr := .leaf, zero := vs } : Blk).cell i = vs[i] := by
  rw [Blk.cell_eq]
  show vs.getD (i % vs.length) undef = _
  rw [Nat.mod_eq_of_lt hi]; simp [List.getD, hi]
theorem Mem.new (H : AH) (vs : List Value) : Mem (H.new vs) H.next vs false 1 :=
  Mem.push (by rfl) fun i hi => by rw [newCell vs i hi]; exact List.getElem?_eq_getElem hi
theorem AH.cel_new (H : AH) (vs : List Value) (b i : Nat) : (H.new vs).cel b i = if b = H.next then vs[i]? else H.cel b i := by
  by_cases h : b = H.next
  · rw [if_pos h, h]; exact (Mem.new H vs).cel i
  · rw [if_neg h]; exact AH.cel_congr (by rw [AH.get_new, if_neg h]) i
theorem AH.row_new (H : AH) (vs : List Value) (b o n : Nat) : (H.new vs).row b o n = if b = H.next then (if o + n ≤ vs.length then some ((vs.drop o).take n) else none) else H.row b o n := by
  by_cases h : b = H.next
  · rw [if_pos h, h]
    by_cases hn : o + n ≤ vs.length
    · rw [if_pos hn]; exact (Mem.new H vs).row o n hn
    · rw [if_neg hn]; unfold AH.row; rw [AH.get_new, if_pos rfl]; simp only; rw [if_neg hn]
  · rw [if_neg h]; exact AH.row_congr (by rw [AH.get_new, if_neg h]) o n
@[simp] theorem nx1 (n : Nat) : (n = n + 1) = False := by simp
@[simp] theorem nx2 (n : Nat) : (n = n + 1 + 1) = False := eq_false (by omega)
@[simp] theorem nx3 (n : Nat) : (n = n + 1 + 1 + 1) = False := eq_false (by omega)
@[simp] theorem nx4 (n : Nat) : (n = n + 1 + 1 + 1 + 1) = False := eq_false (by omega)
@[simp] theorem nx5 (n : Nat) : (n = n + 1 + 1 + 1 + 1 + 1) = False := eq_false (by omega)
@[simp] theorem ny2 (n : Nat) : (n + 1 + 1 = n) = False := eq_false (by omega)
@[simp] theorem ny3 (n : Nat) : (n + 1 + 1 + 1 = n) = False := eq_false (by omega)
@[simp] theorem ny4 (n : Nat) : (n + 1 + 1 + 1 + 1 = n) = False := eq_false (by omega)
@[simp] theorem ny5 (n : Nat) : (n + 1 + 1 + 1 + 1 + 1 = n) = False := eq_false (by omega)
theorem AH.cel_push (H : AH) (k : Blk) (b i : Nat) : (H.push (.cells k)).cel b i = if b = H.next then (if i < k.n then some (k.cell i) else none) else H.cel b i := by
  by_cases h : b = H.next
  · rw [if_pos h, h]; unfold AH.cel; rw [AH.get_push, if_pos rfl]
  · rw [if_neg h]; exact AH.cel_congr (by rw [AH.get_push, if_neg h]) i
theorem AH.row_push (H : AH) (o : AObj) (b i n : Nat) (h : b ≠ H.next) : (H.push o).row b i n = H.row b i n := AH.row_congr (by rw [AH.get_push, if_neg h]) i n
theorem WF.new (w : WF H) (vs : List Value) : WF (H.new vs) := w.push _
theorem Keep.new (H : AH) (vs : List Value) (S : List Nat) : Keep H (H.new vs) S := Keep.push H _ S
theorem Keep.cel {S : List Nat} (k : Keep H H' S) {b : Nat} (hb : b < H.next) (hs : b ∉ S) (i : Nat) : H'.cel b i = H.cel b i := AH.cel_congr (k.get b hb hs) i
theorem Keep.row {S : List Nat} (k : Keep H H' S) {b : Nat} (hb : b < H.next) (hs : b ∉ S) (o n : Nat) : H'.row b o n = H.row b o n := AH.row_congr (k.get b hb hs) o n
theorem AH.cel_put_ne (H : AH) {b b' : Nat} (o : Nat) (vs : List Value) (h : b' ≠ b) (i : Nat) : (H.put b o vs).cel b' i = H.cel b' i := AH.cel_congr (AH.put_get_ne H vs h) i
theorem AH.row_put_ne (H : AH) {b b' : Nat} (o : Nat) (vs : List Value) (h : b' ≠ b) (i n : Nat) : (H.put b o vs).row b' i n = H.row b' i n := AH.row_congr (AH.put_get_ne H vs h) i n
theorem Mem.canPut {b : Nat} {l : List Value} {sz : Nat} (h : Mem H b l false sz) {o n : Nat} (hn : o + n ≤ l.length) : H.canPut b o n := by
  obtain ⟨k, h1, h2, h3, h4, h5⟩ := h
  exact ⟨k, h1, by omega, h2⟩
@[simp] theorem acellsF_zero (k : Blk) (o : Nat) : acellsF k 0 o = [] := rfl
/-! results that stand in memory -/
noncomputable def rcell (H : AH) (v : Value) (i : Option TI) : Option Value := match v, i with
  | .pointer (some ⟨b, o, none⟩), some i => if i.agg = true then (H.row b o i.size).map fun l => Value.agg ⟨l⟩ else H.cel b o
  | _, _ => none
@[simp] theorem rcell_ptr (H : AH) (b o : Nat) (i : TI) : rcell H (.pointer (some ⟨b, o, none⟩)) (some i) = if i.agg = true then (H.row b o i.size).map fun l => Value.agg ⟨l⟩ else H.cel b o := rfl
theorem aload_rcell (C : Ctx) (t : TypeId) (v : Value) (H : AH) : aload C t v H = rcell H v (C.ti t) := by
  unfold aload rcell
  show (match v, C.ti t with
    | .pointer (some ⟨b, o, none⟩), some i => match H.get b with
      | some (.cells k) => bif i.agg then (bif Nat.ble (o + i.size) k.n then some (Value.agg ⟨acellsF k i.size o⟩) else none)
          else (bif Nat.blt o k.n then some (k.cell o) else none)
      | _ => none
    | _, _ => none) = _
  split
  · rename_i b o i hi
    unfold AH.row AH.cel
    cases ha : i.agg with
    | true =>
      simp only [cond_true, if_true]
      cases H.get b with
      | none => rfl
      | some q => cases q with
        | cells k =>
          simp only
          by_cases hn : o + i.size ≤ k.n
          · rw [if_pos hn, show Nat.ble (o + i.size) k.n = true by rw [Nat.ble_eq]; exact hn]; rfl
          · rw [if_neg hn, show Nat.ble (o + i.size) k.n = false by rw [Bool.eq_false_iff, Ne, Nat.ble_eq]; exact hn]; rfl
        | _ => rfl
    | false =>
      simp only [cond_false]
      rw [if_neg (by simp)]
      cases H.get b with
      | none => rfl
      | some q => cases q with
        | cells k =>
          simp only
          by_cases hn : o < k.n
          · rw [if_pos hn, show Nat.blt o k.n = true by rw [Nat.blt_eq]; exact hn]; rfl
          · rw [if_neg hn, show Nat.blt o k.n = false by rw [Bool.eq_false_iff, Ne, Nat.blt_eq]; exact hn]; rfl
        | _ => rfl
  · rfl
@[simp] theorem aresList_cell (tm : T Value) (H : AH) (a : Tmp) (t : TypeId) (l : List ResultVar) : aresList C tm H (.cell a t :: l) = (rcell H (tget tm a) (C.ti t)).bind fun v => (aresList C tm H l).map (v :: ·) := by
  show (match aresList C tm H l with | none => none | some vs => (match aload C t (tget tm a) H with | some v => some (v :: vs) | none => none)) = _
  rw [aload_rcell]
  cases aresList C tm H l <;> cases rcell H (tget tm a) (C.ti t) <;> rfl
theorem Own.one {v : Value} {n sz : Nat} {cs : List Value} (h : Own H v n sz cs) : cellsOfV v = [v] ∧ oneCellV v = true := by
  rcases h.2 with ⟨rfl, _⟩ | ⟨b, o, sp, cap, k, rfl, _⟩ <;> exact ⟨rfl, rfl⟩
theorem SlAt.one {v : Value} {n : Nat} {cs : List Value} (h : SlAt H v n cs) : cellsOfV v = [v] ∧ oneCellV v = true := by
  obtain ⟨a, c, rfl, _⟩ := h; exact ⟨rfl, rfl⟩
theorem AH.row_of_cel {b o : Nat} {l : List Value} (h0 : 0 < l.length) (h : ∀ i, i < l.length → H.cel b (o + i) = l[i]?) : H.row b o l.length = some l := by
  have hk : ∀ i (hi : i < l.length), ∃ k, H.get b = some (.cells k) ∧ o + i < k.n ∧ k.cell (o + i) = l[i]'hi := fun i hi => by
    have := h i hi
    rw [List.getElem?_eq_getElem hi] at this
    unfold AH.cel at this
    split at this
    · rename_i k hk
      split at this
      · rename_i hn; exact ⟨k, hk, hn, Option.some.inj this⟩
      · cases this
    · cases this
  obtain ⟨k, q1, q2, q3⟩ := hk (l.length - 1) (by omega)
  unfold AH.row
  simp only [q1]
  rw [if_pos (by omega)]
  congr 1
  apply List.ext_getElem?
  intro i
  rw [acellsF_get]
  split
  · rename_i hi
    obtain ⟨k', r1, r2, r3⟩ := hk i hi
    rw [q1] at r1; cases r1
    rw [r3, List.getElem?_eq_getElem hi]
  · rw [List.getElem?_eq_none (by omega)]
/-- A call that the hook answers. -/
theorem FW.hook {f : FuncId} {args : List Value} {v : Value} {Q : Value → AH → Prop} (h : C.hook f args H = some (.ret v H')) (q : Q v H') : FW C f args H Q :=
  ⟨v, H', ⟨0, fun n _ => by unfold afun; rw [h]⟩, q⟩
/-- What is changed is new to the first heap. -/
theorem Keep.fresh {H'' : AH} {S : List Nat} (h : Keep H H' []) (k : Keep H' H'' S) (hs : ∀ b ∈ S, H.next ≤ b) : Keep H H'' [] :=
  ((h.mono (S' := S) (by simp)).trans k).old fun b hb hl => absurd hl (by have := hs b hb; omega)
/-- Two cells of one row. -/
theorem Mem.row2 {b : Nat} {l : List Value} {ro : Bool} {sz : Nat} (h : Mem H b l ro sz) {o : Nat} {x y : Value} (h1 : l[o]? = some x) (h2 : l[o + 1]? = some y) : H.row b o 2 = some [x, y] := by
  have hl : o + 1 < l.length := by
    rcases Nat.lt_or_ge (o + 1) l.length with q | q
    · exact q
    · rw [List.getElem?_eq_none q] at h2; cases h2
  rw [h.row o 2 (by omega)]
  congr 1
  apply List.ext_getElem?
  intro i
  rw [List.getElem?_take]
  match i with
  | 0 => simp [h1]
  | 1 => simp [h2]
  | i + 2 => rw [if_neg (by omega), List.getElem?_eq_none (by simp)]
theorem putL_get (l vs : List Value) (o k : Nat) (h : o + vs.length ≤ l.length) : (l.take o ++ vs ++ l.drop (o + vs.length))[k]? = if o ≤ k ∧ k < o + vs.length then vs[k - o]? else l[k]? := by
  have ht : (l.take o).length = o := by rw [List.length_take]; omega
  by_cases c1 : k < o
  · rw [List.append_assoc, List.getElem?_append_left (by omega), List.getElem?_take, if_pos c1, if_neg (by omega)]
  · rw [List.append_assoc, List.getElem?_append_right (by omega), ht]
    by_cases c2 : k < o + vs.length
    · rw [List.getElem?_append_left (by omega), if_pos ⟨by omega, c2⟩]
    · rw [List.getElem?_append_right (by omega), if_neg (by omega), List.getElem?_drop]
      congr 1; omega
theorem putL_length (l vs : List Value) (o : Nat) (h : o + vs.length ≤ l.length) : (l.take o ++ vs ++ l.drop (o + vs.length)).length = l.length := by
  simp only [List.length_append, List.length_take, List.length_drop]; omega
/-! comparing with nil; least and greatest; slices that are built -/
def isPtrT : TypeDesc → Bool
  | .pointer _ => true
  | _ => false
@[simp] theorem isPtrT_pointer (e : TypeId) : isPtrT (.pointer e) = true := rfl
def isPtrI : Option TI → Bool
  | some i => isPtrT i.desc
  | none => false
@[simp] theorem isPtrI_some (i : TI) : isPtrI (some i) = isPtrT i.desc := rfl
theorem aeq_ptr_nil {hp : Addr → Addr → Option Bool} {d : Nat} {t : TypeId} (h : isPtrI (C.ti t) = true) (a : Option Addr) : aeq C hp (d + 1) t (.pointer a) (.pointer none) = some a.isNone := by
  unfold aeq
  cases hi : C.ti t with
  | none => rw [hi] at h; cases h
  | some i =>
    rw [hi] at h
    have h : isPtrT i.desc = true := h
    simp only
    cases hd : i.desc <;> rw [hd] at h <;> (first | (cases h; done) | (cases a <;> rfl))
@[simp] theorem tBin_eql_nil (H : AH) (t : TypeId) (c : Bool) (a : Option Addr) (K : Value → Prop) (g : Tg K) (h : isPtrI (C.ti t) = true) : tBin C H .eql t c (.pointer a) (.pointer none) K g = K (.bool a.isNone) := by
  have e : abin C (fun _ _ => none) .eql t c (.pointer a) (.pointer none) = some (.bool a.isNone) := by
    show (bif false then none else (bif true then (match aeq C (fun _ _ => none) 6 t (.pointer a) (.pointer none) with | some r => some (Value.bool r) | none => none) else none)) = _
    rw [aeq_ptr_nil h]; rfl
  show (∃ v, (match abin C (fun _ _ => none) .eql t c (.pointer a) (.pointer none) with | some v => some v | none => abin C (aptrEq H) .eql t c (.pointer a) (.pointer none)) = some v ∧ K v) = _
  rw [e]; simp
@[simp] theorem tBin_neq_nil (H : AH) (t : TypeId) (c : Bool) (a : Option Addr) (K : Value → Prop) (g : Tg K) (h : isPtrI (C.ti t) = true) : tBin C H .neq t c (.pointer a) (.pointer none) K g = K (.bool (!a.isNone)) := by
  have e : abin C (fun _ _ => none) .neq t c (.pointer a) (.pointer none) = some (.bool (!a.isNone)) := by
    show (bif false then none else (bif true then (match aeq C (fun _ _ => none) 6 t (.pointer a) (.pointer none) with | some r => some (Value.bool (!r)) | none => none) else none)) = _
    rw [aeq_ptr_nil h]; rfl
  show (∃ v, (match abin C (fun _ _ => none) .neq t c (.pointer a) (.pointer none) with | some v => some v | none => abin C (aptrEq H) .neq t c (.pointer a) (.pointer none)) = some v ∧ K v) = _
  rw [e]; simp
def isBoolT : TypeDesc → Bool
  | .bool => true
  | _ => false
@[simp] theorem isBoolT_bool : isBoolT .bool = true := rfl
def isBoolI : Option TI → Bool
  | some i => isBoolT i.desc
  | none => false
@[simp] theorem isBoolI_some (i : TI) : isBoolI (some i) = isBoolT i.desc := rfl
theorem aeq_bool {hp : Addr → Addr → Option Bool} {d : Nat} {t : TypeId} (h : isBoolI (C.ti t) = true) (a b : Bool) : aeq C hp (d + 1) t (.bool a) (.bool b) = some (a == b) := by
  unfold aeq
  cases hi : C.ti t with
  | none => rw [hi] at h; cases h
  | some i =>
    rw [hi] at h
    have h : isBoolT i.desc = true := h
    simp only
    cases hd : i.desc <;> rw [hd] at h <;> (first | (cases h; done) | rfl)
@[simp] theorem tBin_eql_bool (H : AH) (t : TypeId) (c a b : Bool) (K : Value → Prop) (g : Tg K) (h : isBoolI (C.ti t) = true) : tBin C H .eql t c (.bool a) (.bool b) K g = K (.bool (a == b)) := by
  have e : abin C (fun _ _ => none) .eql t c (.bool a) (.bool b) = some (.bool (a == b)) := by
    show (bif false then none else (bif true then (match aeq C (fun _ _ => none) 6 t (.bool a) (.bool b) with | some r => some (Value.bool r) | none => none) else none)) = _
    rw [aeq_bool h]; rfl
  show (∃ v, (match abin C (fun _ _ => none) .eql t c (.bool a) (.bool b) with | some v => some v | none => abin C (aptrEq H) .eql t c (.bool a) (.bool b)) = some v ∧ K v) = _
  rw [e]; simp
@[simp] theorem tBin_neq_bool (H : AH) (t : TypeId) (c a b : Bool) (K : Value → Prop) (g : Tg K) (h : isBoolI (C.ti t) = true) : tBin C H .neq t c (.bool a) (.bool b) K g = K (.bool (!(a == b))) := by
  have e : abin C (fun _ _ => none) .neq t c (.bool a) (.bool b) = some (.bool (!(a == b))) := by
    show (bif false then none else (bif true then (match aeq C (fun _ _ => none) 6 t (.bool a) (.bool b) with | some r => some (Value.bool (!r)) | none => none) else none)) = _
    rw [aeq_bool h]; rfl
  show (∃ v, (match abin C (fun _ _ => none) .neq t c (.bool a) (.bool b) with | some v => some v | none => abin C (aptrEq H) .neq t c (.bool a) (.bool b)) = some v ∧ K v) = _
  rw [e]; simp
theorem wo_min_aux {ev : Operand → Value} {H : AH} {K : Value → AH → Prop} (x y : Operand) (tys : Array TypeId) : wo C ev (.call ⟨.builtin .min, #[x, y], tys⟩) H K ↔ wMin (ev x) (ev y) fun v => K v H := by
  rw [wPureGen ev H K rfl rfl rfl rfl]
  have : apure C ev (.call ⟨.builtin .min, #[x, y], tys⟩) = (match ev x, ev y with | .int k a, .int _ b => some (Value.int k (bif ilt b a then b else a)) | _, _ => none) := nr rfl
  rw [this]
  unfold wMin wSome
  constructor
  · rintro ⟨v, h1, h2⟩
    split at h1
    · rename_i e1 e2; cases h1; simp only [e1, e2]; rw [← cond_ilt]; exact h2
    · cases h1
  · intro h
    split at h
    · rename_i e1 e2; simp only [e1, e2]; exact ⟨_, rfl, by rw [cond_ilt]; exact h⟩
    · exact h.elim
theorem wo_max_aux {ev : Operand → Value} {H : AH} {K : Value → AH → Prop} (x y : Operand) (tys : Array TypeId) : wo C ev (.call ⟨.builtin .max, #[x, y], tys⟩) H K ↔ wMax (ev x) (ev y) fun v => K v H := by
  rw [wPureGen ev H K rfl rfl rfl rfl]
  have : apure C ev (.call ⟨.builtin .max, #[x, y], tys⟩) = (match ev x, ev y with | .int k a, .int _ b => some (Value.int k (bif ilt a b then b else a)) | _, _ => none) := nr rfl
  rw [this]
  unfold wMax wSome
  constructor
  · rintro ⟨v, h1, h2⟩
    split at h1
    · rename_i e1 e2; cases h1; simp only [e1, e2]; rw [← cond_ilt]; exact h2
    · cases h1
  · intro h
    split at h
    · rename_i e1 e2; simp only [e1, e2]; exact ⟨_, rfl, by rw [cond_ilt]; exact h⟩
    · exact h.elim
@[simp ↓] theorem wo_min (ev : Operand → Value) (H : AH) (K : Value → AH → Prop) (x y : Operand) (tys : Array TypeId) : wo C ev (.call ⟨.builtin .min, #[x, y], tys⟩) H K = tMin (ev x) (ev y) (fun v => K v H) .mk := propext (wo_min_aux x y tys)
@[simp ↓] theorem wo_max (ev : Operand → Value) (H : AH) (K : Value → AH → Prop) (x y : Operand) (tys : Array TypeId) : wo C ev (.call ⟨.builtin .max, #[x, y], tys⟩) H K = tMax (ev x) (ev y) (fun v => K v H) .mk := propext (wo_max_aux x y tys)
@[simp] theorem afillT_nil (size n : Nat) (t : T Value) : afillT size n [] t = some t := rfl
theorem afillT_one (size : Nat) (v : Value) (h : (cellsOfV v).length = size) (h0 : 0 < size) : afillT size (1 * size) [(0, v)] .leaf = some (T.lay (cellsOfV v) .leaf 0) := by
  show (bif someCells v size && Nat.ble (0 * size + size) (1 * size) then some (T.lay (cellsOfV v) .leaf (0 * size)) else none) = _
  rw [show (someCells v size && Nat.ble (0 * size + size) (1 * size)) = true by unfold someCells; simp [h, h0, Nat.blt_eq], cond_true, Nat.zero_mul]
theorem slB_nil {t e : TypeId} {i j : TI} (ht : C.ti t = some i) (hd : i.desc = .slice e) (hj : C.ti e = some j) (hz : j.zero.length = j.size) : slB C t 0 [] = some { n := 0, sz := j.size, tr := .leaf, zero := j.zero } := by
  unfold slB; simp [ht, hd, hj, hz]
theorem slB_one {t e : TypeId} {i j : TI} (v : Value) (ht : C.ti t = some i) (hd : i.desc = .slice e) (hj : C.ti e = some j) (hz : j.zero.length = j.size) (hv : (cellsOfV v).length = j.size) (h0 : 0 < j.size) (hs : j.size ≤ 16777216) :
    slB C t 1 [(0, v)] = some { n := j.size, sz := j.size, tr := T.lay (cellsOfV v) .leaf 0, zero := j.zero } := by
  unfold slB
  simp only [ht, hd, slEl_slice, hj]
  rw [if_pos ⟨by omega, hz⟩, afillT_one _ _ hv h0]
  simp
end
end Go.Eng
/- Rounds of loops over functions: what is asked around them. -/
namespace Go.Eng
open Go
section
variable {C : Ctx} {H H' : AH}
@[simp] theorem layP_stop (n : Nat) (args : List Value) (tm : T Value) : layP n [] args tm = tm := rfl
@[simp] theorem layP_step (n : Nat) (p : Tmp) (ps : List Tmp) (a : Value) (args : List Value) (tm : T Value) : layP n (p :: ps) (a :: args) tm = layP n ps args (tset n tm (some p) a) := rfl
theorem AH.cel_set_ne (H : AH) {b b' : Nat} (o : AObj) (h : b' ≠ b) (i : Nat) : (H.set b o).cel b' i = H.cel b' i := AH.cel_congr (by rw [AH.get_set, if_neg h]) i
theorem AH.row_set_ne (H : AH) {b b' : Nat} (o : AObj) (h : b' ≠ b) (i n : Nat) : (H.set b o).row b' i n = H.row b' i n := AH.row_congr (by rw [AH.get_set, if_neg h]) i n
/-- Two blocks behind one another at a loop's begin: the mark and the loop. -/
noncomputable def AH.ranged (H : AH) (o : ALoop) : AH := (H.push (.deferred true)).push (.loop o)
theorem AH.ranged_next (H : AH) (o : ALoop) : (H.ranged o).next = H.next + 2 := rfl
theorem AH.ranged_mark (H : AH) (o : ALoop) : (H.ranged o).get H.next = some (.deferred true) := by
  unfold AH.ranged; rw [AH.get_push, if_neg (by simp [AH.push]), AH.get_push, if_pos rfl]
theorem AH.ranged_loop (H : AH) (o : ALoop) : (H.ranged o).get (H.next + 1) = some (.loop o) := by
  unfold AH.ranged; rw [AH.get_push]; exact if_pos rfl
theorem Keep.ranged (H : AH) (o : ALoop) (S : List Nat) : Keep H (H.ranged o) S := (Keep.push _ _ _).trans (Keep.push _ _ _)
theorem WF.ranged (w : WF H) (o : ALoop) : WF (H.ranged o) := (w.push _).push _
theorem Keep.get_eq {S : List Nat} (k : Keep H H' S) {b : Nat} {o : AObj} (w : WF H) (h : H.get b = some o) (hs : b ∉ S) : H'.get b = some o := by
  have hb : b < H.next := by
    rcases Nat.lt_or_ge b H.next with q | q
    · exact q
    · rw [w b q] at h; cases h
  rw [k.get b hb hs]; exact h
theorem get_lt {b : Nat} {o : AObj} (w : WF H) (h : H.get b = some o) : b < H.next := by
  rcases Nat.lt_or_ge b H.next with q | q
  · exact q
  · rw [w b q] at h; cases h
theorem W.rangeFunc' {f : Operand} {ps : Array Tmp} {assign body : Code} {fr : AFr} {Q : AExit → AFr → AH → Prop} {g : FuncId} {cap : List Value} (hr : fr.rnd = none) (hf : aev fr.tm f = .func (.func g) ⟨[]⟩ ⟨cap⟩)
    (h : FW C g ([.func (.yield (H.next + 1)) ⟨[]⟩ ⟨[]⟩] ++ cap) (H.ranged (loopObj fr ps assign body))
      fun _ H3 => AfterLoop (H.next + 1) { fr with ds := .mark H.next :: fr.ds } Q H3) : W C (.rangeFunc f ps assign body) fr H Q := W.rangeFunc hr hf h
theorem AfterLoop.mk {l : Nat} {fr : AFr} {Q : AExit → AFr → AH → Prop} {r : ALoop} (h1 : H.get l = some (.loop r)) (h2 : r.st = .ready) (h3 : r.pending = none) (h4 : Q .normal fr (H.set l (.loop { r with st := .exhausted }))) : AfterLoop l fr Q H := by
  obtain ⟨st, pending, tm, n, params, assign, body⟩ := r
  simp only at h2 h3
  subst h2; subst h3
  exact ⟨_, h1, by simp, h4⟩
theorem AfterLoop.exit {l id : Nat} {fr : AFr} {Q : AExit → AFr → AH → Prop} {r : ALoop} (h1 : H.get l = some (.loop r)) (h2 : r.st ≠ .busy) (h3 : r.pending = some (.exit id)) (h4 : Q (.exit id) fr (H.set l (.loop { r with st := .exhausted }))) : AfterLoop l fr Q H := by
  obtain ⟨st, pending, tm, n, params, assign, body⟩ := r
  simp only at h2 h3
  subst h3
  exact ⟨_, h1, h2, h4⟩
/-- Behind a loop that may have been left early: its block's end. -/
theorem AfterLoop.any {l id : Nat} {fr : AFr} {Q : AExit → AFr → AH → Prop} {r : ALoop} (h1 : H.get l = some (.loop r)) (h2 : r.st ≠ .busy) (h3 : r.pending = none ∨ r.pending = some (.exit id)) (h4 : ∀ o, Q .normal fr (H.set l (.loop o))) : AfterLoop l fr (Blkd id Q) H := by
  obtain ⟨st, pending, tm, n, params, assign, body⟩ := r
  simp only at h2 h3
  rcases h3 with rfl | rfl
  · exact ⟨_, h1, h2, h4 _⟩
  · refine ⟨_, h1, h2, ?_⟩
    show (bif Nat.beq id id then _ else _)
    rw [Nat.beq_refl, cond_true]
    exact h4 _
/-- A round whose loop stands ready. -/
theorem CW.round' {l : Nat} {args : List Value} {K : Value → AH → Prop} {r : ALoop} (hl : H.get l = some (.loop r)) (ha : args.length = r.params.size)
    (h : wp C r.assign { tm := layP r.n r.params.toList args r.tm, n := r.n, ds := [], rnd := some l } H fun e fr H1 => e = .normal ∧ ∃ r1, H1.get l = some (.loop r1) ∧ r1.st = .ready ∧
      wp C r.body { tm := fr.tm, n := fr.n, ds := fr.ds, rnd := some l } (H1.set l (.loop { r1 with st := .busy })) fun e _ H2 => AfterRound l K e H2) : CW C (.round l args) H K :=
  CW.round hl ha ((wp_ok _ _ _ _ h).mono fun _ _ _ ⟨h1, r1, h2, h3, h4⟩ => ⟨h1, r1, h2, h3, wp_ok _ _ _ _ h4⟩)
/-! variables that stand in memory -/
/-- Variables and what they hold. -/
def Vars (H : AH) (l : List (Nat × List Value)) : Prop := ∀ p ∈ l, Mem H p.1 p.2 false 1
theorem Vars.keep {l : List (Nat × List Value)} {S : List Nat} (h : Vars H l) (w : WF H) (k : Keep H H' S) (hs : ∀ p ∈ l, p.1 ∉ S) : Vars H' l := fun p hp => (h p hp).keep w k (hs p hp)
theorem Vars.nil : Vars H [] := fun _ h => by cases h
theorem Vars.cons {b : Nat} {vs : List Value} {l : List (Nat × List Value)} (h : Mem H b vs false 1) (k : Vars H l) : Vars H ((b, vs) :: l) := fun p hp => by
  rcases List.mem_cons.1 hp with rfl | hp
  · exact h
  · exact k p hp
theorem Vars.new {l : List (Nat × List Value)} (h : Vars H l) (w : WF H) (vs : List Value) : Vars (H.new vs) ((H.next, vs) :: l) :=
  .cons (Mem.new H vs) (h.keep w (Keep.new _ _ _) (S := []) (by simp))
theorem Vars.lt {l : List (Nat × List Value)} (h : Vars H l) (w : WF H) : ∀ p ∈ l, p.1 < H.next := fun p hp => (h p hp).lt w
/-! slices up to a place; cells that are put -/
theorem slV_hi {t e : TypeId} {i j : TI} (ht : C.ti t = some i) (hd : i.desc = .slice e) (hj : C.ti e = some j) {b o n cap h : Nat} {sp : Option Nat} {k : Blk} (hb : H.get b = some (.cells k)) (hh : h ≤ cap) :
    slV C t H (.slice (some ⟨b, o, sp⟩) n cap) none (some (.int .i64 (h : Int))) none = some (.slice (some ⟨b, o, sp⟩) h cap) := by
  unfold slV
  have ha : alive H (.slice (some ⟨b, o, sp⟩) n cap) = true := by unfold alive; simp only [hb]
  rw [ha, cond_true]
  unfold aslice
  simp only [ht, hd, hj]
  unfold asliceSl
  have hbd : abound (.int .i64 (h : Int)) cap = some h := abound_int .i64 (h : Int) cap (by omega) (by omega)
  simp only [aboundO, hbd]
  cases sp with
  | none =>
    simp only [Nat.sub_zero]
    cases hc : Nat.beq cap 0 <;> simp
  | some s =>
    simp only [Nat.sub_zero]
    have : ((Nat.beq cap 0 && !(Nat.beq 0 0)) || !(Nat.ble 0 cap)) = false := by simp
    rw [this]
    simp
theorem AH.cel_put {b o : Nat} {vs : List Value} {k : Blk} (h : H.get b = some (.cells k)) (hn : o + vs.length ≤ k.n) (i : Nat) : (H.put b o vs).cel b i = if o ≤ i ∧ i < o + vs.length then vs[i - o]? else H.cel b i := by
  have hg : (H.put b o vs).get b = some (.cells { k with tr := T.lay vs k.tr o }) := by
    unfold AH.put; simp only [h]; rw [AH.get_set, if_pos rfl]
  unfold AH.cel
  rw [hg, h]
  simp only
  by_cases hi : i < k.n
  · rw [if_pos hi, if_pos hi, blk_lay_cell]
    by_cases hc : o ≤ i ∧ i < o + vs.length
    · rw [if_pos hc, if_pos hc, List.getElem?_eq_getElem (by omega)]
      simp [List.getD, List.getElem?_eq_getElem (show i - o < vs.length by omega)]
    · rw [if_neg hc, if_neg hc]
  · rw [if_neg hi, if_neg hi, if_neg (by omega)]
theorem AH.canPut.put {b b' o o' n' : Nat} {vs : List Value} (h : H.canPut b' o' n') : (H.put b o vs).canPut b' o' n' := by
  obtain ⟨k, h1, h2, h3⟩ := h
  by_cases e : b' = b
  · subst e
    exact ⟨{ k with tr := T.lay vs k.tr o }, by unfold AH.put; simp only [h1]; rw [AH.get_set, if_pos rfl], h2, h3⟩
  · exact ⟨k, by rw [AH.put_get_ne _ _ e]; exact h1, h2, h3⟩
theorem AH.canPut.keep {b o n : Nat} {S : List Nat} (h : H.canPut b o n) (w : WF H) (kk : Keep H H' S) (hs : b ∉ S) : H'.canPut b o n := by
  obtain ⟨k, h1, h2, h3⟩ := h
  exact ⟨k, kk.get_eq w h1 hs, h2, h3⟩
theorem Own.canPut {v : Value} {n sz : Nat} {cs : List Value} {b o cap : Nat} {sp : Option Nat} (h : Own H v n sz cs) (hv : v = .slice (some ⟨b, o, sp⟩) n cap) {i m : Nat} (hi : i + m ≤ n * sz) : H.canPut b (o + i) m := by
  obtain ⟨hl, h | ⟨b', o', sp', cap', k, e, h1, h2, h3, h4, h5, h6⟩⟩ := h
  · rw [h.1] at hv; cases hv
  · rw [e] at hv; cases hv
    refine ⟨k, h2, ?_, h3⟩
    have : o + cap * sz ≤ k.n := by split at h6 <;> omega
    have : n * sz ≤ cap * sz := Nat.mul_le_mul_right _ h1
    omega
end
end Go.Eng
