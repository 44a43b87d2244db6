/- The ring of a log: the plain functions. -/
import Derived.Test.YtcnamndapofimaaGreatDoorRgC
namespace Go.Eng.R
open Go Go.Eng Go.Proofs
structure Fd where
  rule : Int
  path : List Int
set_option maxRecDepth 100000 in
theorem pick_ok {H : AH} {c n : Int} (hn : 0 < n) (h1 : -9223372036854775808 ≤ c) (h2 : c < 9223372036854775808) : FW C 46 [.int .i64 c, .int .i64 n] H fun v H' => H' = H ∧ ∃ k : Int, v = .int .i64 k ∧ 0 ≤ k ∧ k < n := by
  refine FW.walk (n := 13) (rs := [.tmp 4]) rfl fn46 rfl rfl rfl ?_
  simp
  refine ⟨fun h => ?_, fun h => ?_⟩
  · simp at h
    simp
    rw [awrap_id (n := c + 1) (by omega) (by omega), awrap_id (by omega) (by omega)]
    refine ⟨by omega, Int.tmod_nonneg _ (by omega), Int.tmod_lt_of_pos _ hn⟩
  · simp at h
    simp
    refine ⟨by omega, Int.tmod_nonneg _ (by omega), Int.tmod_lt_of_pos _ hn⟩
set_option maxRecDepth 100000 in
theorem own_ok {H : AH} {r : Int} {pv : Value} {p : List Int} (w : WF H) (h : IntsAt H pv p) (hs : p.length * 8 ≤ 140737488355328) :
    FW C 87 [.agg ⟨[.int .i64 r, pv]⟩] H fun v H' => ∃ pv', v = .agg ⟨[.int .i64 r, pv']⟩ ∧ Own H' pv' p.length 1 (ints p) ∧ Keep H H' [] ∧ WF H' ∧ ∀ b ∈ blkOf pv', H.next ≤ b := by
  refine FW.walk (n := 9) (rs := [.cell 2 77]) rfl fn87 rfl rfl rfl ?_
  have hpv : ∃ a c, pv = .slice a p.length c := by obtain ⟨a, c, e, _⟩ := h; exact ⟨a, c, e⟩
  have hone : cellsOfV pv = [pv] := by obtain ⟨a, c, rfl⟩ := hpv; rfl
  have k2 : Keep H ((H.new [.int .i64 r, pv]).new [.int .i64 0, .slice none 0 0]) [] := (Keep.new _ _ _).trans (Keep.new _ _ _)
  have w2 : WF ((H.new [.int .i64 r, pv]).new [.int .i64 0, .slice none 0 0]) := (w.new _).new _
  have k3 := k2.trans (Keep.push _ (.cells { n := 0, sz := 1, tr := .leaf, zero := [.int .i64 0] }) [])
  have w3 := w2.push (.cells { n := 0, sz := 1, tr := .leaf, zero := [.int .i64 0] })
  have ho := Own.built ((H.new [.int .i64 r, pv]).new [.int .i64 0, .slice none 0 0]) { n := 0, sz := 1, tr := .leaf, zero := [.int .i64 0] } 0 1 0 rfl rfl rfl (Nat.le_refl _)
  obtain ⟨v', H', e, ho', k', w', hb⟩ := app_own (C := C) (t := 26) (u := 26) ti26 t26_desc ti3 ti26 t26_desc (by rw [t3_size]; exact ho) (h.keep w k3 (by simp)) (by simp) w3 rfl (by simp) (ints_one p) (by simpa using hs)
  simp only [AH.next_new] at e k' hb
  have k4 : Keep H H' [] := k3.fresh k' (by simp [blkOf]; omega)
  have hcs : Own H' v' p.length 1 (ints p) := by simpa using ho'
  have hv1 : cellsOfV v' = [v'] ∧ oneCellV v' = true := hcs.one
  have hb' : ∀ b ∈ blkOf v', H.next + 2 ≤ b := by
    intro b hbb
    rcases hb b hbb with q | q
    · simp [blkOf] at q; omega
    · simp [AH.push] at q; omega
  have m1 : Mem H' H.next [.int .i64 r, pv] false 1 := (Mem.new H [.int .i64 r, pv]).keep (w.new _) (((Keep.new _ _ _).trans (Keep.push _ _ _)).trans k') (by simp [blkOf])
  have m2 : Mem H' (H.next + 1) [.int .i64 0, .slice none 0 0] false 1 := (Mem.new (H.new [.int .i64 r, pv]) [.int .i64 0, .slice none 0 0]).keep w2 ((Keep.push _ _ _).trans k') (by simp [blkOf])
  have m3 := m1.put 1 [v'] (by simp)
  have m4 : Mem (H'.put H.next 1 [v']) (H.next + 1) [.int .i64 0, .slice none 0 0] false 1 := m2.congr (AH.put_get_ne _ _ (by omega))
  have m5 := m4.put 0 [.int .i64 r, v'] (by simp)
  simp at m3 m5
  simp [AH.cel_new, AH.cel_push, slB_nil (t := 26) ti26 t26_desc ti3 rfl, e, hv1, m1.canPut (o := 1) (n := 1) (by simp), m3.row 0 2 (by simp), m4.canPut (o := 0) (n := 2) (by simp), m5.row 0 2 (by simp)]
  have k5 : Keep H ((H'.put H.next 1 [v']).put (H.next + 1) 0 [.int .i64 r, v']) [] := k4.fresh ((Keep.put H' H.next 1 [v'] (S := [H.next, H.next + 1]) (by simp)).trans (Keep.put _ _ _ _ (by simp))) (by simp)
  refine ⟨hcs.keep w' ((Keep.put H' H.next 1 [v'] (S := [H.next, H.next + 1]) (by simp)).trans (Keep.put _ _ _ _ (by simp))) (fun b hb hs => ?_), k5, (w'.put _ _ _).put _ _ _, fun b hb => by have := hb' b hb; omega⟩
  have := hb' b hb
  simp at hs
  omega
end Go.Eng.R
