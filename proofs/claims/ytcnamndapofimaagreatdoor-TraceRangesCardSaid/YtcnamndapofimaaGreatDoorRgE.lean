/- The ring of a log: filling it. -/
import Derived.Test.YtcnamndapofimaaGreatDoorRgD
namespace Go.Eng.R
open Go Go.Eng Go.Proofs
/-- A list of entries of the caller's: in memory below N. -/
def FdsAt (H : AH) (N : Nat) (v : Value) (l : List Fd) : Prop :=
  ∃ a c, v = .slice a l.length c ∧ (∀ x ∈ l, x.fits) ∧ (l ≠ [] → ∃ b o sp, a = some ⟨b, o, sp⟩ ∧ b < N ∧ ∀ i x, l[i]? = some x → ∃ pv, H.row b (o + i * 2) 2 = some [.int .i64 x.rule, pv] ∧ IntsAt H pv x.path ∧ ∀ b ∈ blkOf pv, x.path.length ≠ 0 → b < N)
theorem FdsAt.keep {H H' : AH} {N : Nat} {v : Value} {l : List Fd} {S : List Nat} (h : FdsAt H N v l) (hN : N ≤ H.next) (k : Keep H H' S) (hS : ∀ b ∈ S, N ≤ b) : FdsAt H' N v l := by
  obtain ⟨a, c, rfl, h1, h2⟩ := h
  refine ⟨a, c, rfl, h1, fun hl => ?_⟩
  obtain ⟨b, o, sp, rfl, hb, h3⟩ := h2 hl
  have hn : ∀ b, b < N → b ∉ S := fun b hb hs => by have := hS b hs; omega
  refine ⟨b, o, sp, rfl, hb, fun i x hx => ?_⟩
  obtain ⟨pv, q1, q2, q3⟩ := h3 i x hx
  refine ⟨pv, by rw [k.row (by omega) (hn b hb)]; exact q1, ?_, q3⟩
  obtain ⟨a', c', rfl, r1, r2⟩ := q2
  refine ⟨a', c', rfl, r1, fun h0 => ?_⟩
  obtain ⟨b', o', sp', rfl, r3⟩ := r2 h0
  have hb' := q3 b' (by simp [blkOf]) h0
  exact ⟨b', o', sp', rfl, by rw [k.row (by omega) (hn b' hb')]; exact r3⟩
/-- What filled answers. -/
def FilledQ (H : AH) (m : Int) (l : List Fd) (v : Value) (H' : AH) : Prop := Keep H H' [] ∧ WF H' ∧
    ((m < 1 ∨ 1000 < m) ∧ v = .tuple ⟨[.pointer none, .int .i64 1]⟩ ∨ ∃ gb rb F, 1 ≤ m ∧ m ≤ 1000 ∧ v = .tuple ⟨[.pointer (some ⟨gb, 0, none⟩), .int .i64 0]⟩ ∧ LogAt H' gb rb m.toNat l F ∧ ∀ b, F b → H.next ≤ b)
set_option maxRecDepth 100000 in
theorem filled_ok {H : AH} {N : Nat} {m : Int} {lv : Value} {l : List Fd} (w : WF H) (hN : N ≤ H.next) (hl : FdsAt H N lv l) (hs : l.length < 4611686018427387904) : FW C 42 [.int .i64 m, lv] H (FilledQ H m l) := by
  refine FW.walk (n := 32) (rs := [.tmp 4, .tmp 5]) rfl fn42 rfl rfl rfl ?_
  simp
  refine FW.mono (new_ok w) ?_
  rintro v H1 ⟨k1, w1, h1⟩
  have hl1 := hl.keep hN k1 (by simp)
  obtain ⟨a, c, rfl, hfit, hrd⟩ := id hl1
  rcases h1 with ⟨hm, rfl, rfl⟩ | ⟨gb, rb, F, hm1, hm2, rfl, L, hF⟩
  · simp
    refine W.loop (fun k fr H' => H' = H1 ∧ fr.n = 32 ∧ fr.ds = [] ∧ tget fr.tm 1 = .slice a l.length c ∧ tget fr.tm 6 = .pointer none ∧ tget fr.tm 7 = .int .i64 1 ∧ tget fr.tm 8 = .int .i64 0) ?_ (m := 0) (by simp)
    rintro k ⟨tm, n, ds, rnd⟩ H' ⟨rfl, hn, hds, g1, g6, g7, g8⟩
    simp only at hn hds g1 g6 g7 g8
    subst hn hds
    refine wp_ok _ _ _ _ ?_
    have hQ : FilledQ H' m l (.tuple ⟨[.pointer none, .int .i64 1]⟩) H' := ⟨k1, w1, .inl ⟨hm, rfl⟩⟩
    by_cases h0 : 0 < l.length <;> simp [g1, g6, g7, g8, h0, hQ]
  · simp
    refine W.loop (fun k fr H' => ∃ i F', k = l.length - i ∧ i ≤ l.length ∧ LogAt H' gb rb m.toNat (l.take i) F' ∧ (∀ b, F' b → H.next ≤ b) ∧ Keep H H' [] ∧ WF H' ∧ fr.n = 32 ∧ fr.ds = [] ∧ tget fr.tm 1 = .slice a l.length c ∧ tget fr.tm 6 = .pointer (some ⟨gb, 0, none⟩) ∧ tget fr.tm 7 = .int .i64 0 ∧ tget fr.tm 8 = .int .i64 (i : Nat)) ?_ (m := l.length) ⟨0, F, by simp, by simp, L, hF, k1, w1, by simp⟩
    rintro k ⟨tm, n, ds, rnd⟩ H2 ⟨i, F2, rfl, hi, L2, hF2, k2, w2, hn, hds, g1, g6, g7, g8⟩
    simp only at hn hds g1 g6 g7 g8
    subst hn hds
    refine wp_ok _ _ _ _ ?_
    by_cases h0 : i < l.length
    · obtain ⟨a', c', ea, _, h3⟩ := hl.keep hN k2 (by simp)
      cases ea
      obtain ⟨b, o, sp, rfl, hb, h3⟩ := h3 (by intro e; subst e; simp at h0)
      obtain ⟨pv, q1, q2, q3⟩ := h3 i l[i] (List.getElem?_eq_getElem h0)
      simp [g1, g6, g7, g8, h0, q1]
      refine FW.mono (add_ok w2 L2 q2 (hfit _ (List.getElem_mem h0)) (by simp; omega)) ?_
      rintro v H3 ⟨F3, L3, hF3, k3, w3⟩
      simp [g1, g6, g7, g8]
      have kN : Keep H H3 [] := k2.fresh k3 (by
        intro b hb
        have h1 := hF2 gb L2.fg
        have h2 := hF2 rb L2.fr
        simp at hb; omega)
      refine ⟨_, ?_, i + 1, rfl, h0, F3, ?_, fun b hb => ?_, kN, w3, ?_⟩
      · omega
      · rw [List.take_succ_eq_append_getElem h0]; exact L3
      · rcases hF3 b hb with h | h
        · exact hF2 b h
        · have := k2.next; omega
      · rw [awrap_id (by omega) (by omega)]; simp
    · have : i = l.length := by omega
      subst this
      simp [g1, g6, g7, g8]
      refine ⟨k2, w2, .inr ⟨gb, rb, F2, hm1, hm2, rfl, ?_, hF2⟩⟩
      simpa using L2
end Go.Eng.R
