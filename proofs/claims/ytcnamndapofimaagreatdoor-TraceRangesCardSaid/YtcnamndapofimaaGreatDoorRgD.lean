/- The ring of a log: adding. -/
import Derived.Test.YtcnamndapofimaaGreatDoorRgB
namespace Go.Eng.R
open Go Go.Eng Go.Proofs
/-- What Add leaves. -/
def AddQ (H : AH) (gb rb most : Nat) (es : List Fd) (F : Nat → Prop) (H' : AH) : Prop :=
  ∃ F', LogAt H' gb rb most es F' ∧ (∀ b, F' b → F b ∨ H.next ≤ b) ∧ Keep H H' [gb, rb] ∧ WF H'
set_option maxRecDepth 100000 in
theorem add_ok {H : AH} {gb rb most : Nat} {es : List Fd} {F : Nat → Prop} {r : Int} {pv : Value} {p : List Int} (w : WF H) (L : LogAt H gb rb most es F) (hp : IntsAt H pv p) (hs : p.length * 8 ≤ 140737488351232) (he : es.length < 4611686018427387904) :
    FW C 34 [.pointer (some ⟨gb, 0, none⟩), .agg ⟨[.int .i64 r, pv]⟩] H fun _ H' => AddQ H gb rb most (es ++ [⟨r, p⟩]) F H' := by
  refine FW.walk (n := 30) (rs := []) rfl fn34 rfl rfl rfl ?_
  have k1 := Keep.new H [.int .i64 r, pv] []
  have w1 := w.new [.int .i64 r, pv]
  have L1 := L.keep w k1 (by simp)
  have c0 := L1.log.cel 0
  have c1 := L1.log.cel 1
  have rr := (Mem.new H [.int .i64 r, pv]).row 0 2 (by simp)
  simp at c0 c1 rr
  simp [L.pos]
  refine W.draw [0, 1, 2, 3, 4, 5, 6, 7, 8, 9, 10, 11, 12, 13, 14, 15, 16, 17] [0, 1, 3, 7, 0, 16, 48, 112, 0, 256, 768, 1792, 3840, 8176, 0, 16384, 65535, 131071] rfl (by kernel_rfl) (by kernel_rfl) (by kernel_rfl) ?_
  have hm : (most : Int) ≠ 0 := by have := L.pos; omega
  have ht : Int.tmod (es.length : Int) (most : Int) = ((es.length % most : Nat) : Int) := (Int.ofNat_tmod _ _).symm
  have hi : es.length % most < most := Nat.mod_lt _ L.pos
  generalize hx : es.length % most = i at ht hi
  simp [c0, c1, rr, ht]
  refine ⟨by omega, FW.mono (own_ok w1 (hp.keep w k1 (by simp)) (by omega)) ?_⟩
  rintro v H2 ⟨pv', rfl, ho, k2, w2, hb⟩
  have L2 := L1.keep w1 k2 (by simp)
  have d0 := L2.log.cel 0
  have d1 := L2.log.cel 1
  have dr := (Mem.new H [.int .i64 r, pv]).keep w1 k2 (by simp) |>.row 0 2 (by simp)
  simp at d0 d1 dr
  obtain ⟨cs, r1, r2, r3⟩ := L2.ring
  have e0 := AH.cel_put_ne H2 (i * 2) [.int .i64 r, pv'] L2.ne 0
  have e1 := AH.cel_put_ne H2 (i * 2) [.int .i64 r, pv'] L2.ne 1
  have hrn : H.next ≠ rb := by have := L.old rb L.fr; omega
  have er := AH.row_put_ne H2 (i * 2) [.int .i64 r, pv'] hrn 0 2
  have hvs : vsame 5 (.agg ⟨[.int .i64 r, pv]⟩) (.agg ⟨[.int .i64 r, pv]⟩) = true := by
    obtain ⟨a, c, rfl, _⟩ := hp
    exact vsame_agg 4 _ (by simp)
  simp [Nat.testBit_eq_decide_div_mod_eq, hvs, c0, c1, rr, d0, d1, dr, hi, ht, r1.canPut (o := i * 2) (n := 2) (by omega), ho.one, e0, e1, er]
  rw [show awrap .i64 ((es.length : Int) + 1) = (es.length : Int) + 1 from awrap_id (by omega) (by omega)]
  have hng : gb ≠ rb := L.ne
  have hgn : gb < H.next := L.old gb L.fg
  have hrl : rb < H.next := L.old rb L.fr
  have m3 : Mem (H2.put rb (i * 2) [.int .i64 r, pv']) gb [.slice (some ⟨rb, 0, none⟩) most most, .int .i64 es.length] false 1 := L2.log.congr (AH.put_get_ne _ _ hng)
  have hup : i * 2 + [Value.int .i64 r, pv'].length ≤ cs.length := by simp; omega
  have m4 := r1.put (i * 2) [.int .i64 r, pv'] hup
  have w3 := w2.put rb (i * 2) [.int .i64 r, pv']
  have w4 := w3.put gb 1 [.int .i64 (es.length + 1)]
  have m5 := m3.put 1 [.int .i64 (es.length + 1)] (by simp)
  have m6 := m4.congr (H' := (H2.put rb (i * 2) [.int .i64 r, pv']).put gb 1 [.int .i64 (es.length + 1)]) (AH.put_get_ne _ _ (Ne.symm hng))
  have kk : Keep H2 ((H2.put rb (i * 2) [.int .i64 r, pv']).put gb 1 [.int .i64 (es.length + 1)]) [gb, rb] := (Keep.put _ _ _ _ (by simp)).trans (Keep.put _ _ _ _ (by simp))
  have kH : Keep H H2 [] := k1.trans k2
  refine ⟨m3.canPut (by simp), fun b => F b ∨ b ∈ blkOf pv', ⟨L.pos, ?_, ⟨_, m6, ?_, ?_⟩, ?_, hng, .inl L.fg, .inl L.fr, ?_⟩, ?_, (kH.mono (by simp)).trans kk, w4⟩
  · simp at m5
    simp
    exact m5
  · rw [putL_length _ _ _ hup]; exact r2
  · intro n x hx' hn
    simp only [List.length_append, List.length_cons, List.length_nil] at hn
    by_cases hnl : n < es.length
    · rw [List.getElem?_append_left hnl] at hx'
      obtain ⟨qv, q1, q2, q3, q4⟩ := r3 n x hx' (by omega)
      have hni : n % most ≠ i := by
        intro e
        have h1 : (es.length - n) % most = 0 := by
          have := Nat.sub_mod_eq_zero_of_mod_eq (show es.length % most = n % most by omega)
          exact this
        have h2 := Nat.le_of_dvd (by omega) (Nat.dvd_of_mod_eq_zero h1)
        omega
      refine ⟨qv, ?_, ?_, q3.keep w2 kk fun b _ hb hs => ?_, fun b hb => ?_⟩
      · rw [putL_get _ _ _ _ hup, if_neg (by simp; omega)]; exact q1
      · rw [putL_get _ _ _ _ hup, if_neg (by simp; omega)]; exact q2
      · have := q4 b hb; simp at hs; omega
      · have := q4 b hb; exact ⟨.inl this.1, this.2⟩
    · have hnl : n = es.length := by
        have := (List.getElem?_eq_some_iff.1 hx').1
        simp at this; omega
      subst hnl
      rw [List.getElem?_append_right (Nat.le_refl _)] at hx'
      simp at hx'
      subst hx'
      rw [hx]
      refine ⟨pv', ?_, ?_, ho.sl.keep w2 kk fun b _ hb' hs => ?_, fun b hb' => ?_⟩
      · rw [putL_get _ _ _ _ hup, if_pos (by simp)]; simp
      · rw [putL_get _ _ _ _ hup, if_pos (by simp)]; simp
      · have := hb b hb'; simp at hs this; omega
      · have := hb b hb'; simp at this; exact ⟨.inr hb', by omega, by omega⟩
  · intro x hx'
    rcases List.mem_append.1 hx' with h | h
    · exact L.fits x h
    · simp at h; subst h; exact hs
  · rintro b (h | h)
    · exact Nat.lt_of_lt_of_le (L.old b h) (Nat.le_trans kH.next kk.next)
    · exact Nat.lt_of_lt_of_le (ho.lt w2 b h) kk.next
  · rintro b (h | h)
    · exact .inl h
    · have := hb b h; simp at this; exact .inr (by omega)
end Go.Eng.R
