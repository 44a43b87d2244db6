/- Entries that are handed in, read at the start. -/
import Derived.Test.YtcnamndapofimaaGreatDoorRgE
import Derived.Test.YtcnamndapofimaaGreatDoorArgs
namespace Go.Eng.R
open Go Go.Eng Go.Proofs
section
variable {w : World} {H : Type} {enc : TypeId × Value → H} {P : Program} {held : Bool} {sp : Nat → Bool}
/-- One entry. -/
def FdStart (w : World) (a : Addr) (B : Nat) (i : Nat) (x : Fd) : Prop :=
  ∃ pv, w.cells? 0 (a.add (i * 2)) 2 = some [.int .i64 x.rule, pv] ∧ IntsAt (startH w) (absV w pv) x.path ∧ (∀ b ∈ blkOf (absV w pv), x.path.length ≠ 0 → b < w.heap.size + 1) ∧ x.path.length * 8 ≤ B
theorem fds_start {fuel : Nat} {t e ti ts : TypeId} {fs : Array Field} {f0 f1 : Field} {v : Value} {d : DataW H} {ps : List MemPlace} {B : Nat} (ht : P.underlying t = some (.slice e)) (he : P.underlying e = some (.struct fs)) (hfs : fs.toList = [f0, f1])
    (h0 : f0.type = ti ∧ f0.offset = 0) (h1 : f1.type = ts ∧ f1.offset = 1) (c2 : P.cellsOf e = 2) (ci : P.cellsOf ti = 1) (cs1 : P.cellsOf ts = 1) (ui : P.underlying ti = some (.int .i64)) (us : P.underlying ts = some (.slice ti)) (bi : P.bytesOf ti = 8) (be : P.bytesOf e = 32)
    (h : DataW.trod enc P w 0 sp held fuel t [v] = some (d, ps)) (hB : ∀ n ∈ d.weights P t, n ≤ B) (hB8 : B ≤ 140737488351232) : ∃ l : List Fd, FdsAt (startH w) (w.heap.size + 1) (absV w v) l ∧ l.length * 32 ≤ B := by
  rcases trod_slice ht h with ⟨e1, e2⟩ | ⟨a, len, cap, elems, rest, e1, e2, e3, e4, e5⟩
  · cases e1
    exact ⟨[], ⟨none, 0, rfl, by simp, fun h => absurd rfl h⟩, by simp⟩
  · cases e1
    subst e3
    obtain ⟨w1, w2⟩ := weights_slice (P := P) (elems := elems) (rest := rest) ht
    obtain ⟨l, l1, l2⟩ := list_of (FdStart w a B) len fun i hi => by
      obtain ⟨di, pi, vs, f', k1, k2, k3⟩ := e5 i hi
      rw [c2] at k2
      obtain ⟨xs, x1, x2, x3, x4⟩ := trod_struct he k3
      rw [hfs] at x4
      obtain ⟨d0, p0, g0, y1, y2⟩ := x4 0 f0 rfl
      obtain ⟨d1, p1, g1, y3, y4⟩ := x4 1 f1 rfl
      rw [h0.1, h0.2, ci] at y2
      rw [h1.1, h1.2, cs1] at y4
      rw [c2] at x1
      obtain ⟨v0, v1, rfl⟩ : ∃ v0 v1, vs = [v0, v1] := by
        rcases vs with _ | ⟨v0, _ | ⟨v1, _ | ⟨v2, vs⟩⟩⟩ <;> simp at x1
        exact ⟨_, _, rfl⟩
      obtain ⟨r, r1, r2, _⟩ := trod_int ui y2
      simp at r1
      subst r1
      obtain ⟨p, q1, q2, q3, q4⟩ := ints_start us ui ci (v := v1) y4
      refine ⟨⟨r, p⟩, v1, k2, q1, q3, ?_⟩
      rw [bi] at q4
      refine q4 B fun n hn => hB n (w2 i di k1 n ?_)
      subst x2
      have := weights_struct (P := P) (xs := xs) he 1 f1 d1 (by rw [hfs]; rfl) y3
      rw [h1.1] at this
      exact this n hn
    refine ⟨l, ?_, ?_⟩
    · obtain ⟨x, hx⟩ := absV_form (w := w) a len cap
      refine ⟨some x, cap, by rw [hx, l1], fun y hy => ?_, fun hl => ?_⟩
      · obtain ⟨i, hi, rfl⟩ := List.getElem_of_mem hy
        obtain ⟨_, _, _, _, z⟩ := l2 i _ (List.getElem?_eq_getElem hi)
        exact Nat.le_trans z hB8
      · have h0' : 0 < l.length := List.length_pos_iff.2 hl
        obtain ⟨pv, z1, _⟩ := l2 0 _ (List.getElem?_eq_getElem h0')
        obtain ⟨_, z2, z3, z4, _⟩ := start_cells (n := 2) (by omega) z1
        rw [add_block] at z3 z4
        have hs : a.spot = none := by simpa [Addr.add] using z2
        rw [absV_some hs z3] at hx
        cases hx
        refine ⟨a.block + 1, a.off, none, rfl, by omega, fun i y hy => ?_⟩
        obtain ⟨pv, y1, y2, y3, _⟩ := l2 i y hy
        obtain ⟨_, _, _, _, y5⟩ := start_cells (n := 2) (by omega) y1
        rw [add_block, add_off] at y5
        exact ⟨absV w pv, y5, y2, y3⟩
    · rw [l1, ← e4]
      have := hB _ w1
      rw [be] at this
      omega
end
end Go.Eng.R
