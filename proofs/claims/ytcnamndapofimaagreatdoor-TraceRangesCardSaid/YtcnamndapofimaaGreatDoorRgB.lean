/- The ring of a log: what it is in memory; its length; lists that are the same. -/
import Derived.Test.YtcnamndapofimaaGreatDoorRgA
namespace Go.Eng.R
open Go Go.Eng Go.Proofs
/-- What any machine can hold of a path. -/
def Fd.fits (x : Fd) : Prop := x.path.length * 8 ≤ 140737488351232
structure LogAt (H : AH) (gb rb most : Nat) (es : List Fd) (F : Nat → Prop) : Prop where
  pos : 0 < most
  log : Mem H gb [.slice (some ⟨rb, 0, none⟩) most most, .int .i64 es.length] false 1
  ring : ∃ cs, Mem H rb cs false 2 ∧ cs.length = most * 2 ∧ ∀ n x, es[n]? = some x → es.length ≤ n + most →
    ∃ pv, cs[(n % most) * 2]? = some (.int .i64 x.rule) ∧ cs[(n % most) * 2 + 1]? = some pv ∧ IntsAt H pv x.path ∧ ∀ b ∈ blkOf pv, F b ∧ b ≠ gb ∧ b ≠ rb
  fits : ∀ x ∈ es, x.fits
  ne : gb ≠ rb
  fg : F gb
  fr : F rb
  old : ∀ b, F b → b < H.next
theorem LogAt.keep {H H' : AH} {gb rb most : Nat} {es : List Fd} {F : Nat → Prop} {S : List Nat} (L : LogAt H gb rb most es F) (w : WF H) (k : Keep H H' S) (hS : ∀ b ∈ S, ¬ F b) : LogAt H' gb rb most es F := by
  obtain ⟨cs, h1, h2, h3⟩ := L.ring
  refine ⟨L.pos, L.log.keep w k fun h => hS _ h L.fg, ⟨cs, h1.keep w k fun h => hS _ h L.fr, h2, fun n x hx hn => ?_⟩, L.fits, L.ne, L.fg, L.fr, fun b hb => Nat.lt_of_lt_of_le (L.old b hb) k.next⟩
  obtain ⟨pv, q1, q2, q3, q4⟩ := h3 n x hx hn
  exact ⟨pv, q1, q2, q3.keep w k fun b _ hb hs => hS b hs (q4 b hb).1, q4⟩
set_option maxRecDepth 100000 in
theorem len_ok {H : AH} {gb rb most : Nat} {es : List Fd} {F : Nat → Prop} (L : LogAt H gb rb most es F) :
    FW C 37 [.pointer (some ⟨gb, 0, none⟩)] H fun v H' => H' = H ∧ v = .tuple ⟨[.int .i64 (min es.length most : Nat), .int .i64 (es.length : Nat)]⟩ := by
  refine FW.walk (n := 20) (rs := [.tmp 2, .tmp 3]) rfl fn37 rfl rfl rfl ?_
  have c0 := L.log.cel 0
  have c1 := L.log.cel 1
  simp at c0 c1
  simp
  refine W.draw [0, 1, 2, 3, 4, 5, 6, 7, 8, 9, 10, 11, 12, 13, 14, 15] [0, 1, 3, 7, 0, 16, 48, 112, 240, 511, 0, 1024, 3072, 7168, 1023, 32767] rfl (by kernel_rfl) (by kernel_rfl) (by kernel_rfl) ?_
  simp [c0, c1]
  split <;> omega
set_option maxRecDepth 100000 in
theorem same_ok {H : AH} {x y : Value} {l m : List Int} (hx : IntsAt H x l) (hy : IntsAt H y m) (hb : l.length < 4611686018427387904) : FW C 45 [x, y] H fun v H' => H' = H ∧ v = .bool (decide (l = m)) := by
  refine FW.walk (n := 26) (rs := [.tmp 4]) rfl fn45 rfl rfl rfl ?_
  obtain ⟨ax, cx, rfl, hx1, hx2⟩ := hx
  obtain ⟨ay, cy, rfl, hy1, hy2⟩ := hy
  simp
  refine ⟨fun h => ?_, fun h => ?_⟩
  · simp at h ⊢; intro e; subst e; simp at h
  · have hlen : l.length = m.length := by simp at h; omega
    refine W.loop (fun k fr H' => ∃ i, k = l.length - i ∧ i ≤ l.length ∧ (∀ j, j < i → l[j]? = m[j]?) ∧ H' = H ∧ fr.n = 26 ∧ fr.ds = [] ∧ tget fr.tm 0 = .slice ax l.length cx ∧ tget fr.tm 1 = .slice ay m.length cy ∧ tget fr.tm 5 = .int .i64 (i : Int)) ?_ (m := l.length) ⟨0, by simp⟩
    rintro k ⟨tm, n, ds, rnd⟩ H' ⟨i, rfl, hi, hpre, rfl, hn, hds, h0, h1, h5⟩
    simp only at hn hds h0 h1 h5
    subst hn hds
    refine wp_ok _ _ _ _ ?_
    simp [h0, h5, h1]
    refine ⟨fun h => ?_, fun h => ?_⟩
    · simp at h
      have hl0 : l.length ≠ 0 := by omega
      obtain ⟨bx, ox, sx, rfl, rx⟩ := hx2 hl0
      obtain ⟨by', oy, sy, rfl, ry⟩ := hy2 (by omega)
      have cx := AH.row_cel rx i (by simpa using h)
      have cy := AH.row_cel ry i (by simp; omega)
      refine W.draw [0, 1, 2, 3, 4, 5, 6, 7, 8] [0, 0, 3, 7, 0, 0, 48, 112, 255] rfl (by kernel_rfl) (by kernel_rfl) (by kernel_rfl) ?_
      simp [h0, h1, h5, cx, cy, h, show i < m.length by omega]
      refine ⟨fun hne => ?_, fun heq => ?_⟩
      · have hne : l[i]'h ≠ m[i]'(by omega) := by simpa using hne
        simp
        intro e
        apply hne
        simp [e]
      · have heq : l[i]'h = m[i]'(by omega) := by simpa using heq
        simp [h0, h1, h5]
        refine ⟨_, ?_, i + 1, rfl, h, ?_, ?_⟩
        · omega
        · intro j hj
          by_cases hji : j = i
          · subst hji; rw [List.getElem?_eq_getElem h, List.getElem?_eq_getElem (by omega), heq]
          · exact hpre j (by omega)
        · rw [awrap_id (by omega) (by omega)]; simp
    · simp at h
      simp
      have : i = l.length := by omega
      subst this
      apply List.ext_getElem? 
      intro j
      by_cases hj : j < l.length
      · exact hpre j hj
      · rw [List.getElem?_eq_none (by omega), List.getElem?_eq_none (by omega)]
theorem fd_cells {H : AH} {r : Int} {pv : Value} {p : List Int} (h : IntsAt H pv p) : cellsOfV pv = [pv] ∧ oneCellV pv = true := SlAt.one h
set_option maxRecDepth 100000 in
theorem sameFired_ok {H : AH} {r q : Int} {x y : Value} {l m : List Int} (w : WF H) (hx : IntsAt H x l) (hy : IntsAt H y m) (hb : l.length < 4611686018427387904) :
    FW C 40 [.agg ⟨[.int .i64 r, x]⟩, .agg ⟨[.int .i64 q, y]⟩] H fun v H' => Keep H H' [] ∧ WF H' ∧ v = .bool (decide (l = m) && decide (r = q)) := by
  refine FW.walk (n := 19) (rs := [.tmp 4]) rfl fn40 rfl rfl rfl ?_
  have k : Keep H ((H.new [.int .i64 r, x]).new [.int .i64 q, y]) [] := (Keep.new _ _ _).trans (Keep.new _ _ _)
  simp [AH.cel_new]
  refine FW.mono (same_ok (hx.keep w k (by simp)) (hy.keep w k (by simp)) hb) ?_
  rintro v H' ⟨rfl, rfl⟩
  by_cases hlm : l = m <;> simp [AH.cel_new, hlm, k, (w.new _).new _]
/-- What New answers. -/
def NewQ (H : AH) (m : Int) (v : Value) (H' : AH) : Prop := Keep H H' [] ∧ WF H' ∧
    ((m < 1 ∨ 1000 < m) ∧ v = .tuple ⟨[.pointer none, .int .i64 1]⟩ ∧ H' = H ∨ ∃ gb rb F, 1 ≤ m ∧ m ≤ 1000 ∧ v = .tuple ⟨[.pointer (some ⟨gb, 0, none⟩), .int .i64 0]⟩ ∧ LogAt H' gb rb m.toNat [] F ∧ ∀ b, F b → H.next ≤ b)
set_option maxRecDepth 100000 in
theorem new_ok {H : AH} {m : Int} (w : WF H) : FW C 31 [.int .i64 m] H (NewQ H m) := by
  refine FW.walk (n := 14) (rs := [.tmp 2, .tmp 3]) rfl fn31 rfl rfl rfl ?_
  by_cases h1 : m < 1
  · simp [h1]
    exact ⟨Keep.refl _ _, w, .inl ⟨.inl h1, rfl, rfl⟩⟩
  · by_cases h2 : 1000 < m
    · simp [h1, h2]
      exact ⟨Keep.refl _ _, w, .inl ⟨.inr h2, rfl, rfl⟩⟩
    · obtain ⟨n, rfl⟩ := Int.eq_ofNat_of_zero_le (show 0 ≤ m by omega)
      simp [h1, h2]
      refine wo_makeSlice' _ _ _ _ _ _ ({ n := n * 2, sz := 2, tr := .leaf, zero := [.int .i64 0, .slice none 0 0] }, n, n) ?_ ?_
      · simp [mkB]
        omega
      simp [bldV_struct]
      have m1 := Mem.push_zero H (n * 2) 2 [.int .i64 0, .slice none 0 0]
      have k1 := Keep.push H (.cells { n := n * 2, sz := 2, tr := .leaf, zero := [.int .i64 0, .slice none 0 0] }) []
      have w1 := w.push (.cells { n := n * 2, sz := 2, tr := .leaf, zero := [.int .i64 0, .slice none 0 0] })
      refine ⟨k1.trans (Keep.new _ _ _), w1.new _, .inr ⟨H.next + 1, H.next, fun b => b = H.next ∨ b = H.next + 1, by omega, by omega, rfl, ⟨by simp; omega, Mem.new _ _, ⟨_, m1.keep w1 (Keep.new _ _ []) (by simp), by simp, fun n x hx _ => by simp at hx⟩, by simp, by omega, .inr rfl, .inl rfl, fun b hb => ?_⟩, fun b hb => ?_⟩⟩
      · rcases hb with rfl | rfl <;> (simp [AH.push]; try omega)
      · rcases hb with rfl | rfl <;> omega
end Go.Eng.R
