/- TraceKeeps: what is lent, what is held, the document's log. -/
import Derived.Test.YtcnamndapofimaaGreatDoorRgF
namespace Go.Eng.R
open Go Go.Eng Go.Proofs
set_option maxRecDepth 100000 in
theorem app_nil_ints {H : AH} {pv : Value} {p : List Int} (w : WF H) (h : IntsAt H pv p) (hs : p.length * 8 ≤ 140737488355328) :
    ∃ v' H', appV C 26 26 (.slice (some ⟨H.next, 0, none⟩) 0 0) pv (H.push (.cells { n := 0, sz := 1, tr := .leaf, zero := [.int .i64 0] })) = some (v', H') ∧ Own H' v' p.length 1 (ints p) ∧ Keep H H' [] ∧ WF H' ∧ ∀ b ∈ blkOf v', H.next ≤ b := by
  have k1 := Keep.push H (.cells { n := 0, sz := 1, tr := .leaf, zero := [.int .i64 0] }) []
  have w1 := w.push (.cells { n := 0, sz := 1, tr := .leaf, zero := [.int .i64 0] })
  have ho := Own.built H { n := 0, sz := 1, tr := .leaf, zero := [.int .i64 0] } 0 1 0 rfl rfl rfl (Nat.le_refl _)
  obtain ⟨v', H', e, ho', k', w', hb⟩ := app_own (C := C) (t := 26) (u := 26) ti26 t26_desc ti3 ti26 t26_desc (by rw [t3_size]; exact ho) (h.keep w k1 (by simp)) (by simp) w1 rfl (by simp) (ints_one p) (by simpa using hs)
  refine ⟨v', H', e, by simpa using ho', k1.fresh k' (by simp [blkOf]), w', fun b hb' => ?_⟩
  rcases hb b hb' with q | q
  · simp [blkOf] at q; omega
  · have q : H.next + 1 ≤ b := q
    omega
set_option maxRecDepth 100000 in
theorem copied_ok {H : AH} {pv : Value} {p : List Int} (w : WF H) (h : IntsAt H pv p) (hs : p.length * 8 ≤ 140737488355328) :
    FW C 88 [pv] H fun v H' => Own H' v p.length 1 (ints p) ∧ Keep H H' [] ∧ WF H' ∧ ∀ b ∈ blkOf v, H.next ≤ b := by
  refine FW.walk (n := 6) (rs := [.tmp 2]) rfl fn88 rfl rfl rfl ?_
  obtain ⟨v', H', e, ho, k', w', hb⟩ := app_nil_ints w h hs
  simp [slB_nil (t := 26) ti26 t26_desc ti3 rfl, e]
  exact ⟨ho, k', w', hb⟩
/-- A list with the caller's marks behind it. -/
def LentAt (H : AH) (b : Nat) (v : Value) (p : List Int) : Prop :=
  ∃ o sp cap, v = .slice (some ⟨b, o, sp⟩) p.length cap ∧ Own H (.slice (some ⟨b, o, sp⟩) (p.length + 3) cap) (p.length + 3) 1 (ints (p ++ [-777, -777, -777]))
theorem LentAt.isInts {H : AH} {b : Nat} {v : Value} {p : List Int} (h : LentAt H b v p) : IntsAt H v p := by
  obtain ⟨o, sp, cap, rfl, h⟩ := h
  obtain ⟨a, c, e, _, h2⟩ := h.sl
  cases e
  obtain ⟨b', o', sp', e, h3⟩ := h2 (by omega)
  cases e
  refine ⟨_, _, rfl, fun h0 => by rw [List.length_eq_zero_iff.1 h0]; rfl, fun _ => ⟨b, o, sp, rfl, ?_⟩⟩
  have := AH.row_sub h3 0 (ints p).length (by simp)
  rw [Nat.add_zero, List.drop_zero] at this
  rw [this, ints_append, List.take_left']
  rfl
theorem LentAt.keep {H H' : AH} {b : Nat} {v : Value} {p : List Int} {S : List Nat} (h : LentAt H b v p) (w : WF H) (k : Keep H H' S) (hb : b ∉ S) : LentAt H' b v p := by
  obtain ⟨o, sp, cap, e, h⟩ := h
  exact ⟨o, sp, cap, e, h.keep w k (by simp [blkOf]; exact hb)⟩
theorem slB3 (a b c : Int) : slB C 26 3 [(0, .int .i64 a), (1, .int .i64 b), (2, .int .i64 c)] = some { n := 3, sz := 1, tr := T.lay [.int .i64 c] (T.lay [.int .i64 b] (T.lay [.int .i64 a] .leaf 0) 1) 2, zero := [.int .i64 0] } := by
  unfold slB
  simp only [ti26, t26_desc, slEl_slice, ti3, t3_size, t3_zero]
  rfl
theorem mem3 (H : AH) (a b c : Int) : Mem (H.push (.cells { n := 3, sz := 1, tr := T.lay [.int .i64 c] (T.lay [.int .i64 b] (T.lay [.int .i64 a] .leaf 0) 1) 2, zero := [.int .i64 0] })) H.next (ints [a, b, c]) false 1 :=
  Mem.push (by rfl) fun i hi => by
    have hi : i < 3 := hi
    rw [Blk.cell_eq]
    simp only [T.get_lay]
    match i, hi with
    | 0, _ => rfl
    | 1, _ => rfl
    | 2, _ => rfl
set_option maxRecDepth 100000 in
theorem lent_ok {H : AH} {pv : Value} {p : List Int} (w : WF H) (h : IntsAt H pv p) (hs : p.length * 8 ≤ 140737488351232) :
    FW C 33 [pv] H fun v H' => (∃ b, H.next ≤ b ∧ LentAt H' b v p) ∧ Keep H H' [] ∧ WF H' := by
  refine FW.walk (n := 14) (rs := [.tmp 2]) rfl fn33 rfl rfl rfl ?_
  obtain ⟨v1, H1, e1, ho1, k1, w1, hb1⟩ := app_nil_ints w h (by omega)
  simp [slB_nil (t := 26) ti26 t26_desc ti3 rfl, e1, slB3]
  have m2 := mem3 H1 (-777) (-777) (-777)
  have k2 := Keep.push H1 (.cells { n := 3, sz := 1, tr := T.lay [.int .i64 (-777)] (T.lay [.int .i64 (-777)] (T.lay [.int .i64 (-777)] .leaf 0) 1) 2, zero := [.int .i64 0] }) []
  have w2 := w1.push (.cells { n := 3, sz := 1, tr := T.lay [.int .i64 (-777)] (T.lay [.int .i64 (-777)] (T.lay [.int .i64 (-777)] .leaf 0) 1) 2, zero := [.int .i64 0] })
  have s2 : SlAt (H1.push (.cells { n := 3, sz := 1, tr := T.lay [.int .i64 (-777)] (T.lay [.int .i64 (-777)] (T.lay [.int .i64 (-777)] .leaf 0) 1) 2, zero := [.int .i64 0] })) (.slice (some ⟨H1.next, 0, none⟩) 3 3) 3 (ints [-777, -777, -777]) :=
    ⟨_, 3, rfl, by simp, fun _ => ⟨H1.next, 0, none, rfl, m2.row 0 3 (by simp)⟩⟩
  obtain ⟨v3, H3, e3, ho3, k3, w3, hb3⟩ := app_own (C := C) (t := 26) (u := 26) ti26 t26_desc ti3 ti26 t26_desc (by rw [t3_size]; exact ho1.keep w1 k2 (by simp)) s2 (by simp) w2 rfl (by simp) (ints_one _) (by simp; omega)
  rw [t3_size, ← ints_append] at ho3
  have e3' := e3
  simp at e3'
  obtain ⟨q1, ⟨_, q⟩ | ⟨b, o, sp, cap, k, rfl, q2, q3, q4⟩⟩ := id ho3
  · omega
  have hbn : H.next ≤ b := by
    rcases hb3 b (by simp [blkOf]) with q | q
    · exact hb1 b q
    · have q : H1.next + 1 ≤ b := q
      have := k1.next; omega
  obtain ⟨a, c, rfl, _⟩ := id h
  simp [e3', slV_hi (t := 26) ti26 t26_desc ti3 q3 (show p.length ≤ cap by omega)]
  refine ⟨⟨b, hbn, o, sp, cap, rfl, ho3⟩, (k1.trans k2).fresh k3 hb1, w3⟩
set_option maxRecDepth 100000 in
theorem held_ok {H : AH} {tv lv : Value} {b : Nat} {p : List Int} (w : WF H) (ht : LentAt H b tv p) (hl : IntsAt H lv p) (hb : p.length ≠ 0 → b ∉ blkOf lv) (hs : p.length < 4611686018427387904) :
    FW C 36 [tv, lv] H fun v H' => v = .bool true ∧ Keep H H' [b] ∧ WF H' := by
  refine FW.walk (n := 51) (rs := [.tmp 4]) rfl fn36 rfl rfl rfl ?_
  obtain ⟨o, sp, cap, rfl, ho⟩ := ht
  obtain ⟨q1, ⟨q, _⟩ | ⟨b', o', sp', cap', k, e, q2, q3, q4⟩⟩ := id ho
  · cases q
  cases e
  obtain ⟨al, cl, rfl, hl1, hl2⟩ := id hl
  have hn3 : awrap .i64 ((p.length : Int) + 3) = ((p.length + 3 : Nat) : Int) := by rw [awrap_id (by omega) (by omega)]; rfl
  have hcel : ∀ j, j < p.length + 3 → H.cel b (o + j) = (ints (p ++ [-777, -777, -777]))[j]? := fun j hj => by
    obtain ⟨a, c, e, _, h2⟩ := ho.sl
    cases e
    obtain ⟨b', o', sp', e, h3⟩ := h2 (by omega)
    cases e
    exact AH.row_cel h3 j (by simp; omega)
  have hcp : ∀ j, j < p.length + 3 → H.canPut b (o + j) 1 := fun j hj => ho.canPut rfl (by omega)
  have hsv : slV C 26 H (.slice (some ⟨b, o, sp⟩) p.length cap) none (some (.int .i64 ((p.length : Int) + 3))) none = some (.slice (some ⟨b, o, sp⟩) (p.length + 3) cap) := by
    have := slV_hi (C := C) (t := 26) (o := o) (sp := sp) (n := p.length) ti26 t26_desc ti3 q3 (show p.length + 3 ≤ cap by omega)
    rw [show ((p.length + 3 : Nat) : Int) = (p.length : Int) + 3 by omega] at this
    exact this
  simp [hn3, hsv]
  refine W.loop (fun m fr G => ∃ i, m = p.length + 3 - i ∧ i ≤ p.length + 3 ∧ Keep H G [b] ∧ WF G ∧ (∀ j, i ≤ j → j < p.length + 3 → G.cel b (o + j) = (ints (p ++ [-777, -777, -777]))[j]?) ∧ (∀ j, j < p.length + 3 → G.canPut b (o + j) 1) ∧ IntsAt G (.slice al p.length cl) p ∧
    fr.n = 51 ∧ fr.ds = [] ∧ tget fr.tm 1 = .slice al p.length cl ∧ tget fr.tm 5 = .slice (some ⟨b, o, sp⟩) (p.length + 3) cap ∧ tget fr.tm 6 = .bool true ∧ tget fr.tm 7 = .int .i64 (i : Nat)) ?_ (m := p.length + 3)
    ⟨0, by omega, by omega, Keep.refl _ _, w, fun j _ hj => hcel j hj, hcp, hl, by simp [hn3]⟩
  rintro m ⟨tm, n, ds, rnd⟩ G ⟨i, rfl, hi, kG, wG, hc, hp, hlG, hn, hds, g1, g5, g6, g7⟩
  simp only at hn hds g1 g5 g6 g7
  subst hn hds
  refine wp_ok _ _ _ _ ?_
  by_cases h0 : i < p.length + 3
  · have h0' : (i : Int) < (p.length : Int) + 3 := by omega
    simp [g1, g5, g6, g7, h0, h0']
    refine W.draw [0, 1, 2, 3, 4, 5, 6, 7, 8, 9, 10, 11, 12, 13, 14, 15, 16, 17, 18, 19, 20, 21, 22, 23, 24, 25, 26, 27] [0, 0, 2, 7, 15, 31, 31, 127, 255, 31, 31, 1567, 3615, 8191, 16383, 32767, 65535, 65535, 196607, 524287, 1048575, 2097151, 2097151, 8388607, 16777215, 33554431, 67108863, 134217727] rfl (by kernel_rfl) (by kernel_rfl) (by kernel_rfl) ?_
    have ci := hc i (Nat.le_refl _) h0
    by_cases hip : i < p.length
    · have hq : (ints (p ++ [-777, -777, -777]))[i]? = some (.int .i64 p[i]) := by
        rw [ints_get, List.getElem?_append_left hip, List.getElem?_eq_getElem hip]; rfl
      rw [hq] at ci
      obtain ⟨a', c', e, _, r2⟩ := id hlG
      cases e
      obtain ⟨bl, ol, sl, rfl, rl⟩ := r2 (by omega)
      have cl' := AH.row_cel rl i (by simpa using hip)
      rw [ints_get, List.getElem?_eq_getElem hip] at cl'
      simp at cl'
      have hge : ¬ p.length ≤ i := by omega
      simp [g1, g5, g6, g7, h0, h0', hip, hge, ci, cl', hp i h0]
      have kk : Keep G (G.put b (o + i) [.int .i64 (-778)]) [b] := Keep.put _ _ _ _ (by simp)
      obtain ⟨kq, kq1, kq2, kq3⟩ := hp i h0
      have cp : ∀ j, i + 1 ≤ j → j < p.length + 3 → (G.put b (o + i) [.int .i64 (-778)]).cel b (o + j) = (ints (p ++ [-777, -777, -777]))[j]? := fun j h1 h2 => by
        rw [AH.cel_put kq1 (by simpa using kq2), if_neg (by simp; omega)]; exact hc j (by omega) h2
      have hl' : IntsAt (G.put b (o + i) [.int .i64 (-778)]) (.slice (some ⟨bl, ol, sl⟩) p.length cl) p := hlG.keep wG kk fun b' hn hb' hs => by simp at hs; subst hs; exact hb hn hb'
      refine ⟨_, ?_, i + 1, rfl, by omega, kG.trans kk, wG.put _ _ _, cp, fun j hj => (hp j hj).put, hl', ?_⟩
      · omega
      · rw [awrap_id (by omega) (by omega)]; simp [g1, g5, g6, g7]
    · have hq : (ints (p ++ [-777, -777, -777]))[i]? = some (.int .i64 (-777)) := by
        rw [ints_get, List.getElem?_append_right (by omega)]
        have : i - p.length = 0 ∨ i - p.length = 1 ∨ i - p.length = 2 := by omega
        rcases this with q | q | q <;> rw [q] <;> rfl
      rw [hq] at ci
      have hge : p.length ≤ i := by omega
      simp [g1, g5, g6, g7, h0, h0', hip, hge, ci, hp i h0]
      have kk : Keep G (G.put b (o + i) [.int .i64 (-778)]) [b] := Keep.put _ _ _ _ (by simp)
      obtain ⟨kq, kq1, kq2, kq3⟩ := hp i h0
      have cp : ∀ j, i + 1 ≤ j → j < p.length + 3 → (G.put b (o + i) [.int .i64 (-778)]).cel b (o + j) = (ints (p ++ [-777, -777, -777]))[j]? := fun j h1 h2 => by
        rw [AH.cel_put kq1 (by simpa using kq2), if_neg (by simp; omega)]; exact hc j (by omega) h2
      have hl' : IntsAt (G.put b (o + i) [.int .i64 (-778)]) (.slice al p.length cl) p := hlG.keep wG kk fun b' hn hb' hs => by simp at hs; subst hs; exact hb hn hb'
      refine ⟨_, ?_, i + 1, rfl, by omega, kG.trans kk, wG.put _ _ _, cp, fun j hj => (hp j hj).put, hl', ?_⟩
      · omega
      · rw [awrap_id (by omega) (by omega)]; simp [g1, g5, g6, g7]
  · have : i = p.length + 3 := by omega
    subst this
    simp [g1, g5, g6, g7]
    exact ⟨kG, wG⟩
end Go.Eng.R
/- The document's log: New, Add, From. -/
namespace Go.Eng.R
open Go Go.Eng Go.Proofs
structure RefAt (H : AH) (qb most : Nat) (es : List Fd) (F : Nat → Prop) : Prop where
  log : ∃ av zs, Mem H qb [.int .i64 (most : Int), av] false 1 ∧ Own H av zs.length 2 (flat zs) ∧ zs.length = es.length ∧
    (∀ (j : Nat) (z : Int × Value), zs[j]? = some z → ∃ x : Fd, es[j]? = some x ∧ z.1 = x.rule ∧ IntsAt H z.2 x.path ∧ ∀ b ∈ blkOf z.2, F b ∧ b ∉ blkOf av ∧ b ≠ qb) ∧ ∀ b ∈ blkOf av, F b ∧ b ≠ qb
  fits : ∀ x ∈ es, x.fits
  fq : F qb
  old : ∀ b, F b → b < H.next
theorem RefAt.keep {H H' : AH} {qb most : Nat} {es : List Fd} {F : Nat → Prop} {S : List Nat} (L : RefAt H qb most es F) (w : WF H) (k : Keep H H' S) (hS : ∀ b ∈ S, ¬ F b) : RefAt H' qb most es F := by
  obtain ⟨av, zs, h1, h2, h3, h4, h5⟩ := L.log
  refine ⟨⟨av, zs, h1.keep w k fun h => hS _ h L.fq, h2.keep w k fun b hb hs => hS b hs (h5 b hb).1, h3, fun j z hz => ?_, h5⟩, L.fits, L.fq, fun b hb => Nat.lt_of_lt_of_le (L.old b hb) k.next⟩
  obtain ⟨x, x1, x2, x3, x4⟩ := h4 j z hz
  exact ⟨x, x1, x2, x3.keep w k fun b _ hb hs => hS b hs (x4 b hb).1, x4⟩
/-- What the document's New answers. -/
def RNewQ (H : AH) (m : Int) (v : Value) (H' : AH) : Prop := Keep H H' [] ∧ WF H' ∧
    ((m < 1 ∨ 1000 < m) ∧ v = .tuple ⟨[.pointer none, .int .i64 1]⟩ ∧ H' = H ∨ ∃ qb F, 1 ≤ m ∧ m ≤ 1000 ∧ v = .tuple ⟨[.pointer (some ⟨qb, 0, none⟩), .int .i64 0]⟩ ∧ RefAt H' qb m.toNat [] F ∧ ∀ b, F b → H.next ≤ b)
set_option maxRecDepth 100000 in
theorem rnew_ok {H : AH} {m : Int} (w : WF H) : FW C 32 [.int .i64 m] H (RNewQ H m) := by
  refine FW.walk (n := 13) (rs := [.tmp 2, .tmp 3]) rfl fn32 rfl rfl rfl ?_
  simp
  by_cases h1 : m < 1
  · simp [h1]
    exact ⟨Keep.refl _ _, w, .inl ⟨.inl h1, rfl, rfl⟩⟩
  · by_cases h2 : 1000 < m
    · simp [h1, h2]
      exact ⟨Keep.refl _ _, w, .inl ⟨.inr h2, rfl, rfl⟩⟩
    · obtain ⟨n, rfl⟩ := Int.eq_ofNat_of_zero_le (show 0 ≤ m by omega)
      simp [h1, h2, bldV_struct]
      refine ⟨Keep.new _ _ _, w.new _, .inr ⟨H.next, fun b => b = H.next, by omega, by omega, rfl, ⟨⟨.slice none 0 0, [], by simpa using Mem.new H _, Own.nil _ 2, rfl, by simp, by simp [blkOf]⟩, by simp, rfl, fun b hb => by subst hb; simp⟩, fun b hb => by omega⟩⟩
set_option maxRecDepth 100000 in
theorem from_ok {H : AH} {qb most : Nat} {es : List Fd} {F : Nat → Prop} (L : RefAt H qb most es F) (h1 : es.length < 4611686018427387904) (h2 : most < 4611686018427387904) :
    FW C 38 [.pointer (some ⟨qb, 0, none⟩)] H fun v H' => H' = H ∧ v = .int .i64 (es.length - most : Nat) := by
  refine FW.walk (n := 14) (rs := [.tmp 2]) rfl fn38 rfl rfl rfl ?_
  obtain ⟨av, zs, m1, m2, m3, _⟩ := L.log
  obtain ⟨a, c, rfl, _⟩ := m2.sl
  have c0 := m1.cel 0
  have c1 := m1.cel 1
  simp at c0 c1
  have hw : awrap .i64 ((es.length : Int) - (most : Int)) = (es.length : Int) - (most : Int) := awrap_id (by omega) (by omega)
  simp
  refine W.draw [0, 1, 2, 3, 4, 5, 6, 7, 8, 9, 10, 11] [0, 1, 3, 7, 15, 0, 32, 96, 224, 511, 1023, 2047] rfl (by kernel_rfl) (by kernel_rfl) (by kernel_rfl) ?_
  simp [c0, c1, m3, hw]
  split <;> omega
theorem _root_.Go.Eng.Own.isCells {H : AH} {v : Value} {n sz : Nat} {cs : List Value} (h : Own H v n sz cs) : ∀ b ∈ blkOf v, ∃ k, H.get b = some (.cells k) := by
  obtain ⟨_, ⟨rfl, _⟩ | ⟨b, o, sp, cap, k, rfl, _, h2, _⟩⟩ := h
  · intro b hb; simp [blkOf] at hb
  · intro b' hb; simp [blkOf] at hb; subst hb; exact ⟨k, h2⟩
/-- What the document's Add leaves. -/
def RAddQ (H : AH) (qb most : Nat) (es : List Fd) (F : Nat → Prop) (H' : AH) : Prop :=
  ∃ F' S, RefAt H' qb most es F' ∧ (∀ b, F' b → F b ∨ H.next ≤ b) ∧ (∀ b ∈ S, F b) ∧ (∀ b ∈ S, ∃ k, H.get b = some (.cells k)) ∧ Keep H H' S ∧ WF H'
set_option maxRecDepth 100000 in
theorem radd_ok {H : AH} {qb most : Nat} {es : List Fd} {F : Nat → Prop} {r : Int} {pv : Value} {p : List Int} (w : WF H) (L : RefAt H qb most es F) (hp : IntsAt H pv p) (hs : p.length * 8 ≤ 140737488351232) (he : es.length < 1000000) :
    FW C 35 [.pointer (some ⟨qb, 0, none⟩), .agg ⟨[.int .i64 r, pv]⟩] H fun _ H' => RAddQ H qb most (es ++ [⟨r, p⟩]) F H' := by
  refine FW.walk (n := 18) (rs := []) rfl fn35 rfl rfl rfl ?_
  have k1 := Keep.new H [.int .i64 r, pv] []
  have w1 := w.new [.int .i64 r, pv]
  simp [AH.cel_new]
  refine FW.mono (copied_ok w1 (hp.keep w k1 (by simp)) (by omega)) ?_
  rintro pv' H2 ⟨ho, k2, w2, hb2⟩
  have L2 := L.keep w (k1.trans k2) (by simp)
  have mb := (Mem.new H [.int .i64 r, pv]).keep w1 k2 (by simp)
  have mb3 := mb.put 1 [pv'] (by simp)
  simp at mb3
  have w3 := w2.put H.next 1 [pv']
  have hqn : qb < H.next := L.old qb L.fq
  have k3 : Keep H2 (H2.put H.next 1 [pv']) [H.next] := Keep.put _ _ _ _ (by simp)
  have L3 := L2.keep w2 k3 (by simp; intro h; have := L.old _ h; omega)
  obtain ⟨av, zs, m1, m2, m3, m4, m5⟩ := L3.log
  have c1 := m1.cel 1
  have rb := mb3.row 0 2 (by simp)
  simp at c1 rb
  have hn2 : H.next + 1 ≤ H2.next := k2.next
  have hpv' : vsame 5 (.agg ⟨[.int .i64 r, pv']⟩) (.agg ⟨[.int .i64 r, pv']⟩) = true := by
    obtain ⟨a, c, rfl, _⟩ := ho.sl
    exact vsame_agg 4 _ (by simp)
  have hsl : slB C 68 1 [(0, .agg ⟨[.int .i64 r, pv']⟩)] = some { n := 2, sz := 2, tr := T.lay [.int .i64 r, pv'] .leaf 0, zero := [.int .i64 0, .slice none 0 0] } := by
    have := slB_one (C := C) (t := 68) (v := .agg ⟨[.int .i64 r, pv']⟩) ti68 t68_desc ti77 (by simp) (by simp) (by simp) (by simp)
    simpa using this
  have m4' := Mem.push_lay (H2.put H.next 1 [pv']) 2 [.int .i64 0, .slice none 0 0] [.int .i64 r, pv'] (n := 2) (by simp)
  have k4 := Keep.push (H2.put H.next 1 [pv']) (.cells { n := 2, sz := 2, tr := T.lay [.int .i64 r, pv'] .leaf 0, zero := [.int .i64 0, .slice none 0 0] }) []
  have w4 := w3.push (.cells { n := 2, sz := 2, tr := T.lay [.int .i64 r, pv'] .leaf 0, zero := [.int .i64 0, .slice none 0 0] })
  have s4 : SlAt ((H2.put H.next 1 [pv']).push (.cells { n := 2, sz := 2, tr := T.lay [.int .i64 r, pv'] .leaf 0, zero := [.int .i64 0, .slice none 0 0] })) (.slice (some ⟨H2.next, 0, none⟩) 1 1) 1 [.int .i64 r, pv'] :=
    ⟨_, 1, rfl, by simp, fun _ => ⟨H2.next, 0, none, rfl, by simpa using m4'.row 0 2 (by simp)⟩⟩
  obtain ⟨av', H5, e5, ho5, k5, w5, hb5⟩ := app_own (C := C) (t := 68) (u := 68) ti68 t68_desc ti77 ti68 t68_desc (by rw [t77_size]; exact m2.keep w3 k4 (by simp)) s4 (by simp) w4 (by simp) (by simp) (by simp [ho.one]) (by simp; omega)
  have e5' := e5
  simp at e5'
  have hqv : qb ∉ blkOf av := fun h => (m5 qb h).2 rfl
  have mq5 := (m1.keep w3 k4 (by simp)).keep w4 k5 hqv
  have cb5 := ((mb3.keep w3 k4 (by simp)).keep w4 k5 (fun h => by have := L.old _ (m5 _ h).1; omega)).row 0 2 (by simp)
  have cq5 := mq5.cel 1
  simp at cb5 cq5
  simp [mb.canPut (o := 1) (n := 1) (by simp), ho.one]
  refine W.draw [0, 1, 2, 3, 4, 5, 6, 7, 8, 9, 10] [0, 0, 2, 6, 14, 0, 32, 126, 255, 511, 1023] rfl (by kernel_rfl) (by kernel_rfl) (by kernel_rfl) ?_
  have p1 : ∀ K, ((H2.put H.next 1 [pv']).push (.cells K)).cel qb 1 = some av := fun K => by
    rw [AH.cel_push, if_neg (by simp; omega)]; exact c1
  have p2 : ∀ K, ((H2.put H.next 1 [pv']).push (.cells K)).row H.next 0 2 = some [.int .i64 r, pv'] := fun K => by
    rw [AH.row_push _ _ _ _ _ (by simp; omega)]; exact rb
  have hav : vsame 5 av av = true := by obtain ⟨a, c, rfl, _⟩ := m2.sl; simp
  simp [c1, rb, hsl, e5', Nat.testBit_eq_decide_div_mod_eq, hpv', ho5.one, mq5.canPut (o := 1) (n := 1) (by simp), cb5, cq5, p1, p2, hav]
  have k6 : Keep H5 (H5.put qb 1 [av']) [qb] := Keep.put _ _ _ _ (by simp)
  have w6 := w5.put qb 1 [av']
  have hFn : ∀ b, F b → b < H.next := L.old
  have hS1 : ∀ b, b ∈ blkOf av → b ∈ qb :: blkOf av := fun b hb => by simp [hb]
  have hS2 : ∀ b, b ∈ [qb] → b ∈ qb :: blkOf av := fun b hb => by simp at hb; simp [hb]
  have k13 : Keep H (H2.put H.next 1 [pv']) [] := (k1.trans k2).fresh k3 (by simp)
  have kall : Keep H (H5.put qb 1 [av']) (qb :: blkOf av) := (((k13.mono (by simp)).trans (k4.mono (by simp))).trans (k5.mono hS1)).trans (k6.mono hS2)
  have hw4 : ∀ b, ((H2.put H.next 1 [pv']).push (.cells { n := 2, sz := 2, tr := T.lay [.int .i64 r, pv'] .leaf 0, zero := [.int .i64 0, .slice none 0 0] })).next ≤ b → H2.next + 1 ≤ b := fun b h => by
    have h : (H2.put H.next 1 [pv']).next + 1 ≤ b := h
    rw [AH.next_put] at h; exact h
  have hav' : ∀ b ∈ blkOf av', b ∈ blkOf av ∨ H2.next + 1 ≤ b := fun b hb => (hb5 b hb).imp id (hw4 b)
  have hqav' : qb ∉ blkOf av' := fun h => by
    rcases hav' _ h with q | q
    · exact hqv q
    · omega
  have hpb : ∀ b ∈ blkOf pv', H.next + 1 ≤ b ∧ b < H2.next := fun b hb => ⟨by have := hb2 b hb; simpa using this, ho.lt w2 b hb⟩
  refine ⟨fun b => F b ∨ b ∈ blkOf av' ∨ b ∈ blkOf pv', qb :: blkOf av, ⟨⟨av', zs ++ [(r, pv')], ?_, ?_, by simp [m3], ?_, ?_⟩, ?_, .inl L.fq, ?_⟩, ?_, ?_, ?_, kall, w6⟩
  · have := mq5.put 1 [av'] (by simp)
    simpa using this
  · have e : flat (zs ++ [(r, pv')]) = flat zs ++ [.int .i64 r, pv'] := by simp [flat_append, flat]
    rw [e]
    have := ho5.keep w5 k6 (by intro b hb hs; simp at hs; subst hs; exact hqav' hb)
    simpa using this
  · intro j z hz
    by_cases hj : j < zs.length
    · rw [List.getElem?_append_left hj] at hz
      obtain ⟨x, x1, x2, x3, x4⟩ := m4 j z hz
      have hd : ∀ b ∈ blkOf z.2, b ∉ qb :: blkOf av := fun b hb hs => by
        simp at hs
        rcases hs with rfl | hs
        · exact (x4 b hb).2.2 rfl
        · exact (x4 b hb).2.1 hs
      refine ⟨x, by rw [List.getElem?_append_left (by rw [← m3]; exact hj)]; exact x1, x2, ((x3.keep w3 k4 (by simp)).keep w4 k5 fun b _ hb => (x4 b hb).2.1).keep w5 k6 fun b _ hb hs => (x4 b hb).2.2 (by simpa using hs), fun b hb => ⟨.inl (x4 b hb).1, fun h => ?_, (x4 b hb).2.2⟩⟩
      rcases hav' b h with q | q
      · exact (x4 b hb).2.1 q
      · have := hFn b (x4 b hb).1; omega
    · have hj2 : j = zs.length := by
        have := (List.getElem?_eq_some_iff.1 hz).1
        simp at this; omega
      subst hj2
      rw [List.getElem?_append_right (Nat.le_refl _)] at hz
      simp at hz
      subst hz
      have hnav : ∀ b ∈ blkOf pv', b ∉ blkOf av := fun b hb h => by have := hFn b (m5 b h).1; have := hpb b hb; omega
      have hnq : ∀ b ∈ blkOf pv', b ≠ qb := fun b hb h => by have := hpb b hb; omega
      refine ⟨⟨r, p⟩, by rw [m3, List.getElem?_append_right (Nat.le_refl _)]; simp, rfl, (((ho.sl.keep w2 k3 fun b _ hb hs => by simp at hs; have := hpb b hb; omega).keep w3 k4 (by simp)).keep w4 k5 fun b _ hb => hnav b hb).keep w5 k6 fun b _ hb hs => hnq b hb (by simpa using hs), fun b hb => ⟨.inr (.inr hb), fun h => ?_, hnq b hb⟩⟩
      rcases hav' b h with q | q
      · exact hnav b hb q
      · have := hpb b hb; omega
  · intro b hb
    exact ⟨.inr (.inl hb), fun h => hqav' (h ▸ hb)⟩
  · intro x hx
    rcases List.mem_append.1 hx with h | h
    · exact L.fits x h
    · simp at h; subst h; exact hs
  · intro b hb
    have h5n : (H5.put qb 1 [av']).next = H5.next := by simp
    rw [h5n]
    rcases hb with h | h | h
    · have := hFn b h; have := kall.next; rw [h5n] at this; omega
    · exact ho5.lt w5 b h
    · have := (hpb b h).2; have := hw4 _ k5.next; omega
  · intro b hb
    rcases hb with h | h | h
    · exact .inl h
    · rcases hav' b h with q | q
      · exact .inl (m5 b q).1
      · exact .inr (by omega)
    · exact .inr (by have := (hpb b h).1; omega)
  · intro b hb
    simp at hb
    rcases hb with rfl | h
    · exact L.fq
    · exact (m5 b h).1
  · intro b hb
    have hF : F b := by
      simp at hb
      rcases hb with rfl | h
      · exact L.fq
      · exact (m5 b h).1
    rw [← k13.get b (hFn b hF) (by simp)]
    simp at hb
    rcases hb with rfl | h
    · exact m1.get
    · exact m2.isCells b h
end Go.Eng.R
/- Marks of loops at a function's end. -/
namespace Go.Eng.R
open Go Go.Eng Go.Proofs
def Marks (G : AH) (ds : List ADef) : Prop := ∃ ms : List Nat, ds = ms.map ADef.mark ∧ ms.Nodup ∧ ∀ b ∈ ms, G.get b = some (.deferred true)
theorem Marks.nil (G : AH) : Marks G [] := ⟨[], rfl, List.nodup_nil, by simp⟩
theorem Marks.keep {G G' : AH} {ds : List ADef} {S : List Nat} (h : Marks G ds) (w : WF G) (k : Keep G G' S) (hS : ∀ b ∈ S, G.get b ≠ some (.deferred true)) : Marks G' ds := by
  obtain ⟨ms, h1, h2, h3⟩ := h
  exact ⟨ms, h1, h2, fun b hb => k.get_eq w (h3 b hb) fun hs => hS b hs (h3 b hb)⟩
theorem Marks.cons {G : AH} {ds : List ADef} {b : Nat} (h : Marks G ds) (hb : G.get b = some (.deferred true)) (hlt : ∀ ms : List Nat, ds = ms.map ADef.mark → b ∉ ms) : Marks G (.mark b :: ds) := by
  obtain ⟨ms, h1, h2, h3⟩ := h
  refine ⟨b :: ms, by simp [h1], List.nodup_cons.2 ⟨hlt ms h1, h2⟩, fun c hc => ?_⟩
  rcases List.mem_cons.1 hc with rfl | hc
  · exact hb
  · exact h3 c hc
theorem Marks.fresh {G : AH} {ds : List ADef} (h : Marks G ds) (w : WF G) {b : Nat} (hb : G.next ≤ b) : ∀ ms : List Nat, ds = ms.map ADef.mark → b ∉ ms := by
  obtain ⟨ms, h1, h2, h3⟩ := h
  intro ms' h1' hm
  have : ms' = ms := by
    rw [h1] at h1'
    exact (List.map_inj_right (fun a b h => by cases h; rfl)).1 h1'.symm
  subst this
  have := get_lt w (h3 b hm)
  omega
theorem Marks.adf : ∀ {ds : List ADef} {G : AH}, Marks G ds → ∃ H2, Adf ds G H2 ∧ ∀ b, G.get b ≠ some (.deferred true) → H2.get b = G.get b := by
  intro ds
  induction ds with
  | nil => intro G h; exact ⟨G, .nil _, fun _ _ => rfl⟩
  | cons d ds ih =>
    intro G ⟨ms, h1, h2, h3⟩
    cases ms with
    | nil => cases h1
    | cons m ms =>
      simp at h1
      obtain ⟨rfl, h1⟩ := h1
      obtain ⟨n1, n2⟩ := List.nodup_cons.1 h2
      have hm : Marks (G.set m (.deferred false)) ds := ⟨ms, h1, n2, fun b hb => by
        have hne : b ≠ m := fun e => n1 (by rw [← e]; exact hb)
        rw [AH.get_set, if_neg hne]; exact h3 b (List.mem_cons_of_mem _ hb)⟩
      obtain ⟨H2, a1, a2⟩ := ih hm
      refine ⟨H2, .mark (h3 m (List.mem_cons_self ..)) a1, fun b hb => ?_⟩
      have hbm : b ≠ m := fun e => hb (e ▸ h3 m (List.mem_cons_self ..))
      rw [a2 b (by rw [AH.get_set, if_neg hbm]; exact hb), AH.get_set, if_neg hbm]
/-- A function's end where its result stands in memory. -/
theorem end_cell {G : AH} {fr : AFr} {b : Nat} {v : Value} {a : Tmp} {t : TypeId} {i : TI} {Q : Value → AH → Prop} (hd : Marks G fr.ds) (ht : C.ti t = some i) (ha : i.agg = false) (hp : tget fr.tm a = .pointer (some ⟨b, 0, none⟩)) (hm : Mem G b [v] false 1) (hq : ∀ H', Q v H') :
    ∃ H2, Adf fr.ds G H2 ∧ tSome (aresList C fr.tm H2 [.cell a t]) (fun l => Q (resV l) H2) .mk := by
  obtain ⟨H2, h1, h2⟩ := hd.adf
  refine ⟨H2, h1, ?_⟩
  obtain ⟨k, hk⟩ := hm.get
  have hc : H2.cel b 0 = some v := by
    rw [AH.cel_congr (h2 b (by rw [hk]; simp))]
    have := hm.cel 0
    simpa using this
  rw [aresList_cell1 (C := C) (H := H2) [] ht ha hp hc]
  simp [hq]
theorem end_cell2 {G : AH} {ds : List ADef} {b : Nat} {v : Value} {K : List Value → Prop} {t : Tg K} (hd : Marks G ds) (hm : Mem G b [v] false 1) (hq : K [v]) :
    ∃ H2, Adf ds G H2 ∧ tSome ((H2.cel b 0).bind fun v => some [v]) K t := by
  obtain ⟨H2, h1, h2⟩ := hd.adf
  refine ⟨H2, h1, ?_⟩
  obtain ⟨k, hk⟩ := hm.get
  have hc : H2.cel b 0 = some v := by
    rw [AH.cel_congr (h2 b (by rw [hk]; simp))]
    have := hm.cel 0
    simpa using this
  rw [hc]
  simp [hq]
end Go.Eng.R
