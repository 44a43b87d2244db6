/- TraceRanges, walked. -/
import Derived.Test.YtcnamndapofimaaGreatDoorRgL
import Derived.Test.YtcnamndapofimaaGreatDoorRing2
namespace Go.Eng.R
open Go Go.Eng Go.Proofs
theorem Client.of {H H2 : AH} {yl base : Nat} {xs : List Fd} {Q : AH → Prop} (I : Nat → AH → Prop) (J : AH → Prop) (h0 : I 0 H2) (hst : ∀ k G G', I k G → WF G → Keep G G' [] → WF G' → I k G')
    (hstep : ∀ k x G pv, xs[k]? = some x → I k G → WF G → H2.next ≤ G.next → Own G pv x.path.length 1 (ints x.path) → (∀ b ∈ blkOf pv, H.next ≤ b ∧ b < H2.next) →
      CW C (.round yl [.int .i64 ((base + k : Nat) : Int), .agg ⟨[.int .i64 x.rule, pv]⟩]) G fun v G' => ∃ S, Keep G G' S ∧ WF G' ∧ (∀ b ∈ S, b < H.next ∨ H2.next ≤ b ∨ b ∈ blkOf pv) ∧ (v = .bool true ∧ I (k + 1) G' ∨ v = .bool false ∧ J G'))
    (hend : ∀ G, WF G → I xs.length G → J G) (hJ : ∀ G, WF G → J G → Q G) : Client H H2 yl base xs Q :=
  ⟨I, h0, hst, fun k x G pv h1 h2 h3 h4 h5 h6 => CW.mono (hstep k x G pv h1 h2 h3 h4 h5 h6) fun v G' ⟨S, q1, q2, q3, q4⟩ => ⟨S, q1, q2, q3, q4.imp id fun ⟨e, h⟩ => ⟨e, hJ G' q2 h⟩⟩, fun G w h => hJ G w (hend G w h)⟩
theorem Vars.put {H : AH} {b : Nat} {v0 : Value} {l : List (Nat × List Value)} (h : Vars H ((b, [v0]) :: l)) (w : WF H) (v : Value) (hl : ∀ p ∈ l, p.1 ≠ b) : Vars (H.put b 0 [v]) ((b, [v]) :: l) :=
  .cons (by simpa using (h (b, [v0]) (by simp)).put 0 [v] (by simp)) (Vars.keep (fun p hp => h p (List.mem_cons_of_mem _ hp)) w (Keep.put _ _ _ _ (S := [b]) (by simp)) fun p hp => by simpa using hl p hp)
theorem Vars.upd {H : AH} {b : Nat} {v0 v : Value} {l l' : List (Nat × List Value)} (h : Vars H l) (w : WF H) (hb : (b, [v0]) ∈ l) (hl : ∀ p ∈ l', p = (b, [v]) ∨ (p ∈ l ∧ p.1 ≠ b)) : Vars (H.put b 0 [v]) l' := fun p hp => by
  rcases hl p hp with rfl | ⟨h1, h2⟩
  · simpa using (h (b, [v0]) hb).put 0 [v] (by simp)
  · exact (h p h1).keep w (Keep.put _ _ _ _ (S := [b]) (by simp)) (by simpa using h2)
/-- What stands through both loops. -/
structure RI (N gb rb most : Nat) (vs : List (Nat × List Value)) (es : List Fd) (F : Nat → Prop) (lv mv : Value) (l more : List Fd) (G : AH) : Prop where
  wf : WF G
  vars : Vars G vs
  log : LogAt G gb rb most es F
  la : FdsAt G N lv l
  ma : FdsAt G N mv more
  nle : N ≤ G.next
  sepF : ∀ b, F b → N ≤ b ∧ ∀ p ∈ vs, p.1 ≠ b
  vN : ∀ p ∈ vs, N ≤ p.1
theorem RI.keep {N gb rb most : Nat} {vs : List (Nat × List Value)} {es : List Fd} {F : Nat → Prop} {lv mv : Value} {l more : List Fd} {G G' : AH} {S : List Nat} (h : RI N gb rb most vs es F lv mv l more G) (w : WF G') (k : Keep G G' S)
    (hS : ∀ b ∈ S, N ≤ b ∧ ¬ F b ∧ ∀ p ∈ vs, p.1 ≠ b) : RI N gb rb most vs es F lv mv l more G' where
  wf := w
  vars := h.vars.keep h.wf k fun p hp hs => (hS _ hs).2.2 p hp rfl
  log := h.log.keep h.wf k fun b hb => (hS b hb).2.1
  la := h.la.keep h.nle k fun b hb => (hS b hb).1
  ma := h.ma.keep h.nle k fun b hb => (hS b hb).1
  nle := Nat.le_trans h.nle k.next
  sepF := h.sepF
  vN := h.vN
set_option maxRecDepth 100000 in
theorem traceRanges_ok {H : AH} {N : Nat} {m : Int} {lv : Value} {l : List Fd} {at0 : Int} {mv : Value} {more : List Fd} (w : WF H) (h1 : 1 ≤ N) (hN : N ≤ H.next) (hm1 : -9223372036854775808 ≤ m) (hm2 : m < 9223372036854775808) (hl : FdsAt H N lv l) (hs : l.length ≤ 4398046511104)
    (ha1 : -9223372036854775808 ≤ at0) (ha2 : at0 < 9223372036854775808) (hmo : FdsAt H N mv more) (hsm : more.length ≤ 4398046511104) :
    FW C 8 [.int .i64 m, lv, .int .i64 at0, mv] H fun v _ => v = .bool true := by
  refine FW.walk (n := 97) (rs := [.cell 8 4]) rfl fn8 rfl rfl rfl ?_
  obtain ⟨a, c, rfl, hfit, _⟩ := id hl
  obtain ⟨ma, mc, rfl, hfitm, _⟩ := id hmo
  simp
  have w1 := w.new [.slice a l.length c]
  have w2 := w1.new [.int .i64 at0]
  have w3 := w2.new [.slice ma more.length mc]
  have w4 := w3.new [.bool false]
  have k4 : Keep H ((((H.new [.slice a l.length c]).new [.int .i64 at0]).new [.slice ma more.length mc]).new [.bool false]) [] := (((Keep.new _ _ _).trans (Keep.new _ _ _)).trans (Keep.new _ _ _)).trans (Keep.new _ _ _)
  have v4 : Vars ((((H.new [.slice a l.length c]).new [.int .i64 at0]).new [.slice ma more.length mc]).new [.bool false]) [(H.next + 1 + 1 + 1, [.bool false]), (H.next + 1 + 1, [.slice ma more.length mc]), (H.next + 1, [.int .i64 at0]), (H.next, [.slice a l.length c])] :=
    (((Vars.nil.new w _).new w1 _).new w2 _).new w3 _
  refine FW.mono (awake_ok w4 (by simp)) ?_
  rintro v H5 ⟨rfl, k5, w5⟩
  have kk5 := k4.trans k5
  have v5 := v4.keep w4 k5 (by simp)
  have hl5 := hl.keep hN kk5 (by simp)
  have hmo5 := hmo.keep hN kk5 (by simp)
  have hN5 : N ≤ H5.next := Nat.le_trans hN kk5.next
  have hn5 : H.next + 1 + 1 + 1 + 1 ≤ H5.next := k5.next
  simp
  have c5 := (v5 (H.next, [.slice a l.length c]) (by simp)).cel 0
  simp at c5
  refine W.draw [0, 3, 8, 1, 2, 4, 5, 6, 7, 9, 10] [0, 1, 3, 0, 15, 31, 63, 63, 0, 383, 1023] rfl (by kernel_rfl) (by kernel_rfl) (by kernel_rfl) ?_
  simp [c5]
  refine FW.mono (pick_ok (by omega) hm1 hm2) ?_
  rintro v H6 ⟨rfl, k, rfl, hk0, hk1⟩
  obtain ⟨n, rfl⟩ := Int.eq_ofNat_of_zero_le hk0
  have hw1 : awrap .i64 (1 + (n : Int)) = ((n + 1 : Nat) : Int) := by rw [awrap_id (by omega) (by omega)]; omega
  have w6 := w5.new [.pointer none]
  have v6 := v5.new w5 [.pointer none]
  have k6 := Keep.new H5 [.pointer none] []
  have hl6 := hl5.keep hN5 k6 (by simp)
  have hmo6 := hmo5.keep hN5 k6 (by simp)
  simp [hw1]
  refine FW.mono (filled_ok w6 (by simp; omega) hl6 (by omega)) ?_
  rintro v H7 ⟨k7, w7, hfl⟩
  rcases hfl with ⟨hbad, _⟩ | ⟨gb, rb, F, _, hg2, rfl, L, hF⟩
  · omega
  have v7 := v6.keep w6 k7 (by simp)
  have hmn : ((n : Int) + 1).toNat = n + 1 := by omega
  have L7 : LogAt H7 gb rb (n + 1) l F := by simpa [hmn] using L
  have hF7 : ∀ b, F b → H5.next + 1 ≤ b := fun b hb => by simpa using hF b hb
  have c10 := (v7 (H5.next, [.pointer none]) (by simp)).canPut (o := 0) (n := 1) (by simp)
  have v8 : Vars (H7.put H5.next 0 [.pointer (some ⟨gb, 0, none⟩)]) [(H5.next, [.pointer (some ⟨gb, 0, none⟩)]), (H.next + 1 + 1 + 1, [.bool false]), (H.next + 1 + 1, [.slice ma more.length mc]), (H.next + 1, [.int .i64 at0]), (H.next, [.slice a l.length c])] :=
    Vars.put v7 w7 _ (by simp; omega)
  have k8 := Keep.put H7 H5.next 0 [.pointer (some ⟨gb, 0, none⟩)] (S := [H5.next]) (by simp)
  have w8 := w7.put H5.next 0 [.pointer (some ⟨gb, 0, none⟩)]
  have hn7 : H5.next + 1 ≤ H7.next := by simpa using k7.next
  have K8 : RI N gb rb (n + 1) [(H5.next, [.pointer (some ⟨gb, 0, none⟩)]), (H.next + 1 + 1 + 1, [.bool false]), (H.next + 1 + 1, [.slice ma more.length mc]), (H.next + 1, [.int .i64 at0]), (H.next, [.slice a l.length c])] l F (.slice a l.length c) (.slice ma more.length mc) l more (H7.put H5.next 0 [.pointer (some ⟨gb, 0, none⟩)]) :=
    { wf := w8, vars := v8
      log := L7.keep w7 k8 (fun b hb h => by simp at hb; subst hb; have := hF7 _ h; omega)
      la := (hl6.keep (by simp; omega) k7 (by simp)).keep (by omega) k8 (by simp; omega)
      ma := (hmo6.keep (by simp; omega) k7 (by simp)).keep (by omega) k8 (by simp; omega)
      nle := by simp; omega
      sepF := fun b hb => by have := hF7 b hb; simp; omega
      vN := by simp; omega }
  have c61 := (v6 (H.next, [.slice a l.length c]) (by simp)).cel 0
  have c81 := (v8 (H.next, [.slice a l.length c]) (by simp)).cel 0
  have c8g := (v8 (H5.next, [.pointer (some ⟨gb, 0, none⟩)]) (by simp)).cel 0
  simp at c61 c81 c8g
  simp [c10, c61, c81, c8g, Nat.testBit_eq_decide_div_mod_eq]
  clear c61 c81 c10 v7 v6 hl6 hmo6 L7 hl5 hmo5 v5 v4 k4
  generalize hG8 : H7.put H5.next 0 _ = G8 at *
  refine FW.mono (len_ok K8.log) ?_
  rintro v G9 ⟨rfl, rfl⟩
  have p12 := (Mem.new G9 [.int .i64 0]).canPut (o := 0) (n := 1) (by simp)
  have v9 := ((v8.new w8 [.int .i64 0]).new (w8.new _) [.int .i64 0])
  have w9 := (w8.new [.int .i64 0]).new [.int .i64 0]
  have k9 := (Keep.new G9 [.int .i64 0] []).trans (Keep.new _ [.int .i64 0] [])
  have c12 := (v9 (G9.next, [.int .i64 0]) (by simp)).canPut (o := 0) (n := 1) (by simp)
  have c13 := (v9 (G9.next + 1, [.int .i64 0]) (by simp)).canPut (o := 0) (n := 1) (by simp)
  simp [c12, c13, c13.put]
  have hn9 : H5.next < G9.next := by rw [← hG8]; simp; omega
  have v9' : Vars ((G9.new [.int .i64 0]).new [.int .i64 0]) [(G9.next + 1, [.int .i64 0]), (G9.next, [.int .i64 0]), (H5.next, [.pointer (some ⟨gb, 0, none⟩)]), (H.next + 1 + 1 + 1, [.bool false]), (H.next + 1 + 1, [.slice ma more.length mc]), (H.next + 1, [.int .i64 at0]), (H.next, [.slice a l.length c])] := by simpa using v9
  have vA : Vars (((G9.new [.int .i64 0]).new [.int .i64 0]).put G9.next 0 [.int .i64 (min l.length (n + 1) : Nat)]) [(G9.next + 1, [.int .i64 0]), (G9.next, [.int .i64 (min l.length (n + 1) : Nat)]), (H5.next, [.pointer (some ⟨gb, 0, none⟩)]), (H.next + 1 + 1 + 1, [.bool false]), (H.next + 1 + 1, [.slice ma more.length mc]), (H.next + 1, [.int .i64 at0]), (H.next, [.slice a l.length c])] :=
    Vars.upd v9' w9 (b := G9.next) (v0 := .int .i64 0) (by simp) (by simp; omega)
  have wA := w9.put G9.next 0 [.int .i64 (min l.length (n + 1) : Nat)]
  have vB : Vars ((((G9.new [.int .i64 0]).new [.int .i64 0]).put G9.next 0 [.int .i64 (min l.length (n + 1) : Nat)]).put (G9.next + 1) 0 [.int .i64 (l.length : Nat)]) [(G9.next + 1, [.int .i64 (l.length : Nat)]), (G9.next, [.int .i64 (min l.length (n + 1) : Nat)]), (H5.next, [.pointer (some ⟨gb, 0, none⟩)]), (H.next + 1 + 1 + 1, [.bool false]), (H.next + 1 + 1, [.slice ma more.length mc]), (H.next + 1, [.int .i64 at0]), (H.next, [.slice a l.length c])] :=
    Vars.upd vA wA (b := G9.next + 1) (v0 := .int .i64 0) (by simp) (by simp; omega)
  have wB := wA.put (G9.next + 1) 0 [.int .i64 (l.length : Nat)]
  have kB : Keep G9 ((((G9.new [.int .i64 0]).new [.int .i64 0]).put G9.next 0 [.int .i64 (min l.length (n + 1) : Nat)]).put (G9.next + 1) 0 [.int .i64 (l.length : Nat)]) [] :=
    k9.fresh ((Keep.put _ G9.next 0 _ (S := [G9.next, G9.next + 1]) (by simp)).trans (Keep.put _ (G9.next + 1) 0 _ (S := [G9.next, G9.next + 1]) (by simp))) (by simp)
  have K10 : RI N gb rb (n + 1) [(G9.next + 1, [.int .i64 (l.length : Nat)]), (G9.next, [.int .i64 (min l.length (n + 1) : Nat)]), (H5.next, [.pointer (some ⟨gb, 0, none⟩)]), (H.next + 1 + 1 + 1, [.bool false]), (H.next + 1 + 1, [.slice ma more.length mc]), (H.next + 1, [.int .i64 at0]), (H.next, [.slice a l.length c])] l F (.slice a l.length c) (.slice ma more.length mc) l more ((((G9.new [.int .i64 0]).new [.int .i64 0]).put G9.next 0 [.int .i64 (min l.length (n + 1) : Nat)]).put (G9.next + 1) 0 [.int .i64 (l.length : Nat)]) :=
    { wf := wB, vars := vB
      log := K8.log.keep w8 kB (by simp)
      la := K8.la.keep K8.nle kB (by simp)
      ma := K8.ma.keep K8.nle kB (by simp)
      nle := by simp; omega
      sepF := fun b hb => by have := hF7 b hb; have := K8.log.old b hb; simp; omega
      vN := by simp; omega }
  have cBg := (vB (H5.next, [.pointer (some ⟨gb, 0, none⟩)]) (by simp)).cel 0
  simp at cBg
  have hnB : ((((G9.new [.int .i64 0]).new [.int .i64 0]).put G9.next 0 [.int .i64 (min l.length (n + 1) : Nat)]).put (G9.next + 1) 0 [.int .i64 (l.length : Nat)]).next = G9.next + 1 + 1 := by simp
  generalize hGB : AH.put (((G9.new [.int .i64 0]).new [.int .i64 0]).put G9.next 0 _) (G9.next + 1) 0 _ = GB at *
  simp [cBg]
  refine FW.mono (all39_ok rfl) ?_
  rintro v GC ⟨rfl, rfl⟩
  have w11 := wB.new [.pointer (some ⟨gb, 0, none⟩)]
  have mcb := (Mem.new GB [.pointer (some ⟨gb, 0, none⟩)])
  have w12 := w11.new [.int .i64 0]
  have m15 := (Mem.new (GB.new [.pointer (some ⟨gb, 0, none⟩)]) [.int .i64 0])
  have cp15 := m15.canPut (o := 0) (n := 1) (by simp)
  simp at cp15
  simp [cp15]
  have m15p := m15.put 0 [.int .i64 ((0 : Nat) : Int)] (by simp)
  simp at m15p
  have w13 := w12.put (GB.next + 1) 0 [.int .i64 0]
  have k13 : Keep GB (((GB.new [.pointer (some ⟨gb, 0, none⟩)]).new [.int .i64 0]).put (GB.next + 1) 0 [.int .i64 0]) [] :=
    ((Keep.new GB [.pointer (some ⟨gb, 0, none⟩)] []).trans (Keep.new _ [.int .i64 0] [])).fresh (Keep.put _ (GB.next + 1) 0 _ (S := [GB.next + 1]) (by simp)) (by simp)
  have mcb13 := mcb.keep w11 (((Keep.new _ [.int .i64 0] [GB.next + 1])).trans (Keep.put _ (GB.next + 1) 0 [.int .i64 0] (S := [GB.next + 1]) (by simp))) (by simp)
  have hn13 : (((GB.new [.pointer (some ⟨gb, 0, none⟩)]).new [.int .i64 0]).put (GB.next + 1) 0 [.int .i64 0]).next = GB.next + 1 + 1 := by simp
  have K12 := K10.keep w13 k13 (by simp)
  have hF' : ∀ b, F b → b < GB.next := K10.log.old
  have K13 : RI N gb rb (n + 1) [(GB.next, [.pointer (some ⟨gb, 0, none⟩)]), (G9.next + 1, [.int .i64 (l.length : Nat)]), (G9.next, [.int .i64 (min l.length (n + 1) : Nat)]), (H5.next, [.pointer (some ⟨gb, 0, none⟩)]), (H.next + 1 + 1 + 1, [.bool false]), (H.next + 1 + 1, [.slice ma more.length mc]), (H.next + 1, [.int .i64 at0]), (H.next, [.slice a l.length c])] l F (.slice a l.length c) (.slice ma more.length mc) l more (((GB.new [.pointer (some ⟨gb, 0, none⟩)]).new [.int .i64 0]).put (GB.next + 1) 0 [.int .i64 0]) :=
    { K12 with
      vars := Vars.cons mcb13 K12.vars
      sepF := fun b hb => ⟨(K12.sepF b hb).1, fun p hp => by
        rcases List.mem_cons.1 hp with rfl | hp
        · have := hF' b hb; simp; omega
        · exact (K12.sepF b hb).2 p hp⟩
      vN := fun p hp => by
        rcases List.mem_cons.1 hp with rfl | hp
        · have := K10.nle; simp; omega
        · exact K12.vN p hp }
  generalize hGD : AH.put ((GB.new [.pointer (some ⟨gb, 0, none⟩)]).new [.int .i64 0]) (GB.next + 1) 0 [.int .i64 0] = GD at *
  refine W.rangeFunc' (g := 89) (cap := [.pointer (some ⟨GB.next, 0, none⟩)]) rfl (by simp) ?_
  generalize hobj : loopObj _ #[47, 48] _ _ = obj
  have k14 := Keep.ranged GD obj []
  have w14 := w13.ranged obj
  have hml := AH.ranged_mark GD obj
  have hll := AH.ranged_loop GD obj
  have hn14 := AH.ranged_next GD obj
  have K14 := K13.keep w14 k14 (by simp)
  have m1514 := m15p.keep w13 k14 (by simp)
  have mcb14 := mcb13.keep w13 k14 (by simp)
  have hM14 : Marks (GD.ranged obj) [.mark GD.next] := Marks.cons (Marks.nil _) hml (by simp)
  simp only [hn13] at hml hll hM14 hn14 ⊢
  have hnB2 : G9.next < GB.next := by omega
  generalize GD.ranged obj = GE at *
  have hyS : ∀ b, GB.next + 1 ≤ b → N ≤ b ∧ ¬ F b ∧ ∀ p ∈ ([(GB.next, [.pointer (some ⟨gb, 0, none⟩)]), (G9.next + 1, [.int .i64 (l.length : Nat)]), (G9.next, [.int .i64 (min l.length (n + 1) : Nat)]), (H5.next, [.pointer (some ⟨gb, 0, none⟩)]), (H.next + 1 + 1 + 1, [.bool false]), (H.next + 1 + 1, [.slice ma more.length mc]), (H.next + 1, [.int .i64 at0]), (H.next, [.slice a l.length c])] : List (Nat × List Value)), p.1 ≠ b := fun b hb => by
    refine ⟨by omega, fun h => by have := hF' _ h; omega, by simp; omega⟩
  refine gath_ok (cb := GB.next) w14 K14.log (by omega) (by omega) mcb14 ?_
  intro Hc kc wc Lc
  refine Client.of (I := fun k G => RI N gb rb (n + 1) [(GB.next, [.pointer (some ⟨gb, 0, none⟩)]), (G9.next + 1, [.int .i64 (l.length : Nat)]), (G9.next, [.int .i64 (min l.length (n + 1) : Nat)]), (H5.next, [.pointer (some ⟨gb, 0, none⟩)]), (H.next + 1 + 1 + 1, [.bool false]), (H.next + 1 + 1, [.slice ma more.length mc]), (H.next + 1, [.int .i64 at0]), (H.next, [.slice a l.length c])] l F (.slice a l.length c) (.slice ma more.length mc) l more G ∧
      Mem G (GB.next + 1) [.int .i64 (k : Nat)] false 1 ∧ G.get (GB.next + 1 + 1 + 1) = some (.loop obj) ∧ Marks G [.mark (GB.next + 1 + 1)])
    (J := fun G => RI N gb rb (n + 1) [(GB.next, [.pointer (some ⟨gb, 0, none⟩)]), (G9.next + 1, [.int .i64 (l.length : Nat)]), (G9.next, [.int .i64 (min l.length (n + 1) : Nat)]), (H5.next, [.pointer (some ⟨gb, 0, none⟩)]), (H.next + 1 + 1 + 1, [.bool false]), (H.next + 1 + 1, [.slice ma more.length mc]), (H.next + 1, [.int .i64 at0]), (H.next, [.slice a l.length c])] l F (.slice a l.length c) (.slice ma more.length mc) l more G ∧
      (∃ r, G.get (GB.next + 1 + 1 + 1) = some (.loop r) ∧ r.st ≠ .busy ∧ (r.pending = none ∨ r.pending = some (.exit 0))) ∧ Marks G [.mark (GB.next + 1 + 1)])
    ⟨K14.keep wc kc (by simp), m1514.keep w14 kc (by simp), kc.get_eq w14 hll (by simp), hM14.keep w14 kc (by simp)⟩
    (fun k G G' ⟨q1, q2, q3, q4⟩ wG k' wG' => ⟨q1.keep wG' k' (by simp), q2.keep wG k' (by simp), k'.get_eq wG q3 (by simp), q4.keep wG k' (by simp)⟩) ?_
    (fun G wG ⟨q1, q2, q3, q4⟩ => ⟨q1, ⟨_, q3, by rw [← hobj]; simp [loopObj], .inl (by rw [← hobj]; rfl)⟩, q4⟩) ?_
  · rintro k x G pv hx ⟨hKG, hm15, hyl, hMk⟩ wG hGn ho hbd
    obtain ⟨o0, ho0⟩ : ∃ o, o = obj := ⟨_, rfl⟩
    subst hobj
    refine CW.round' hyl rfl ?_
    simp only [loopObj]
    simp
    refine ⟨_, hyl, rfl, ?_⟩
    have hy := get_lt wG hyl
    generalize hG2 : AH.set G (GB.next + 1 + 1 + 1) _ = G2
    obtain ⟨o2, ho2, ho2', ho2b⟩ : ∃ o2 : ALoop, G2.get (GB.next + 1 + 1 + 1) = some (.loop o2) ∧ ({ o2 with st := .ready, pending := none } : ALoop) = o0 ∧ True := ⟨_, by rw [← hG2, AH.get_set, if_pos rfl], by rw [ho0]; rfl, trivial⟩
    have k2q : Keep G G2 [GB.next + 1 + 1 + 1] := by rw [← hG2]; exact Keep.set _ _ _ (by simp)
    have w2q : WF G2 := by rw [← hG2]; exact wG.set _ hy
    have hK2 := hKG.keep w2q k2q fun b hb => hyS b (by simp at hb; omega)
    have m152 := hm15.keep wG k2q (by simp)
    have c15 := m152.cel 0
    have c6 := (hK2.vars (H.next + 1, [.int .i64 at0]) (by simp)).cel 0
    simp at c15 c6
    refine W.draw [0, 1, 2, 3] [0, 0, 2, 7] rfl (by kernel_rfl) (by kernel_rfl) (by kernel_rfl) ?_
    simp [c15, c6]
    refine FW.mono (pick_ok (by omega) ha1 ha2) ?_
    rintro v G3 ⟨rfl, j, rfl, hj0, hj1⟩
    have hkl : k < l.length := by have := (List.getElem?_eq_some_iff.1 hx).1; simp at this; omega
    by_cases hkj : (k : Int) = j
    · simp [c15, c6, hkj, Nat.testBit_eq_decide_div_mod_eq, show Nat.beq 0 1 = false from rfl]
      refine ⟨_, ho2, ?_⟩
      have kL : Keep G (G3.set (GB.next + 1 + 1 + 1) (.loop { o2 with st := .done, pending := some (.exit 0) })) [GB.next + 1 + 1 + 1] := k2q.trans (Keep.set _ _ _ (by simp))
      have wL := w2q.set (.loop { o2 with st := .done, pending := some (.exit 0) }) (get_lt w2q ho2)
      refine ⟨[GB.next + 1 + 1 + 1], kL, wL, fun b hb => .inl (by simp at hb; omega), .inr ⟨rfl, hKG.keep wL kL fun b hb => hyS b (by simp at hb; omega), ⟨_, by rw [AH.get_set, if_pos rfl], by simp, .inr rfl⟩, hMk.keep wG kL fun b hb => by simp at hb; subst hb; rw [hyl]; simp⟩⟩
    · simp [c15, c6, hkj, Nat.testBit_eq_decide_div_mod_eq, m152.canPut (o := 0) (n := 1) (by simp)]
      have hk1 : awrap .i64 ((k : Int) + 1) = ((k + 1 : Nat) : Int) := by rw [awrap_id (by omega) (by omega)]; omega
      rw [hk1]
      have mF := m152.put 0 [.int .i64 ((k + 1 : Nat) : Int)] (by simp)
      simp only [List.take_zero, List.nil_append, List.length_singleton, Nat.zero_add, List.drop_one, List.tail_cons, List.append_nil] at mF
      have kF : Keep G (G3.put (GB.next + 1) 0 [.int .i64 ((k + 1 : Nat) : Int)]) [GB.next + 1, GB.next + 1 + 1 + 1] := (k2q.mono (by simp)).trans (Keep.put _ _ _ _ (by simp))
      have wF := w2q.put (GB.next + 1) 0 [.int .i64 ((k + 1 : Nat) : Int)]
      have gF : (G3.put (GB.next + 1) 0 [.int .i64 ((k + 1 : Nat) : Int)]).get (GB.next + 1 + 1 + 1) = some (.loop o2) := by rw [AH.put_get_ne _ _ (by omega)]; exact ho2
      generalize hGF : G3.put (GB.next + 1) 0 [.int .i64 ((k + 1 : Nat) : Int)] = GF at *
      refine ⟨o2, gF, ?_⟩
      simp only [ho2']
      have kL : Keep G (GF.set (GB.next + 1 + 1 + 1) (.loop o0)) [GB.next + 1, GB.next + 1 + 1 + 1] := kF.trans (Keep.set _ _ _ (by simp))
      have wL := wF.set (.loop o0) (get_lt wF gF)
      refine ⟨[GB.next + 1, GB.next + 1 + 1 + 1], kL, wL, fun b hb => .inl (by simp at hb; omega), .inl ⟨trivial, hKG.keep wL kL fun b hb => hyS b (by simp at hb; omega), mF.keep wF (Keep.set _ _ _ (S := [GB.next + 1 + 1 + 1]) (by simp)) (by simp), by rw [AH.get_set, if_pos rfl, ho0]; rfl, hMk.keep wG kL fun b hb => by
        simp at hb
        rcases hb with rfl | rfl
        · obtain ⟨q, hq⟩ := hm15.get; rw [hq]; simp
        · rw [hyl]; simp⟩⟩
  · rintro G wG ⟨hKG, ⟨r, hr1, hr2, hr3⟩, hMk⟩
    refine AfterLoop.any hr1 hr2 hr3 ?_
    intro o
    have hy := get_lt wG hr1
    generalize hG1 : AH.set G (GB.next + 1 + 1 + 1) _ = G1
    have k1q : Keep G G1 [GB.next + 1 + 1 + 1] := by rw [← hG1]; exact Keep.set _ _ _ (by simp)
    have w1q : WF G1 := by rw [← hG1]; exact wG.set _ hy
    have hK1 := hKG.keep w1q k1q fun b hb => hyS b (by simp at hb; omega)
    have hM1 := hMk.keep wG k1q (by intro b hb; simp at hb; subst hb; rw [hr1]; simp)
    have e13 := (hK1.vars (G9.next + 1, [.int .i64 (l.length : Nat)]) (by simp)).cel 0
    have e12 := (hK1.vars (G9.next, [.int .i64 (min l.length (n + 1) : Nat)]) (by simp)).cel 0
    have hw2 : awrap .i64 ((l.length : Int) - (min l.length (n + 1) : Nat)) = ((l.length - min l.length (n + 1) : Nat) : Int) := by rw [awrap_id (by omega) (by omega)]; omega
    simp at e13 e12 hw2
    have m16 := (Mem.new G1 [.int .i64 0])
    have cp16 := m16.canPut (o := 0) (n := 1) (by simp)
    simp [e13, e12, hw2, cp16]
    have m16p := m16.put 0 [.int .i64 ((l.length - min l.length (n + 1) + 0 : Nat) : Int)] (by simp)
    simp at m16p
    have k17 : Keep G1 ((G1.new [.int .i64 0]).put G1.next 0 [.int .i64 ((l.length - min l.length (n + 1) : Nat) : Int)]) [] := (Keep.new _ _ _).fresh (Keep.put _ G1.next 0 _ (S := [G1.next]) (by simp)) (by simp)
    have w17 := (w1q.new [.int .i64 0]).put G1.next 0 [.int .i64 ((l.length - min l.length (n + 1) : Nat) : Int)]
    have hn17 : ((G1.new [.int .i64 0]).put G1.next 0 [.int .i64 ((l.length - min l.length (n + 1) : Nat) : Int)]).next = G1.next + 1 := by simp
    have K17 := hK1.keep w17 k17 (by simp)
    have hM17 := hM1.keep w1q k17 (by simp)
    have hG1n : GB.next + 1 + 1 + 1 < G1.next := Nat.lt_of_lt_of_le hy k1q.next
    generalize hGJ : AH.put (G1.new [.int .i64 0]) G1.next 0 [.int .i64 ((l.length - min l.length (n + 1) : Nat) : Int)] = GJ at *
    clear hobj hr3 hr2 hr1 hMk hKG hM1 hK1
    refine W.rangeFunc' (g := 89) (cap := [.pointer (some ⟨GB.next, 0, none⟩)]) rfl (by simp) ?_
    generalize hobj2 : loopObj _ #[59, 60] _ _ = obj2
    have k18 := Keep.ranged GJ obj2 []
    have w18 := w17.ranged obj2
    have hml2 := AH.ranged_mark GJ obj2
    have hll2 := AH.ranged_loop GJ obj2
    have hn18 := AH.ranged_next GJ obj2
    have K18 := K17.keep w18 k18 (by simp)
    have m1618 := m16p.keep w17 k18 (by simp)
    have hM18 : Marks (GJ.ranged obj2) [.mark GJ.next, .mark (GB.next + 1 + 1)] := Marks.cons (hM17.keep w17 k18 (by simp)) hml2 (hM17.fresh w17 (Nat.le_refl _))
    simp only [hn17] at hml2 hll2 hM18 hn18 ⊢
    generalize GJ.ranged obj2 = GL at *
    have mcbL := K18.vars (GB.next, [.pointer (some ⟨gb, 0, none⟩)]) (by simp)
    refine gath_ok (cb := GB.next) w18 K18.log (by omega) (by omega) mcbL ?_
    intro Hd kd wd Ld
    have hyS2 : ∀ b, G1.next ≤ b → N ≤ b ∧ ∀ p ∈ ([(GB.next, [.pointer (some ⟨gb, 0, none⟩)]), (G9.next + 1, [.int .i64 (l.length : Nat)]), (G9.next, [.int .i64 (min l.length (n + 1) : Nat)]), (H5.next, [.pointer (some ⟨gb, 0, none⟩)]), (H.next + 1 + 1 + 1, [.bool false]), (H.next + 1 + 1, [.slice ma more.length mc]), (H.next + 1, [.int .i64 at0]), (H.next, [.slice a l.length c])] : List (Nat × List Value)), p.1 ≠ b := fun b hb => by
      refine ⟨by omega, by simp; omega⟩
    refine Client.of (I := fun k G => ∃ F', RI N gb rb (n + 1) [(GB.next, [.pointer (some ⟨gb, 0, none⟩)]), (G9.next + 1, [.int .i64 (l.length : Nat)]), (G9.next, [.int .i64 (min l.length (n + 1) : Nat)]), (H5.next, [.pointer (some ⟨gb, 0, none⟩)]), (H.next + 1 + 1 + 1, [.bool false]), (H.next + 1 + 1, [.slice ma more.length mc]), (H.next + 1, [.int .i64 at0]), (H.next, [.slice a l.length c])] (l ++ more.take k) F' (.slice a l.length c) (.slice ma more.length mc) l more G ∧ (∀ b, F' b → b < GB.next ∨ Hd.next ≤ b) ∧
        Mem G G1.next [.int .i64 ((l.length - min l.length (n + 1) + k : Nat) : Int)] false 1 ∧ G.get (G1.next + 1 + 1) = some (.loop obj2) ∧ Marks G [.mark (G1.next + 1), .mark (GB.next + 1 + 1)])
      (J := fun G => ∃ es F', RI N gb rb (n + 1) [(GB.next, [.pointer (some ⟨gb, 0, none⟩)]), (G9.next + 1, [.int .i64 (l.length : Nat)]), (G9.next, [.int .i64 (min l.length (n + 1) : Nat)]), (H5.next, [.pointer (some ⟨gb, 0, none⟩)]), (H.next + 1 + 1 + 1, [.bool false]), (H.next + 1 + 1, [.slice ma more.length mc]), (H.next + 1, [.int .i64 at0]), (H.next, [.slice a l.length c])] es F' (.slice a l.length c) (.slice ma more.length mc) l more G ∧ (∀ b, F' b → b < GB.next ∨ Hd.next ≤ b) ∧
        Mem G G1.next [.int .i64 (l.length : Nat)] false 1 ∧ G.get (G1.next + 1 + 1) = some (.loop obj2) ∧ Marks G [.mark (G1.next + 1), .mark (GB.next + 1 + 1)])
      ⟨F, by simpa using K18.keep wd kd (by simp), fun b hb => .inl (hF' b hb), by simpa using m1618.keep w18 kd (by simp), kd.get_eq w18 hll2 (by simp), hM18.keep w18 kd (by simp)⟩
      (fun k G G' ⟨F', q1, q1', q2, q3, q4⟩ wG k' wG' => ⟨F', q1.keep wG' k' (by simp), q1', q2.keep wG k' (by simp), k'.get_eq wG q3 (by simp), q4.keep wG k' (by simp)⟩) ?_
      (fun G wG ⟨F', q1, q1', q2, q3, q4⟩ => ⟨_, F', q1, q1', ?_, q3, q4⟩) ?_
    · rintro k x G pv hx ⟨F', hKG, hF2, hm16, hyl, hMk⟩ wG hGn ho hbd
      obtain ⟨o0, ho0⟩ : ∃ o, o = obj2 := ⟨_, rfl⟩
      subst hobj2
      refine CW.round' hyl rfl ?_
      have cG := (Mem.new G [.int .i64 0, .slice none 0 0]).canPut (o := 0) (n := 2) (by simp)
      have mG := (Mem.new G [.int .i64 0, .slice none 0 0]).put 0 [.int .i64 x.rule, pv] (by simp)
      have k1q : Keep G ((G.new [.int .i64 0, .slice none 0 0]).put G.next 0 [.int .i64 x.rule, pv]) [] := (Keep.new _ _ _).fresh (Keep.put _ G.next 0 _ (S := [G.next]) (by simp)) (by simp)
      have w1q := (wG.new [.int .i64 0, .slice none 0 0]).put G.next 0 [.int .i64 x.rule, pv]
      simp only [loopObj]
      simp [cG, ho.one]
      refine ⟨_, k1q.get_eq wG hyl (by simp), rfl, ?_⟩
      simp at mG
      have hy1 := get_lt wG hyl
      generalize hG2 : AH.put _ G.next 0 _ = G2 at *
      generalize hG3 : AH.set _ (G1.next + 1 + 1) _ = G3
      obtain ⟨o2, ho2, ho2'⟩ : ∃ o2 : ALoop, G3.get (G1.next + 1 + 1) = some (.loop o2) ∧ ({ o2 with st := .ready, pending := none } : ALoop) = o0 := ⟨_, by rw [← hG3, AH.get_set, if_pos rfl], by rw [ho0]; rfl⟩
      have k2q : Keep G2 G3 [G1.next + 1 + 1] := by rw [← hG3]; exact Keep.set _ _ _ (by simp)
      have w2q : WF G3 := by rw [← hG3]; exact w1q.set _ (Nat.lt_of_lt_of_le hy1 k1q.next)
      have kG3 : Keep G G3 [G1.next + 1 + 1] := (k1q.mono (by simp)).trans k2q
      have hdn := kd.next
      have hyF : ∀ b, G1.next ≤ b → b < Hd.next → ¬ F' b := fun b h h' h'' => by rcases hF2 b h'' with q | q <;> omega
      have hK3 := hKG.keep w2q kG3 fun b hb => by
        simp at hb; subst hb
        exact ⟨(hyS2 _ (by omega)).1, hyF _ (by omega) (by omega), (hyS2 _ (by omega)).2⟩
      have m163 := hm16.keep wG kG3 (by simp)
      have mG3 := mG.keep w1q k2q (by simp; omega)
      have own3 := (ho.keep wG k1q (by simp)).keep w1q k2q (fun b hb hs => by have := (hbd b hb).1; simp at hs; omega)
      have hkl : k < min l.length (n + 1) := by have := (List.getElem?_eq_some_iff.1 hx).1; simp at this; omega
      have hix : l.length - min l.length (n + 1) + k < l.length := by omega
      have hx' : l[l.length - min l.length (n + 1) + k]? = some x := by rw [List.getElem?_drop] at hx; exact hx
      obtain ⟨a', c', ea, hfit', ar2⟩ := id hK3.la
      cases ea
      obtain ⟨ab, ao, asp, rfl, habN, ar3⟩ := ar2 (by intro e; subst e; simp at hx')
      obtain ⟨av, av1, av2, av3⟩ := ar3 _ _ hx'
      have hxf : x.path.length * 8 ≤ 140737488351232 := hfit' x (List.mem_of_getElem? hx')
      have c16 := m163.cel 0
      have c5 := (hK3.vars (H.next, [.slice (some ⟨ab, ao, asp⟩) l.length c]) (by simp)).cel 0
      have rG := mG3.row 0 2 (by simp)
      simp at c16 c5 rG
      have vs1 : vsame 5 (.agg ⟨[.int .i64 x.rule, pv]⟩) (.agg ⟨[.int .i64 x.rule, pv]⟩) = true := by
        obtain ⟨q1, q2, rfl, _⟩ := own3.sl
        exact vsame_agg 4 _ (by simp)
      have vs2 : vsame 5 (.agg ⟨[.int .i64 x.rule, av]⟩) (.agg ⟨[.int .i64 x.rule, av]⟩) = true := by
        obtain ⟨q1, q2, rfl, _⟩ := av2
        exact vsame_agg 4 _ (by simp)
      have hge : 0 ≤ ((l.length - min l.length (n + 1) : Nat) : Int) + (k : Int) := by omega
      have hlt : ((l.length - min l.length (n + 1) : Nat) : Int) + (k : Int) < (l.length : Int) := by omega
      have htn : (((l.length - min l.length (n + 1) : Nat) : Int) + (k : Int)).toNat = l.length - min l.length (n + 1) + k := by omega
      refine W.draw [0, 1, 2, 3, 4, 5, 6, 7, 8, 9, 10, 11] [0, 0, 3, 7, 15, 15, 15, 111, 239, 511, 1023, 2047] rfl (by kernel_rfl) (by kernel_rfl) (by kernel_rfl) ?_
      simp [c16, c5, rG, av1, hge, hlt, htn]
      refine FW.mono (sameFired_ok w2q own3.sl av2 (by omega)) ?_
      rintro v G4 ⟨k4q, w4q, rfl⟩
      have hK4 := hK3.keep w4q k4q (by simp)
      have m164 := m163.keep w2q k4q (by simp)
      have d16 := m164.cel 0
      have d5 := (hK4.vars (H.next, [.slice (some ⟨ab, ao, asp⟩) l.length c]) (by simp)).cel 0
      have dG := AH.row_keep rG w2q k4q (by simp)
      have dr := AH.row_keep av1 w2q k4q (by simp)
      have d13 := (hK4.vars (G9.next + 1, [.int .i64 (l.length : Nat)]) (by simp)).cel 0
      have d12 := (hK4.vars (G9.next, [.int .i64 (min l.length (n + 1) : Nat)]) (by simp)).cel 0
      have d7 := (hK4.vars (H.next + 1 + 1, [.slice ma more.length mc]) (by simp)).cel 0
      have d10 := (hK4.vars (H5.next, [.pointer (some ⟨gb, 0, none⟩)]) (by simp)).cel 0
      simp at d16 d5 d13 d12 d7 d10
      have hwk : awrap .i64 (awrap .i64 (((l.length - min l.length (n + 1) : Nat) : Int) + (k : Int) - (l.length : Int)) + (min l.length (n + 1) : Nat)) = (k : Int) := by
        rw [awrap_id (n := ((l.length - min l.length (n + 1) : Nat) : Int) + (k : Int) - (l.length : Int)) (by omega) (by omega), awrap_id (by omega) (by omega)]; omega
      simp [c16, c5, rG, av1, hge, hlt, htn, d16, d5, dG, dr, vs1, vs2, d13, d12, d7, hwk, Nat.testBit_eq_decide_div_mod_eq]
      have hgF := hK4.log.fg
      have hrF := hK4.log.fr
      have hgr : ∀ b ∈ [gb, rb], F' b := fun b hb => by
        simp at hb
        rcases hb with rfl | rfl
        · exact hgF
        · exact hrF
      have hk1 : awrap .i64 (((l.length - min l.length (n + 1) : Nat) : Int) + (k : Int) + 1) = ((l.length - min l.length (n + 1) + (k + 1) : Nat) : Int) := by rw [awrap_id (by omega) (by omega)]; omega
      by_cases hm : k < more.length
      · obtain ⟨a2, c2, ea2, hfitm2, mr2⟩ := id hK4.ma
        cases ea2
        obtain ⟨mb, mo, msp, rfl, hmbN, mr3⟩ := mr2 (by intro e; subst e; simp at hm)
        obtain ⟨mv, mv1, mv2, mv3⟩ := mr3 k _ (List.getElem?_eq_getElem hm)
        have hmf : more[k].path.length * 8 ≤ 140737488351232 := hfitm2 _ (List.getElem_mem hm)
        have vs3 : vsame 5 (.agg ⟨[.int .i64 more[k].rule, mv]⟩) (.agg ⟨[.int .i64 more[k].rule, mv]⟩) = true := by
          obtain ⟨q1, q2, rfl, _⟩ := mv2
          exact vsame_agg 4 _ (by simp)
        simp [hm]
        refine W.draw [0, 1, 2, 3, 4, 5, 6, 7, 8, 9] [0, 0, 0, 0, 12, 0, 60, 126, 254, 511] rfl (by kernel_rfl) (by kernel_rfl) (by kernel_rfl) ?_
        simp [d16, d5, d13, d12, d7, d10, hwk, hm, mv1]
        refine FW.mono (add_ok w4q hK4.log mv2 hmf (by simp; omega)) ?_
        rintro v G5 ⟨F5, L5, hF5, k5q, w5q⟩
        have hK5 : RI N gb rb (n + 1) [(GB.next, [.pointer (some ⟨gb, 0, none⟩)]), (G9.next + 1, [.int .i64 (l.length : Nat)]), (G9.next, [.int .i64 (min l.length (n + 1) : Nat)]), (H5.next, [.pointer (some ⟨gb, 0, none⟩)]), (H.next + 1 + 1 + 1, [.bool false]), (H.next + 1 + 1, [.slice (some ⟨mb, mo, msp⟩) more.length mc]), (H.next + 1, [.int .i64 at0]), (H.next, [.slice (some ⟨ab, ao, asp⟩) l.length c])] (l ++ more.take (k + 1)) F5 (.slice (some ⟨ab, ao, asp⟩) l.length c) (.slice (some ⟨mb, mo, msp⟩) more.length mc) l more G5 :=
          { wf := w5q
            vars := hK4.vars.keep w4q k5q fun p hp hs => (hK4.sepF _ (hgr _ hs)).2 p hp rfl
            log := by rw [List.take_succ_eq_append_getElem hm, ← List.append_assoc]; exact L5
            la := hK4.la.keep hK4.nle k5q fun b hb => (hK4.sepF b (hgr b hb)).1
            ma := hK4.ma.keep hK4.nle k5q fun b hb => (hK4.sepF b (hgr b hb)).1
            nle := Nat.le_trans hK4.nle k5q.next
            sepF := fun b hb => by
              rcases hF5 b hb with h | h
              · exact hK4.sepF b h
              · exact ⟨Nat.le_trans hK4.nle h, fun p hp e => by have := (hK4.vars p hp).lt w4q; omega⟩
            vN := hK4.vN }
        have hF52 : ∀ b, F5 b → b < GB.next ∨ Hd.next ≤ b := fun b hb => by
          rcases hF5 b hb with h | h
          · exact hF2 b h
          · have := k1q.next; have := k2q.next; have := k4q.next; omega
        have f16 := (m164.keep w4q k5q (fun h => hyF _ (Nat.le_refl _) (by omega) (hgr _ h))).cel 0
        have f7 := (hK5.vars (H.next + 1 + 1, [.slice (some ⟨mb, mo, msp⟩) more.length mc]) (by simp)).cel 0
        have f13 := (hK5.vars (G9.next + 1, [.int .i64 (l.length : Nat)]) (by simp)).cel 0
        have f12 := (hK5.vars (G9.next, [.int .i64 (min l.length (n + 1) : Nat)]) (by simp)).cel 0
        have f10 := (hK5.vars (H5.next, [.pointer (some ⟨gb, 0, none⟩)]) (by simp)).cel 0
        have fr := AH.row_keep mv1 w4q k5q (fun h => by have := (hK4.sepF _ (hgr _ h)).1; omega)
        have m165 := m164.keep w4q k5q (fun h => hyF _ (Nat.le_refl _) (by omega) (hgr _ h))
        simp at f16 f7 f13 f12 f10
        simp [d16, d5, d13, d12, d7, d10, hwk, hm, mv1, f16, f7, f13, f12, f10, fr, vs3, hk1, Nat.testBit_eq_decide_div_mod_eq, m165.canPut (o := 0) (n := 1) (by simp)]
        rw [show ((l.length - min l.length (n + 1) : Nat) : Int) + ((k : Int) + 1) = ((l.length - min l.length (n + 1) + (k + 1) : Nat) : Int) by omega]
        have mF := m165.put 0 [.int .i64 ((l.length - min l.length (n + 1) + (k + 1) : Nat) : Int)] (by simp)
        simp only [List.take_zero, List.nil_append, List.length_singleton, Nat.zero_add, List.drop_one, List.tail_cons, List.append_nil] at mF
        have kp := Keep.put G5 G1.next 0 [.int .i64 ((l.length - min l.length (n + 1) + (k + 1) : Nat) : Int)] (S := [G1.next + 1 + 1, gb, rb, G1.next]) (by simp)
        have kF : Keep G (G5.put G1.next 0 [.int .i64 ((l.length - min l.length (n + 1) + (k + 1) : Nat) : Int)]) [G1.next + 1 + 1, gb, rb, G1.next] :=
          (((kG3.trans (k4q.mono (by simp))).mono (by simp)).trans (k5q.mono (by simp +contextual))).trans kp
        have wF := w5q.put G1.next 0 [.int .i64 ((l.length - min l.length (n + 1) + (k + 1) : Nat) : Int)]
        have gF : (G5.put G1.next 0 [.int .i64 ((l.length - min l.length (n + 1) + (k + 1) : Nat) : Int)]).get (G1.next + 1 + 1) = some (.loop o2) := by
          rw [AH.put_get_ne _ _ (by omega)]
          exact k5q.get_eq w4q (k4q.get_eq w2q ho2 (by simp)) (fun h => hyF _ (by omega) (by omega) (hgr _ h))
        have hF5y : ∀ b, G1.next ≤ b → b < Hd.next → ¬ F5 b := fun b h h' h'' => by rcases hF52 b h'' with q | q <;> omega
        have hKF := hK5.keep wF (Keep.put G5 G1.next 0 [.int .i64 ((l.length - min l.length (n + 1) + (k + 1) : Nat) : Int)] (S := [G1.next]) (by simp)) fun b hb => by
          simp at hb; subst hb
          exact ⟨(hyS2 _ (by omega)).1, hF5y _ (by omega) (by omega), (hyS2 _ (by omega)).2⟩
        generalize hGF : G5.put G1.next 0 [.int .i64 ((l.length - min l.length (n + 1) + (k + 1) : Nat) : Int)] = GF at *
        refine ⟨o2, gF, ?_⟩
        simp only [ho2']
        have kL : Keep G (GF.set (G1.next + 1 + 1) (.loop o0)) [G1.next + 1 + 1, gb, rb, G1.next] := kF.trans (Keep.set _ _ _ (by simp))
        have wL := wF.set (.loop o0) (get_lt wF gF)
        have kS := Keep.set GF (G1.next + 1 + 1) (.loop o0) (S := [G1.next + 1 + 1]) (by simp)
        refine ⟨[G1.next + 1 + 1, gb, rb, G1.next], kL, wL, fun b hb => ?_, .inl ⟨trivial, F5, hKF.keep wL kS fun b hb => ?_, hF52, mF.keep wF kS (by simp), by rw [AH.get_set, if_pos rfl, ho0]; rfl, hMk.keep wG kL fun b hb => ?_⟩⟩
        · simp only [List.mem_cons, List.not_mem_nil, or_false] at hb
          rcases hb with rfl | rfl | rfl | rfl
          · exact .inl (by omega)
          · rcases hF2 _ hgF with q | q
            · exact .inl (by omega)
            · exact .inr (.inl q)
          · rcases hF2 _ hrF with q | q
            · exact .inl (by omega)
            · exact .inr (.inl q)
          · exact .inl (by omega)
        · simp at hb; subst hb
          exact ⟨(hyS2 _ (by omega)).1, hF5y _ (by omega) (by omega), (hyS2 _ (by omega)).2⟩
        · simp only [List.mem_cons, List.not_mem_nil, or_false] at hb
          rcases hb with rfl | rfl | rfl | rfl
          · rw [hyl]; simp
          · obtain ⟨q, hq⟩ := hKG.log.log.get; rw [hq]; simp
          · obtain ⟨cs, hcs, _⟩ := hKG.log.ring; obtain ⟨q, hq⟩ := hcs.get; rw [hq]; simp
          · obtain ⟨q, hq⟩ := hm16.get; rw [hq]; simp
      · simp [hm, d16, hk1, m164.canPut (o := 0) (n := 1) (by simp)]
        obtain ⟨G5, hG5⟩ : ∃ G5, G5 = G4 := ⟨_, rfl⟩
        obtain ⟨F5, hFe⟩ : ∃ F5 : Nat → Prop, F5 = F' := ⟨_, rfl⟩
        have k5q : Keep G4 G5 [gb, rb] := by rw [hG5]; exact Keep.refl _ _
        have w5q : WF G5 := by rw [hG5]; exact w4q
        have m165 : Mem G5 G1.next [.int .i64 ((l.length - min l.length (n + 1) + k : Nat) : Int)] false 1 := by rw [hG5]; exact m164
        have hK5 : RI N gb rb (n + 1) [(GB.next, [.pointer (some ⟨gb, 0, none⟩)]), (G9.next + 1, [.int .i64 (l.length : Nat)]), (G9.next, [.int .i64 (min l.length (n + 1) : Nat)]), (H5.next, [.pointer (some ⟨gb, 0, none⟩)]), (H.next + 1 + 1 + 1, [.bool false]), (H.next + 1 + 1, [.slice ma more.length mc]), (H.next + 1, [.int .i64 at0]), (H.next, [.slice (some ⟨ab, ao, asp⟩) l.length c])] (l ++ more.take (k + 1)) F5 (.slice (some ⟨ab, ao, asp⟩) l.length c) (.slice ma more.length mc) l more G5 := by
          rw [hG5, hFe, show more.take (k + 1) = more.take k by rw [List.take_of_length_le (by omega), List.take_of_length_le (by omega)]]
          exact hK4
        have hF52 : ∀ b, F5 b → b < GB.next ∨ Hd.next ≤ b := by rw [hFe]; exact hF2
        rw [← hG5]
        rw [show ((l.length - min l.length (n + 1) : Nat) : Int) + ((k : Int) + 1) = ((l.length - min l.length (n + 1) + (k + 1) : Nat) : Int) by omega]
        have mF := m165.put 0 [.int .i64 ((l.length - min l.length (n + 1) + (k + 1) : Nat) : Int)] (by simp)
        simp only [List.take_zero, List.nil_append, List.length_singleton, Nat.zero_add, List.drop_one, List.tail_cons, List.append_nil] at mF
        have kp := Keep.put G5 G1.next 0 [.int .i64 ((l.length - min l.length (n + 1) + (k + 1) : Nat) : Int)] (S := [G1.next + 1 + 1, gb, rb, G1.next]) (by simp)
        have kF : Keep G (G5.put G1.next 0 [.int .i64 ((l.length - min l.length (n + 1) + (k + 1) : Nat) : Int)]) [G1.next + 1 + 1, gb, rb, G1.next] :=
          (((kG3.trans (k4q.mono (by simp))).mono (by simp)).trans (k5q.mono (by simp +contextual))).trans kp
        have wF := w5q.put G1.next 0 [.int .i64 ((l.length - min l.length (n + 1) + (k + 1) : Nat) : Int)]
        have gF : (G5.put G1.next 0 [.int .i64 ((l.length - min l.length (n + 1) + (k + 1) : Nat) : Int)]).get (G1.next + 1 + 1) = some (.loop o2) := by
          rw [AH.put_get_ne _ _ (by omega)]
          exact k5q.get_eq w4q (k4q.get_eq w2q ho2 (by simp)) (fun h => hyF _ (by omega) (by omega) (hgr _ h))
        have hF5y : ∀ b, G1.next ≤ b → b < Hd.next → ¬ F5 b := fun b h h' h'' => by rcases hF52 b h'' with q | q <;> omega
        have hKF := hK5.keep wF (Keep.put G5 G1.next 0 [.int .i64 ((l.length - min l.length (n + 1) + (k + 1) : Nat) : Int)] (S := [G1.next]) (by simp)) fun b hb => by
          simp at hb; subst hb
          exact ⟨(hyS2 _ (by omega)).1, hF5y _ (by omega) (by omega), (hyS2 _ (by omega)).2⟩
        generalize hGF : G5.put G1.next 0 [.int .i64 ((l.length - min l.length (n + 1) + (k + 1) : Nat) : Int)] = GF at *
        refine ⟨o2, gF, ?_⟩
        simp only [ho2']
        have kL : Keep G (GF.set (G1.next + 1 + 1) (.loop o0)) [G1.next + 1 + 1, gb, rb, G1.next] := kF.trans (Keep.set _ _ _ (by simp))
        have wL := wF.set (.loop o0) (get_lt wF gF)
        have kS := Keep.set GF (G1.next + 1 + 1) (.loop o0) (S := [G1.next + 1 + 1]) (by simp)
        refine ⟨[G1.next + 1 + 1, gb, rb, G1.next], kL, wL, fun b hb => ?_, .inl ⟨trivial, F5, hKF.keep wL kS fun b hb => ?_, hF52, mF.keep wF kS (by simp), by rw [AH.get_set, if_pos rfl, ho0]; rfl, hMk.keep wG kL fun b hb => ?_⟩⟩
        · simp only [List.mem_cons, List.not_mem_nil, or_false] at hb
          rcases hb with rfl | rfl | rfl | rfl
          · exact .inl (by omega)
          · rcases hF2 _ hgF with q | q
            · exact .inl (by omega)
            · exact .inr (.inl q)
          · rcases hF2 _ hrF with q | q
            · exact .inl (by omega)
            · exact .inr (.inl q)
          · exact .inl (by omega)
        · simp at hb; subst hb
          exact ⟨(hyS2 _ (by omega)).1, hF5y _ (by omega) (by omega), (hyS2 _ (by omega)).2⟩
        · simp only [List.mem_cons, List.not_mem_nil, or_false] at hb
          rcases hb with rfl | rfl | rfl | rfl
          · rw [hyl]; simp
          · obtain ⟨q, hq⟩ := hKG.log.log.get; rw [hq]; simp
          · obtain ⟨cs, hcs, _⟩ := hKG.log.ring; obtain ⟨q, hq⟩ := hcs.get; rw [hq]; simp
          · obtain ⟨q, hq⟩ := hm16.get; rw [hq]; simp
    · have e : l.length - min l.length (n + 1) + (List.drop (l.length - min l.length (n + 1)) l).length = l.length := by simp
      rw [e] at q2
      exact q2
    · rintro G wG ⟨es, F', hKG, hF2, hm16, hyl, hMk⟩
      refine AfterLoop.mk hyl (by rw [← hobj2]; rfl) (by rw [← hobj2]; rfl) ?_
      have hy := get_lt wG hyl
      generalize hG2 : AH.set G (G1.next + 1 + 1) _ = G2
      have k1q : Keep G G2 [G1.next + 1 + 1] := by rw [← hG2]; exact Keep.set _ _ _ (by simp)
      have w1q : WF G2 := by rw [← hG2]; exact wG.set _ hy
      have hdn := kd.next
      have hK2 := hKG.keep w1q k1q fun b hb => by
        simp at hb; subst hb
        exact ⟨(hyS2 _ (by omega)).1, fun h => by rcases hF2 _ h with q | q <;> omega, (hyS2 _ (by omega)).2⟩
      have m162 := hm16.keep wG k1q (by simp)
      have hM2 := hMk.keep wG k1q (by intro b hb; simp at hb; subst hb; rw [hyl]; simp)
      have e13 := (hK2.vars (G9.next + 1, [.int .i64 (l.length : Nat)]) (by simp)).cel 0
      have c16 := m162.cel 0
      have m8 := hK2.vars (H.next + 1 + 1 + 1, [.bool false]) (by simp)
      have cp8 := m8.canPut (o := 0) (n := 1) (by simp)
      have mF := m8.put 0 [.bool true] (by simp)
      simp at e13 c16 mF cp8
      have hM' : Marks (G2.put (H.next + 1 + 1 + 1) 0 [.bool true]) [.mark (G1.next + 1), .mark (GB.next + 1 + 1)] := hM2.keep w1q (Keep.put _ _ _ _ (S := [H.next + 1 + 1 + 1]) (by simp)) (by
        intro b hb
        simp at hb; subst hb
        obtain ⟨k, hk⟩ := m8.get
        rw [hk]; simp)
      simp [e13, c16, cp8]
      exact end_cell2 hM' mF rfl
end Go.Eng.R
