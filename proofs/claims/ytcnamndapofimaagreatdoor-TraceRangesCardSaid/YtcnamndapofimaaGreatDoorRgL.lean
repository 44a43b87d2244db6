/- TraceLasts, walked. -/
import Derived.Test.YtcnamndapofimaaGreatDoorRgF
namespace Go.Eng.R
open Go Go.Eng Go.Proofs
theorem awake_ok {H : AH} (w : WF H) (h1 : 1 ≤ H.next) : FW C 30 [] H fun v H' => v = .bool true ∧ Keep H H' [] ∧ WF H' := by
  have hf : B.eAwake.fits H = true := by
    show ((Nat.beq H.next 1 || (true && Nat.ble 1 H.next && true)) && true) = true
    rw [show Nat.ble 1 H.next = true by rw [Nat.ble_eq]; exact h1]; simp
  have hh : C.hook 30 [] H = some (.ret (.bool true) { next := H.next + 10055, tr := H.tr }) := by
    show (bif Nat.beq 30 30 && lsame [] [] && B.eAwake.fits H then some (HRes.ret (renV (B.eAwake.ρ H.next) 8 B.eAwake.v) (B.eAwake.laid H)) else none) = _
    rw [hf]; rfl
  exact FW.hook hh ⟨rfl, ⟨by show H.next ≤ H.next + 10055; omega, fun b hb _ => rfl⟩, fun b hb => w b (by have hb : H.next + 10055 ≤ b := hb; omega)⟩
/-- Where the loop that gathers what a range tells stands. -/
structure LI (lo hi sb mb yl : Nat) (obj : ALoop) (N : Nat) (lv : Value) (l : List Fd) (base gb2 rb2 : Nat) (F2 : Nat → Prop) (k : Nat) (G : AH) : Prop where
  told : ∃ sv zs, Mem G sb [sv] false 1 ∧ Own G sv zs.length 2 (flat zs) ∧ zs.length = k ∧
    (∀ (j : Nat) (z : Int × Value), zs[j]? = some z → ∃ x : Fd, l[base + j]? = some x ∧ z.1 = x.rule ∧ IntsAt G z.2 x.path ∧ ∀ b ∈ blkOf z.2, lo ≤ b ∧ b < hi) ∧ ∀ b ∈ blkOf sv, hi ≤ b
  loop : G.get yl = some (.loop obj)
  mark : G.get mb = some (.deferred true)
  log : LogAt G gb2 rb2 1000 l F2
  args : FdsAt G N lv l
  nle : N ≤ G.next
theorem LI.keep {lo hi sb mb yl : Nat} {obj : ALoop} {N : Nat} {lv : Value} {l : List Fd} {base gb2 rb2 : Nat} {F2 : Nat → Prop} {k : Nat} {G G' : AH} (h : LI lo hi sb mb yl obj N lv l base gb2 rb2 F2 k G) (w : WF G) (kk : Keep G G' []) : LI lo hi sb mb yl obj N lv l base gb2 rb2 F2 k G' := by
  obtain ⟨sv, zs, h1, h2, h3, h4, h5⟩ := h.told
  refine ⟨⟨sv, zs, h1.keep w kk (by simp), h2.keep w kk (by simp), h3, fun j z hz => ?_, h5⟩, kk.get_eq w h.loop (by simp), kk.get_eq w h.mark (by simp), h.log.keep w kk (by simp), h.args.keep h.nle kk (by simp), Nat.le_trans h.nle kk.next⟩
  obtain ⟨x, x1, x2, x3, x4⟩ := h4 j z hz
  exact ⟨x, x1, x2, x3.keep w kk (by simp), x4⟩
set_option maxRecDepth 100000 in
theorem traceLasts_ok {H : AH} {N : Nat} {m : Int} {lv : Value} {l : List Fd} (w : WF H) (h1 : 1 ≤ N) (hN : N ≤ H.next) (hm1 : -9223372036854775808 ≤ m) (hm2 : m < 9223372036854775808) (hl : FdsAt H N lv l) (hs : l.length < 4611686018427387904) :
    FW C 7 [.int .i64 m, lv] H fun v _ => v = .bool true := by
  refine FW.walk (n := 129) (rs := [.tmp 4]) rfl fn7 rfl rfl rfl ?_
  obtain ⟨a, c, rfl, hfit, _⟩ := id hl
  simp
  refine FW.mono (awake_ok w (by omega)) ?_
  rintro v H1 ⟨rfl, k1, w1⟩
  simp
  refine FW.mono (pick_ok (by omega) hm1 hm2) ?_
  rintro v H1 ⟨rfl, k, rfl, hk0, hk1⟩
  have hn : awrap .i64 (1 + k) = 1 + k := awrap_id (by omega) (by omega)
  simp [hn]
  have hl1 := hl.keep hN k1 (by simp)
  have hN1 : N ≤ H1.next := Nat.le_trans hN k1.next
  refine FW.mono (filled_ok w1 hN1 hl1 hs) ?_
  rintro v H2 ⟨k2, w2, h2⟩
  rcases h2 with ⟨hbad, _⟩ | ⟨gb, rb, F, _, _, rfl, L, hF⟩
  · omega
  simp
  have hl2 := hl1.keep hN1 k2 (by simp)
  have hN2 : N ≤ H2.next := Nat.le_trans hN1 k2.next
  refine FW.mono (filled_ok (m := 1000) w2 hN2 hl2 hs) ?_
  rintro v H3 ⟨k3, w3, h3⟩
  rcases h3 with ⟨hbad, _⟩ | ⟨gb2, rb2, F2, _, _, rfl, L2, hF2⟩
  · omega
  have hl3 := hl2.keep hN2 k3 (by simp)
  have hN3 : N ≤ H3.next := Nat.le_trans hN2 k3.next
  have L' := L.keep w2 k3 (by simp)
  by_cases hbig : (1000 : Int) < (l.length : Int)
  · simp [hbig]
  simp [hbig]
  refine FW.mono (len_ok L') ?_
  rintro v H3 ⟨rfl, rfl⟩
  obtain ⟨n, hnk⟩ := Int.eq_ofNat_of_zero_le (show 0 ≤ 1 + k by omega)
  have hn' : (1 + k).toNat = n := by omega
  rw [hnk] at hn
  rw [hn'] at L L'
  have hmin : (if l.length < n then (l.length : Int) else (n : Int)) = ((min l.length n : Nat) : Int) := by split <;> omega
  simp [hnk, hn', hmin]
  refine FW.mono (all39_ok rfl) ?_
  rintro v H5 ⟨rfl, rfl⟩
  simp
  have w4 := w3.new [.slice none 0 0]
  have w5 := w4.new [.pointer (some ⟨gb, 0, none⟩)]
  have k45 : Keep H3 ((H3.new [.slice none 0 0]).new [.pointer (some ⟨gb, 0, none⟩)]) [] := (Keep.new _ _ _).trans (Keep.new _ _ _)
  refine W.rangeFunc' (g := 89) (cap := [.pointer (some ⟨H3.next + 1, 0, none⟩)]) rfl (by simp) ?_
  generalize hobj : loopObj _ #[83, 84] _ _ = obj
  have k56 := Keep.ranged ((H3.new [.slice none 0 0]).new [.pointer (some ⟨gb, 0, none⟩)]) obj []
  have w6 := w5.ranged obj
  have L6 : LogAt _ gb rb n l F := L'.keep w3 (k45.trans k56) (by simp)
  have L26 := L2.keep w3 (k45.trans k56) (by simp)
  have hl6 := hl3.keep hN3 (k45.trans k56) (by simp)
  have hc : Mem (((H3.new [.slice none 0 0]).new [.pointer (some ⟨gb, 0, none⟩)]).ranged obj) (H3.next + 1) [.pointer (some ⟨gb, 0, none⟩)] false 1 := (Mem.new (H3.new [.slice none 0 0]) [.pointer (some ⟨gb, 0, none⟩)]).keep w5 k56 (by simp)
  have hsb : Mem (((H3.new [.slice none 0 0]).new [.pointer (some ⟨gb, 0, none⟩)]).ranged obj) H3.next [.slice none 0 0] false 1 := (Mem.new H3 [.slice none 0 0]).keep w4 ((Keep.new _ _ _).trans k56) (by simp)
  have hml := AH.ranged_mark ((H3.new [.slice none 0 0]).new [.pointer (some ⟨gb, 0, none⟩)]) obj
  have hll := AH.ranged_loop ((H3.new [.slice none 0 0]).new [.pointer (some ⟨gb, 0, none⟩)]) obj
  have hn6 := AH.ranged_next ((H3.new [.slice none 0 0]).new [.pointer (some ⟨gb, 0, none⟩)]) obj
  have hN6 : N ≤ (((H3.new [.slice none 0 0]).new [.pointer (some ⟨gb, 0, none⟩)]).ranged obj).next := Nat.le_trans hN3 (k45.trans k56).next
  simp only [AH.next_new] at hml hll hn6 ⊢
  generalize ((H3.new [.slice none 0 0]).new [.pointer (some ⟨gb, 0, none⟩)]).ranged obj = H6 at *
  refine gath_ok (most := n) (cb := H3.next + 1) w6 L6 hs (by omega) hc ?_
  intro Hc kc wc Lc
  have hlc := hl6.keep hN6 kc (by simp)
  refine ⟨fun k G => LI H6.next Hc.next H3.next (H3.next + 1 + 1) (H3.next + 1 + 1 + 1) obj N (.slice a l.length c) l (l.length - min l.length n) gb2 rb2 F2 k G,
    ⟨⟨.slice none 0 0, [], hsb.keep w6 kc (by simp), Own.nil _ 2, rfl, by simp, by simp [blkOf]⟩, kc.get_eq w6 hll (by simp), kc.get_eq w6 hml (by simp), L26.keep w6 kc (by simp), hlc, Nat.le_trans hN6 kc.next⟩,
    fun k G G' h w k' _ => h.keep w k', ?_, ?_⟩
  · intro k x G pv hx hI wG hGn ho hbd
    obtain ⟨sv, zs, s1, s2, s3, s4, s5⟩ := hI.told
    obtain ⟨o0, ho0⟩ : ∃ o, o = obj := ⟨_, rfl⟩
    subst hobj
    refine CW.round' hI.loop rfl ?_
    have cG := (Mem.new G [.int .i64 0, .slice none 0 0]).canPut (o := 0) (n := 2) (by simp)
    have mG := (Mem.new G [.int .i64 0, .slice none 0 0]).put 0 [.int .i64 x.rule, pv] (by simp)
    have k1' : Keep G ((G.new [.int .i64 0, .slice none 0 0]).put G.next 0 [.int .i64 x.rule, pv]) [] := (Keep.new _ _ _).fresh (Keep.put _ G.next 0 _ (S := [G.next]) (by simp)) (by simp)
    have w1' := (wG.new [.int .i64 0, .slice none 0 0]).put G.next 0 [.int .i64 x.rule, pv]
    simp only [loopObj]
    simp [cG, ho.one]
    refine ⟨_, k1'.get_eq wG hI.loop (by simp), rfl, ?_⟩
    simp at mG
    have hy1 := get_lt wG hI.loop
    have hsb1 := s1.lt wG
    generalize hG1 : AH.put _ G.next 0 _ = G1 at *
    generalize hG2 : AH.set _ (H3.next + 1 + 1 + 1) _ = G2
    obtain ⟨o2, ho2, ho2'⟩ : ∃ o2 : ALoop, G2.get (H3.next + 1 + 1 + 1) = some (.loop o2) ∧ ({ o2 with st := .ready, pending := none } : ALoop) = o0 := ⟨_, by rw [← hG2, AH.get_set, if_pos rfl], by rw [ho0]; rfl⟩
    have k2' : Keep G1 G2 [H3.next + 1 + 1 + 1] := by rw [← hG2]; exact Keep.set _ _ _ (by simp)
    have w2' : WF G2 := by rw [← hG2]; exact w1'.set _ (Nat.lt_of_lt_of_le hy1 k1'.next)
    have hlo6 : H3.next + 1 + 1 + 1 < H6.next := by omega
    have hcn : H6.next ≤ Hc.next := kc.next
    have sb2 := (s1.keep wG k1' (by simp)).keep w1' k2' (by simp)
    have mG2 := mG.keep w1' k2' (by simp; omega)
    have ow2 := (s2.keep wG k1' (by simp)).keep w1' k2' (by intro b hb; have := s5 b hb; simp; omega)
    have c2 := sb2.cel 0
    have r2 := mG2.row 0 2 (by simp)
    simp at c2 r2
    have hsl : slB C 68 1 [(0, .agg ⟨[.int .i64 x.rule, pv]⟩)] = some { n := 2, sz := 2, tr := T.lay [.int .i64 x.rule, pv] .leaf 0, zero := [.int .i64 0, .slice none 0 0] } := by
      have := slB_one (C := C) (t := 68) (v := .agg ⟨[.int .i64 x.rule, pv]⟩) ti68 t68_desc ti77 (by simp) (by simp) (by simp) (by simp)
      simpa using this
    have m3 := Mem.push_lay G2 2 [.int .i64 0, .slice none 0 0] [.int .i64 x.rule, pv] (n := 2) (by simp)
    have k3' := Keep.push G2 (.cells { n := 2, sz := 2, tr := T.lay [.int .i64 x.rule, pv] .leaf 0, zero := [.int .i64 0, .slice none 0 0] }) []
    have w3' := w2'.push (.cells { n := 2, sz := 2, tr := T.lay [.int .i64 x.rule, pv] .leaf 0, zero := [.int .i64 0, .slice none 0 0] })
    have sl3 : SlAt (G2.push (.cells { n := 2, sz := 2, tr := T.lay [.int .i64 x.rule, pv] .leaf 0, zero := [.int .i64 0, .slice none 0 0] })) (.slice (some ⟨G2.next, 0, none⟩) 1 1) 1 [.int .i64 x.rule, pv] :=
      ⟨_, 1, rfl, by simp, fun _ => ⟨G2.next, 0, none, rfl, m3.row 0 2 (by simp)⟩⟩
    have hkl : k < (l.drop (l.length - min l.length n)).length := (List.getElem?_eq_some_iff.1 hx).1
    have hkn : k < 1000 := by simp at hkl; omega
    obtain ⟨sv', G4, e4, ow4, k4', w4', hb4⟩ := app_own (C := C) (t := 68) (u := 68) ti68 t68_desc ti77 ti68 t68_desc (by rw [t77_size]; exact ow2.keep w2' k3' (by simp)) sl3 (by simp) w3' (by simp) (by simp) (by simp [ho.one]) (by simp; omega)
    have e4' := e4
    simp at e4'
    have hsv : ∀ b ∈ blkOf sv, Hc.next ≤ b := s5
    have sb4 := (sb2.keep w2' k3' (by simp)).keep w3' k4' (by intro h; have := hsv _ h; omega)
    have k5' : Keep G4 (G4.put H3.next 0 [sv']) [H3.next] := Keep.put _ _ _ _ (by simp)
    have hn2 : G.next ≤ G2.next := Nat.le_trans k1'.next k2'.next
    have hl5 : (G4.put H3.next 0 [sv']).get (H3.next + 1 + 1 + 1) = some (.loop o2) := k5'.get_eq w4' (k4'.get_eq w3' (k3'.get_eq w2' ho2 (by simp)) (by intro h; have := hsv _ h; omega)) (by simp)
    simp [c2, r2, hsl, e4', ow4.one, sb4.canPut (o := 0) (n := 1) (by simp)]
    refine ⟨o2, hl5, ?_⟩
    simp only [ho2']
    have w5' := w4'.put H3.next 0 [sv']
    have hy5 : H3.next + 1 + 1 + 1 < (G4.put H3.next 0 [sv']).next := get_lt w5' hl5
    have k6' : Keep (G4.put H3.next 0 [sv']) ((G4.put H3.next 0 [sv']).set (H3.next + 1 + 1 + 1) (.loop o0)) [H3.next + 1 + 1 + 1] := Keep.set _ _ _ (by simp)
    have w6' := w5'.set (.loop o0) hy5
    have hS1 : ∀ b, b ∈ [H3.next + 1 + 1 + 1] → b ∈ (H3.next + 1 + 1 + 1) :: H3.next :: blkOf sv := fun b hb => by simp at hb; simp [hb]
    have hS2 : ∀ b, b ∈ [H3.next] → b ∈ (H3.next + 1 + 1 + 1) :: H3.next :: blkOf sv := fun b hb => by simp at hb; simp [hb]
    have hS3 : ∀ b, b ∈ blkOf sv → b ∈ (H3.next + 1 + 1 + 1) :: H3.next :: blkOf sv := fun b hb => by simp [hb]
    have kall := (((((k1'.mono (by simp)).trans (k2'.mono hS1)).trans (k3'.mono (by simp))).trans (k4'.mono hS3)).trans (k5'.mono hS2)).trans (k6'.mono hS1)
    have hrange : ∀ b ∈ (H3.next + 1 + 1 + 1) :: H3.next :: blkOf sv, b < H6.next ∨ Hc.next ≤ b := fun b hb => by
      simp at hb
      rcases hb with rfl | rfl | h
      · exact .inl (by omega)
      · exact .inl (by omega)
      · exact .inr (hsv b h)
    have hsvn : ∀ b ∈ blkOf sv', Hc.next ≤ b := fun b hb => by
      rcases hb4 b hb with h | h
      · exact hsv b h
      · have h : G2.next + 1 ≤ b := h
        omega
    have mfin := (sb4.put 0 [sv'] (by simp)).keep w5' k6' (by simp)
    simp at mfin
    refine ⟨_, kall, w6', fun b hb => (hrange b hb).elim .inl fun h => .inr (.inl h), .inl ⟨trivial, ⟨⟨sv', zs ++ [(x.rule, pv)], mfin, ?_, by simp [s3], ?_, hsvn⟩, ?_, ?_, ?_, ?_, ?_⟩⟩⟩
    · have : flat (zs ++ [(x.rule, pv)]) = flat zs ++ [.int .i64 x.rule, pv] := by simp [flat_append, flat]
      rw [this]
      have hq := (ow4.keep w4' k5' (by intro b hb; have := hsvn b hb; simp; omega)).keep w5' k6' (by intro b hb; have := hsvn b hb; simp; omega)
      simpa using hq
    · intro j z hz
      have hnot : ∀ b, H6.next ≤ b → b < Hc.next → b ∉ (H3.next + 1 + 1 + 1) :: H3.next :: blkOf sv := fun b h1 h2 hs => by
        rcases hrange b hs with h | h <;> omega
      by_cases hj : j < zs.length
      · rw [List.getElem?_append_left hj] at hz
        obtain ⟨y, y1, y2, y3, y4⟩ := s4 j z hz
        exact ⟨y, y1, y2, y3.keep wG kall fun b _ hb => hnot b (y4 b hb).1 (y4 b hb).2, y4⟩
      · have hj2 : j = zs.length := by
          have := (List.getElem?_eq_some_iff.1 hz).1
          simp at this; omega
        subst hj2
        rw [List.getElem?_append_right (Nat.le_refl _)] at hz
        simp at hz
        subst hz
        rw [List.getElem?_drop] at hx
        exact ⟨x, by rw [s3]; exact hx, rfl, ho.sl.keep wG kall fun b _ hb => hnot b (hbd b hb).1 (hbd b hb).2, hbd⟩
    · rw [AH.get_set, if_pos rfl, ho0]
      rfl
    · exact kall.get_eq wG hI.mark (by
        intro h
        simp at h
        have := hsv _ h
        omega)
    · exact hI.log.keep wG kall fun b hb hF => by
        have h1 := L2.old b hF
        simp at hb
        rcases hb with rfl | rfl | h
        · omega
        · omega
        · have := hsv b h; omega
    · exact hI.args.keep hI.nle kall fun b hb => by
        simp at hb
        rcases hb with rfl | rfl | h
        · omega
        · omega
        · have := hsv b h; omega
    · exact Nat.le_trans hI.nle kall.next
  · intro G wG hI
    obtain ⟨sv, zs, s1, s2, s3, s4, s5⟩ := hI.told
    refine AfterLoop.mk hI.loop (by rw [← hobj]; rfl) (by rw [← hobj]; rfl) ?_
    have hy := get_lt wG hI.loop
    generalize hG1 : AH.set G (H3.next + 1 + 1 + 1) _ = G1
    have k1' : Keep G G1 [H3.next + 1 + 1 + 1] := by rw [← hG1]; exact Keep.set _ _ _ (by simp)
    have w1' : WF G1 := by rw [← hG1]; exact wG.set _ hy
    have hcn : H6.next ≤ Hc.next := kc.next
    have hS : ∀ b, H3.next + 1 + 1 + 2 ≤ b → b ∉ [H3.next + 1 + 1 + 1] := fun b h hs => by simp at hs; omega
    have sb1 := s1.keep wG k1' (by simp)
    have ow1 := s2.keep wG k1' (fun b hb => hS b (by have := s5 b hb; omega))
    have en1 : ∀ (j : Nat) (z : Int × Value), zs[j]? = some z → ∃ x : Fd, l[l.length - min l.length n + j]? = some x ∧ z.1 = x.rule ∧ IntsAt G1 z.2 x.path := fun j z hz => by
      obtain ⟨x, x1, x2, x3, x4⟩ := s4 j z hz
      exact ⟨x, x1, x2, x3.keep wG k1' fun b _ hb => hS b (by have := (x4 b hb).1; omega)⟩
    have mk1 := k1'.get_eq wG hI.mark (by simp)
    have lg1 := hI.log.keep wG k1' (by
      intro b hb hF
      have := L2.old b hF
      simp at hb; omega)
    have ar1 := hI.args.keep hI.nle k1' (by intro b hb; simp at hb; omega)
    have nl1 := Nat.le_trans hI.nle k1'.next
    have hzl : zs.length = min l.length n := by rw [s3]; simp; omega
    clear hI s1 s2 s4 s5
    obtain ⟨sa, sc, rfl, _⟩ := ow1.sl
    have c1 := sb1.cel 0
    simp at c1
    simp [c1, hzl]
    refine W.loop (fun mm fr G' => ∃ i, mm = min l.length n - i ∧ i ≤ min l.length n ∧ Keep G1 G' [] ∧ WF G' ∧ fr.n = 129 ∧ fr.ds = [.mark (H3.next + 1 + 1)] ∧ tget fr.tm 1 = .slice a l.length c ∧ tget fr.tm 9 = .pointer (some ⟨gb2, 0, none⟩) ∧ tget fr.tm 11 = .int .i64 (min l.length n : Nat) ∧ tget fr.tm 13 = .pointer (some ⟨H3.next, 0, none⟩) ∧ tget fr.tm 16 = .int .i64 (i : Nat)) ?_ (m := min l.length n)
      ⟨0, by omega, by omega, Keep.refl _ _, w1', by simp⟩
    rintro mm ⟨tm, nn, ds, rnd⟩ G' ⟨i, rfl, hi, kG', wG', hn1, hds, f1, f9, f11, f13, f16⟩
    simp only at hn1 hds f1 f9 f11 f13 f16
    subst hn1 hds
    refine wp_ok _ _ _ _ ?_
    by_cases h0 : i < min l.length n
    · simp [f1, f9, f11, f13, f16, h0]
      refine W.draw [0, 1, 2, 3, 4, 5, 6, 7, 8, 9, 10, 11, 12, 13, 14] [0, 0, 3, 7, 0, 0, 32, 0, 224, 0, 992, 2032, 4080, 8191, 16383] rfl (by kernel_rfl) (by kernel_rfl) (by kernel_rfl) ?_
      obtain ⟨⟨zr, zv⟩, hz⟩ : ∃ z, zs[i]? = some z := ⟨_, List.getElem?_eq_getElem (by omega)⟩
      obtain ⟨x, x1, x2, x3⟩ := en1 i _ hz
      simp only at x2 x3
      subst x2
      have owG := (ow1.keep w1' kG' (by simp)).sl
      obtain ⟨sa', sc', ea, _, ow3⟩ := owG
      cases ea
      obtain ⟨vb, vo, vsp, rfl, vrow⟩ := ow3 (by omega)
      have vr := AH.row_sub vrow (i * 2) 2 (by rw [flat_length]; omega)
      rw [flat_get _ _ _ hz] at vr
      have cG := (sb1.keep w1' kG' (by simp)).cel 0
      obtain ⟨a', c', ea, _, ar2⟩ := ar1.keep nl1 kG' (by simp)
      cases ea
      obtain ⟨ab, ao, asp, rfl, habN, ar3⟩ := ar2 (by intro e; subst e; simp at x1)
      obtain ⟨av, av1, av2, av3⟩ := ar3 _ _ x1
      simp at cG vr
      have hw1 : awrap .i64 ((l.length : Int) - (min l.length n : Nat)) = ((l.length - min l.length n : Nat) : Int) := by rw [awrap_id (by omega) (by omega)]; omega
      have hw2 : awrap .i64 (((l.length - min l.length n : Nat) : Int) + (i : Nat)) = ((l.length - min l.length n + i : Nat) : Int) := by rw [awrap_id (by omega) (by omega)]; omega
      have hlt : ((l.length - min l.length n + i : Nat) : Int) < (l.length : Int) := by omega
      have hge : (0 : Int) ≤ ((l.length - min l.length n + i : Nat) : Int) := by omega
      have htn : ((l.length - min l.length n + i : Nat) : Int).toNat = l.length - min l.length n + i := by omega
      generalize hix : l.length - min l.length n + i = ix at *
      have hiz : i < zs.length := by omega
      simp [f1, f9, f11, f13, f16, h0, cG, vr, av1, hw1, hw2, hlt, hge, htn, hiz, hzl]
      refine FW.mono (sameFired_ok wG' (x3.keep w1' kG' (by simp)) av2 (by have := hfit x (List.mem_of_getElem? x1); unfold Fd.fits at this; omega)) ?_
      rintro v G2 ⟨kG2, wG2, rfl⟩
      have cG2 := (sb1.keep w1' (kG'.trans kG2) (by simp)).cel 0
      have vr2 := AH.row_keep vr wG' kG2 (by simp)
      have av2' := AH.row_keep av1 wG' kG2 (by simp)
      have vs1 : vsame 5 (.agg ⟨[.int .i64 x.rule, zv]⟩) (.agg ⟨[.int .i64 x.rule, zv]⟩) = true := by
        obtain ⟨q1, q2, rfl, _⟩ := x3
        exact vsame_agg 4 _ (by simp)
      have vs2 : vsame 5 (.agg ⟨[.int .i64 x.rule, av]⟩) (.agg ⟨[.int .i64 x.rule, av]⟩) = true := by
        obtain ⟨q1, q2, rfl, _⟩ := av2
        exact vsame_agg 4 _ (by simp)
      simp at cG2
      simp [f1, f9, f11, f13, f16, h0, cG, vr, av1, cG2, vr2, av2', vs1, vs2, Nat.testBit_eq_decide_div_mod_eq, hw1, hw2, hlt, hge, htn, hiz, hzl]
      refine ⟨_, ?_, i + 1, rfl, by omega, kG'.trans kG2, wG2, ?_⟩
      · omega
      · rw [awrap_id (by omega) (by omega)]; simp
    · have hi' : i = min l.length n := by omega
      subst hi'
      simp [f1, f9, f11, f13, f16]
      refine FW.mono (len_ok (lg1.keep w1' kG' (by simp))) ?_
      rintro v G2 ⟨rfl, rfl⟩
      have hm2 : min l.length 1000 = l.length := by omega
      simp [f1, f9, f11, f13, f16, hm2]
      exact ⟨_, .mark (kG'.get_eq w1' mk1 (by simp)) (.nil _)⟩
end Go.Eng.R
