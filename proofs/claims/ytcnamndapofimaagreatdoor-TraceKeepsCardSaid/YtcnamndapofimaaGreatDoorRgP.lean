/- TraceKeeps, walked. -/
import Derived.Test.YtcnamndapofimaaGreatDoorRgL
import Derived.Test.YtcnamndapofimaaGreatDoorRing2
namespace Go.Eng.R
open Go Go.Eng Go.Proofs
/-- What stands at the head of a round. -/
structure KI (b4 b8 gb rb qb N : Nat) (lv : Value) (l : List Fd) (most : Nat) (es : List Fd) (F FR : Nat → Prop) (G : AH) : Prop where
  wf : WF G
  res : Mem G b4 [.bool false] false 1
  ref : Mem G b8 [.pointer (some ⟨qb, 0, none⟩)] false 1
  log : LogAt G gb rb most es F
  rlog : RefAt G qb most es FR
  args : FdsAt G N lv l
  nle : N ≤ G.next
  sepF : ∀ b, F b → b ≠ b4 ∧ b ≠ b8 ∧ N ≤ b ∧ ¬ FR b
  sepR : ∀ b, FR b → b ≠ b4 ∧ b ≠ b8 ∧ N ≤ b
  n4 : N ≤ b4 ∧ N ≤ b8
theorem KI.keep {b4 b8 gb rb qb N : Nat} {lv : Value} {l : List Fd} {most : Nat} {es : List Fd} {F FR : Nat → Prop} {G G' : AH} {S : List Nat} (h : KI b4 b8 gb rb qb N lv l most es F FR G) (w : WF G') (k : Keep G G' S)
    (hS : ∀ b ∈ S, b ≠ b4 ∧ b ≠ b8 ∧ ¬ F b ∧ ¬ FR b ∧ N ≤ b) : KI b4 b8 gb rb qb N lv l most es F FR G' where
  wf := w
  res := h.res.keep h.wf k fun hs => (hS _ hs).1 rfl
  ref := h.ref.keep h.wf k fun hs => (hS _ hs).2.1 rfl
  log := h.log.keep h.wf k fun b hb => (hS b hb).2.2.1
  rlog := h.rlog.keep h.wf k fun b hb => (hS b hb).2.2.2.1
  args := h.args.keep h.nle k fun b hb => (hS b hb).2.2.2.2
  nle := Nat.le_trans h.nle k.next
  sepF := h.sepF
  sepR := h.sepR
  n4 := h.n4
set_option maxRecDepth 100000 in
set_option maxHeartbeats 8000000 in
theorem traceKeeps_ok {H : AH} {N : Nat} {m : Int} {lv : Value} {l : List Fd} (w : WF H) (h1 : 1 ≤ N) (hN : N ≤ H.next) (hm1 : -9223372036854775808 ≤ m) (hm2 : m < 9223372036854775808) (hl : FdsAt H N lv l) (hs : l.length < 4611686018427387904) :
    FW C 5 [.int .i64 m, lv] H fun v _ => v = .bool true := by
  refine FW.walk (n := 174) (rs := [.cell 4 4]) rfl fn5 rfl rfl rfl ?_
  obtain ⟨a, c, rfl, hfit, _⟩ := id hl
  simp
  have w1 := w.new [.bool false]
  have k1 := Keep.new H [.bool false] []
  refine FW.mono (awake_ok w1 (by simp)) ?_
  rintro v H1 ⟨rfl, k2, w2⟩
  simp
  refine FW.mono (new_ok w2) ?_
  rintro v H2 ⟨k3, w3, hnew⟩
  have hb4 : Mem H2 H.next [.bool false] false 1 := (Mem.new H [.bool false]).keep w1 (k2.trans k3) (by simp)
  rcases hnew with ⟨hbad, rfl, rfl⟩ | ⟨gb, rb, F, hg1, hg2, rfl, L, hF⟩
  · simp
    refine FW.mono (rnew_ok w2) ?_
    rintro v H3 ⟨k4, w4, hr⟩
    rcases hr with ⟨_, rfl, rfl⟩ | ⟨qb, FR, hq1, hq2, _⟩
    · simp
      have w5 := w4.new [.pointer none]
      have cp := (Mem.new H3 [.pointer none]).canPut (o := 0) (n := 1) (by simp)
      have m8 := (Mem.new H3 [.pointer none]).put 0 [.pointer none] (by simp)
      have k5 : Keep H3 ((H3.new [.pointer none]).put H3.next 0 [.pointer none]) [] := (Keep.new _ _ _).fresh (Keep.put _ H3.next 0 _ (S := [H3.next]) (by simp)) (by simp)
      have hb5 := (hb4.keep w4 k5 (by simp))
      have c8 := m8.cel 0
      have m4 := hb5.put 0 [.bool true] (by simp)
      have c4 := m4.cel 0
      simp at c8 c4
      simp [cp, c8, hb5.canPut (o := 0) (n := 1) (by simp), c4]
    · omega
  · simp
    refine FW.mono (rnew_ok w3) ?_
    rintro v H3 ⟨k4, w4, hr⟩
    rcases hr with ⟨hbad, _⟩ | ⟨qb, FR, _, _, rfl, R, hFR⟩
    · omega
    simp
    have w5 := w4.new [.pointer none]
    have cp := (Mem.new H3 [.pointer none]).canPut (o := 0) (n := 1) (by simp)
    have m8 := (Mem.new H3 [.pointer none]).put 0 [.pointer (some ⟨qb, 0, none⟩)] (by simp)
    have k5 : Keep H3 ((H3.new [.pointer none]).put H3.next 0 [.pointer (some ⟨qb, 0, none⟩)]) [] := (Keep.new _ _ _).fresh (Keep.put _ H3.next 0 _ (S := [H3.next]) (by simp)) (by simp)
    have hb5 := (hb4.keep w3 k4 (by simp)).keep w4 k5 (by simp)
    have c8 := m8.cel 0
    simp at c8 m8
    simp [cp, c8]
    obtain ⟨n, hnk⟩ := Int.eq_ofNat_of_zero_le (show 0 ≤ m by omega)
    subst hnk
    have w6 := w5.put H3.next 0 [.pointer (some ⟨qb, 0, none⟩)]
    have kn2 : H.next + 1 ≤ H2.next := Nat.le_trans k2.next k3.next
    have kn3 := k4.next
    have kk0 : KI H.next H3.next gb rb qb N (.slice a l.length c) l n [] F FR ((H3.new [.pointer none]).put H3.next 0 [.pointer (some ⟨qb, 0, none⟩)]) :=
      { wf := w6, res := hb5, ref := m8, log := (L.keep w3 k4 (by simp)).keep w4 k5 (by simp), rlog := R.keep w4 k5 (by simp),
        args := ((((hl.keep hN k1 (by simp)).keep (by simp; omega) k2 (by simp)).keep (Nat.le_trans (by simp; omega) k2.next) k3 (by simp)).keep (by omega) k4 (by simp)).keep (by omega) k5 (by simp),
        nle := by simp; omega
        sepF := fun b hb => by
          have q1 := hF b hb
          have q2 := L.old b hb
          have q3 := k2.next
          simp at q3
          refine ⟨by omega, by omega, by omega, fun hr => by have := hFR b hr; omega⟩
        sepR := fun b hb => by
          have q1 := hFR b hb
          have q2 := R.old b hb
          refine ⟨by omega, by omega, by omega⟩
        n4 := ⟨by omega, by omega⟩ }
    refine W.loop (fun mm fr G => ∃ i F FR, mm = l.length - i ∧ i ≤ l.length ∧ i ≤ 1500 ∧ KI H.next H3.next gb rb qb N (.slice a l.length c) l n (l.take i) F FR G ∧ Marks G fr.ds ∧ fr.n = 174 ∧ fr.rnd = none ∧ tget fr.tm 1 = .slice a l.length c ∧ tget fr.tm 4 = .pointer (some ⟨H.next, 0, none⟩) ∧ tget fr.tm 6 = .pointer (some ⟨gb, 0, none⟩) ∧ tget fr.tm 8 = .pointer (some ⟨H3.next, 0, none⟩) ∧ tget fr.tm 10 = .int .i64 (i : Nat)) ?_ (m := l.length)
      ⟨0, F, FR, by omega, by omega, by omega, kk0, Marks.nil _, by simp⟩
    rintro mm ⟨tm, nn, ds, rnd⟩ G ⟨i, F1, FR1, rfl, hi, hi2, hK, hM, hn1, hrnd, f1, f4, f6, f8, f10⟩
    simp only at hM hn1 hrnd f1 f4 f6 f8 f10
    subst hn1 hrnd
    refine wp_ok _ _ _ _ ?_
    by_cases h0 : i < l.length ∧ i < 1500
    · obtain ⟨h01, h02⟩ := h0
      have h02' : (i : Int) < 1500 := by omega
      obtain ⟨a', c', ea, _, ar2⟩ := id hK.args
      cases ea
      obtain ⟨ab, ao, asp, rfl, habN, ar3⟩ := ar2 (by intro e; subst e; simp at h01)
      obtain ⟨av, av1, av2, av3⟩ := ar3 i _ (List.getElem?_eq_getElem h01)
      have hfi : l[i].path.length * 8 ≤ 140737488351232 := hfit _ (List.getElem_mem h01)
      have cl1 := AH.row_cel av1 1 (by omega)
      have cl0 := AH.row_cel av1 0 (by omega)
      simp at cl1 cl0
      simp [f1, f4, f6, f8, f10, h01, h02, h02', cl1]
      refine FW.mono (lent_ok hK.wf av2 hfi) ?_
      rintro pv G1 ⟨⟨bl, hbl, lent⟩, k1', w1'⟩
      have K1 := hK.keep w1' k1' (by simp)
      have gbn : gb < G.next := hK.log.old gb hK.log.fg
      have rbn : rb < G.next := hK.log.old rb hK.log.fr
      have bl1 : bl < G1.next := by
        obtain ⟨o, sp, cap, _, ho⟩ := lent
        exact ho.lt w1' bl (by simp [blkOf])
      have cl0' : G1.cel ab (ao + i * 2) = some (.int .i64 l[i].rule) := by rw [k1'.cel (by have := hK.nle; omega) (by simp)]; exact cl0
      have hone := SlAt.one lent.isInts
      simp [f1, f4, f6, f8, f10, h01, h02, h02', cl1, cl0', bldV_struct, hone]
      have hti : (l.take i).length = i := by simp; omega
      refine FW.mono (add_ok w1' K1.log lent.isInts hfi (by omega)) ?_
      rintro v G2 ⟨F2, L2, hF2, k2', w2'⟩
      have S2 : ∀ b ∈ [gb, rb], F1 b := fun b hb => by
        simp at hb
        rcases hb with rfl | rfl
        · exact hK.log.fg
        · exact hK.log.fr
      have r2 := K1.rlog.keep w1' k2' fun b hb h => (hK.sepF b (S2 b hb)).2.2.2 h
      have res2 := K1.res.keep w1' k2' fun h => (hK.sepF _ (S2 _ h)).1 rfl
      have ref2 := K1.ref.keep w1' k2' fun h => (hK.sepF _ (S2 _ h)).2.1 rfl
      have arg2 := K1.args.keep K1.nle k2' fun b hb => (hK.sepF b (S2 b hb)).2.2.1
      have nle2 := Nat.le_trans K1.nle k2'.next
      have rw2 := AH.row_keep (AH.row_keep av1 hK.wf k1' (by simp)) w1' k2' (fun h => by have := (hK.sepF _ (S2 _ h)).2.2.1; omega)
      have c82 := ref2.cel 0
      have av2' : IntsAt G2 av l[i].path := (av2.keep hK.wf k1' (by simp)).keep w1' k2' fun b h hb hs => by have := (hK.sepF _ (S2 _ hs)).2.2.1; have := av3 b hb h; omega
      simp at c82
      have vs2 : vsame 5 (.agg ⟨[.int .i64 l[i].rule, av]⟩) (.agg ⟨[.int .i64 l[i].rule, av]⟩) = true := by
        obtain ⟨q1, q2, rfl, _⟩ := av2
        exact vsame_agg 4 _ (by simp)
      simp [f1, f4, f6, f8, f10, h01, h02, h02']
      refine W.draw [0, 1, 2, 3, 4, 5] [0, 0, 0, 6, 14, 31] rfl (by kernel_rfl) (by kernel_rfl) (by kernel_rfl) ?_
      simp [f1, f4, f6, f8, f10, h01, h02, h02', c82, rw2]
      refine FW.mono (radd_ok w2' r2 av2' hfi (by omega)) ?_
      rintro v G3 ⟨FR3, S3, R3, hFR3, hS3, hSc3, k3', w3'⟩
      have o1 : ∀ b, F1 b → b < G.next := hK.log.old
      have oR : ∀ b, FR1 b → b < G.next := hK.rlog.old
      have n01 := k1'.next
      have n12 := k2'.next
      have n23 := k3'.next
      have x4 := hK.res.lt hK.wf
      have x8 := hK.ref.lt hK.wf
      have hKn4 := hK.n4
      have hKnle := hK.nle
      have L3 := L2.keep w2' k3' fun b hb h => by
        have q1 := hS3 b hb
        rcases hF2 b h with h | h
        · exact (hK.sepF b h).2.2.2 q1
        · have := oR b q1; omega
      have hxi : (⟨l[i].rule, l[i].path⟩ : Fd) = l[i] := rfl
      have hK3 : KI H.next H3.next gb rb qb N (.slice (some ⟨ab, ao, asp⟩) l.length c) l n (l.take (i + 1)) F2 FR3 G3 :=
        { wf := w3', res := res2.keep w2' k3' fun h => (hK.sepR _ (hS3 _ h)).1 rfl, ref := ref2.keep w2' k3' fun h => (hK.sepR _ (hS3 _ h)).2.1 rfl,
          log := by rw [List.take_succ_eq_append_getElem h01]; exact L3
          rlog := by rw [List.take_succ_eq_append_getElem h01]; exact R3
          args := arg2.keep nle2 k3' fun b hb => (hK.sepR b (hS3 b hb)).2.2
          nle := Nat.le_trans nle2 k3'.next
          sepF := fun b hb => by
            have q0 := L2.old b hb
            rcases hF2 b hb with h | h
            · have q1 := hK.sepF b h
              have q2 := o1 b h
              refine ⟨q1.1, q1.2.1, q1.2.2.1, fun hr => ?_⟩
              rcases hFR3 b hr with hr | hr
              · exact q1.2.2.2 hr
              · omega
            · refine ⟨by omega, by omega, by omega, fun hr => ?_⟩
              rcases hFR3 b hr with hr | hr
              · have := oR b hr; omega
              · omega
          sepR := fun b hb => by
            rcases hFR3 b hb with h | h
            · exact hK.sepR b h
            · refine ⟨by omega, by omega, by omega⟩
          n4 := hKn4 }
      have lent3 := (lent.keep w1' k2' (fun h => by have := o1 _ (S2 _ h); omega)).keep w2' k3' (fun h => by have := oR _ (hS3 _ h); omega)
      have c83 := hK3.ref.cel 0
      have rw3 := AH.row_keep rw2 w2' k3' (fun h => by have := (hK.sepR _ (hS3 _ h)).2.2; omega)
      have cl13 := AH.row_cel rw3 1 (by omega)
      have av3' : IntsAt G3 av l[i].path := av2'.keep w2' k3' fun b h hb hs => by have := (hK.sepR _ (hS3 _ hs)).2.2; have := av3 b hb h; omega
      simp at c83 cl13
      simp [f1, f4, f6, f8, f10, h01, h02, h02', c82, rw2, c83, rw3, vs2, cl13, Nat.testBit_eq_decide_div_mod_eq]
      refine FW.mono (held_ok w3' lent3 av3' (fun h hb => by have := av3 bl hb h; omega) (by omega)) ?_
      rintro v G4 ⟨rfl, k4', w4'⟩
      have hK4 := hK3.keep w4' k4' (fun b hb => by
        simp at hb; subst hb
        refine ⟨by omega, by omega, fun h => ?_, fun h => ?_, by omega⟩
        · rcases hF2 _ h with h | h
          · have := o1 _ h; omega
          · omega
        · rcases hFR3 _ h with h | h
          · have := oR _ h; omega
          · omega)
      simp [f1, f4, f6, f8, f10, h01, h02, h02']
      refine FW.mono (len_ok hK4.log) ?_
      rintro v G4 ⟨rfl, rfl⟩
      have hti1 : (l.take (i + 1)).length = i + 1 := by simp; omega
      rw [hti1]
      simp [f1, f4, f6, f8, f10, h01, h02, h02']
      obtain ⟨rav, rzs, rm1, rm2, rm3, rm4, rm5⟩ := hK4.rlog.log
      rw [hti1] at rm3
      obtain ⟨ra, rc, rfl, _⟩ := rm2.sl
      have c84 := hK4.ref.cel 0
      have cq1 := rm1.cel 1
      simp at c84 cq1
      rw [rm3] at cq1
      have hw : awrap .i64 (((i : Nat) : Int) + 1 - ((i + 1 - n : Nat) : Int)) = ((min (i + 1) n : Nat) : Int) := by rw [awrap_id (by omega) (by omega)]; omega
      refine W.draw [0, 1, 2, 3, 4, 5, 6, 7, 8, 9, 10, 11, 12, 13, 14, 15, 16, 17, 18, 19, 20, 21, 22] [0, 1, 3, 7, 7, 23, 55, 119, 247, 7, 519, 2039, 4095, 8191, 16383, 32767, 32767, 98303, 229375, 491519, 1015807, 2097151, 4194303] rfl (by kernel_rfl) (by kernel_rfl) (by kernel_rfl) ?_
      simp [f1, f4, f6, f8, f10, c84, cq1]
      refine FW.mono (from_ok hK4.rlog (by omega) (by omega)) ?_
      rintro v G4 ⟨rfl, rfl⟩
      rw [hti1]
      simp [f1, f4, f6, f8, f10, c84, cq1, hw, Nat.testBit_eq_decide_div_mod_eq]
      have hlen1 : awrap .i64 ((l.length : Int) - 1) = (l.length : Int) - 1 := awrap_id (by omega) (by omega)
      have hMG : Marks G4 ds := by
        refine (((hM.keep hK.wf k1' (by simp)).keep w1' k2' ?_).keep w2' k3' ?_).keep w3' k4' ?_
        · intro b hb
          simp at hb
          rcases hb with rfl | rfl
          · obtain ⟨q, hq⟩ := K1.log.log.get; rw [hq]; simp
          · obtain ⟨cs, hcs, _⟩ := K1.log.ring; obtain ⟨q, hq⟩ := hcs.get; rw [hq]; simp
        · intro b hb
          obtain ⟨q, hq⟩ := hSc3 b hb
          rw [hq]; simp
        · intro b hb
          simp at hb; subst hb
          obtain ⟨o, sp, cap, _, ho⟩ := lent3
          obtain ⟨q, hq⟩ := ho.isCells b (by simp [blkOf])
          rw [hq]; simp
      by_cases hskip : Int.tmod (i : Int) 7 ≠ 3 ∧ ¬ (i : Int) = (l.length : Int) - 1
      · obtain ⟨h7, hl1⟩ := hskip
        simp [f1, f4, f6, f8, f10, h7, hl1, hlen1]
        refine ⟨_, ?_, i + 1, rfl, by omega, by omega, ⟨F2, FR3, hK4⟩, hMG, ?_⟩
        · omega
        · rw [awrap_id (by omega) (by omega)]; simp [f1, f4, f6, f8]
      · have hor : (Int.tmod (i : Int) 7 = 3 ∧ (True = True)) ∨ (¬ Int.tmod (i : Int) 7 = 3 ∧ ((i : Int) = (l.length : Int) - 1) = True) := by
          by_cases h7 : Int.tmod (i : Int) 7 = 3
          · exact .inl ⟨h7, rfl⟩
          · exact .inr ⟨h7, eq_true (by by_cases hq : (i : Int) = (l.length : Int) - 1; exact hq; exact absurd ⟨h7, hq⟩ hskip)⟩
        rcases hor with ⟨h7, hl1⟩ | ⟨h7, hl1⟩
        all_goals
          simp [f1, f4, f6, f8, f10, h7, hl1, hlen1, c84]
          refine FW.mono (from_ok hK4.rlog (by omega) (by omega)) ?_
          rintro v G4 ⟨rfl, rfl⟩
          rw [hti1]
          have cp15 := (Mem.new G4 [.int .i64 0]).canPut (o := 0) (n := 1) (by simp)
          have m15 := (Mem.new G4 [.int .i64 0]).put 0 [.int .i64 ((i + 1 - n : Nat) : Int)] (by simp)
          have k5' : Keep G4 ((G4.new [.int .i64 0]).put G4.next 0 [.int .i64 ((i + 1 - n : Nat) : Int)]) [] := (Keep.new _ _ _).fresh (Keep.put _ G4.next 0 _ (S := [G4.next]) (by simp)) (by simp)
          have w5' := (w4'.new [.int .i64 0]).put G4.next 0 [.int .i64 ((i + 1 - n : Nat) : Int)]
          simp [cp15]
          refine FW.mono (all39_ok (by simp [f6])) ?_
          rintro v G6 ⟨rfl, rfl⟩
          simp [f6]
          have w6' := w5'.new [.pointer (some ⟨gb, 0, none⟩)]
          have m15' := m15
          simp at m15'
          have m15c := m15'.keep w5' (Keep.new _ [.pointer (some ⟨gb, 0, none⟩)] []) (by simp)
          have k6' := k5'.trans (Keep.new ((G4.new [.int .i64 0]).put G4.next 0 [.int .i64 ((i + 1 - n : Nat) : Int)]) [.pointer (some ⟨gb, 0, none⟩)] [])
          have mcb := Mem.new ((G4.new [.int .i64 0]).put G4.next 0 [.int .i64 ((i + 1 - n : Nat) : Int)]) [.pointer (some ⟨gb, 0, none⟩)]
          have hn6 : (((G4.new [.int .i64 0]).put G4.next 0 [.int .i64 ((i + 1 - n : Nat) : Int)]).new [.pointer (some ⟨gb, 0, none⟩)]).next = G4.next + 1 + 1 := by simp
          simp only [AH.next_put, AH.next_new] at mcb
          generalize hG6 : ((G4.new [.int .i64 0]).put G4.next 0 [.int .i64 ((i + 1 - n : Nat) : Int)]).new [.pointer (some ⟨gb, 0, none⟩)] = G6 at *
          refine W.rangeFunc' (g := 89) (cap := [.pointer (some ⟨G4.next + 1, 0, none⟩)]) rfl (by simp) ?_
          generalize hobj : loopObj _ #[127, 128] _ _ = obj
          have k7 := Keep.ranged G6 obj []
          have w7 := w6'.ranged obj
          have hml := AH.ranged_mark G6 obj
          have hll := AH.ranged_loop G6 obj
          have hn7 := AH.ranged_next G6 obj
          have kk67 : Keep G4 (G6.ranged obj) [] := k6'.trans k7
          have hK7 := hK4.keep w7 kk67 (by simp)
          have m157 := m15c.keep w6' k7 (by simp)
          have mcb7 := mcb.keep w6' k7 (by simp)
          have hM7 : Marks (G6.ranged obj) (.mark G6.next :: ds) := Marks.cons (hMG.keep hK4.wf kk67 (by simp)) hml (hMG.fresh hK4.wf (by omega))
          simp only [hn6] at hml hll hM7 hn7 ⊢
          generalize G6.ranged obj = H6 at *
          refine gath_ok (most := n) (cb := G4.next + 1) w7 hK7.log (by rw [hti1]; omega) (by omega) mcb7 ?_
          intro Hc kc wc Lc
          have hbase : i + 1 - min (i + 1) n = i + 1 - n := by omega
          rw [hti1, hbase]
          have o4 : ∀ b, F2 b → b < G4.next := hK4.log.old
          have oR4 : ∀ b, FR3 b → b < G4.next := hK4.rlog.old
          have x44 := hK4.res.lt hK4.wf
          have x84 := hK4.ref.lt hK4.wf
          have hN4 := hK4.nle
          have hcn := kc.next
          refine ⟨fun k G => KI H.next H3.next gb rb qb N (.slice (some ⟨ab, ao, asp⟩) l.length c) l n (l.take (i + 1)) F2 FR3 G ∧ Mem G G4.next [.int .i64 ((i + 1 - n + k : Nat) : Int)] false 1 ∧ G.get (G4.next + 1 + 1 + 1) = some (.loop obj) ∧ Marks G (.mark (G4.next + 1 + 1) :: ds),
            ⟨hK7.keep wc kc (by simp), m157.keep w7 kc (by simp), kc.get_eq w7 hll (by simp), hM7.keep w7 kc (by simp)⟩,
            fun k G G' ⟨q1, q2, q3, q4⟩ wG k' wG' => ⟨q1.keep wG' k' (by simp), q2.keep wG k' (by simp), k'.get_eq wG q3 (by simp), q4.keep wG k' (by simp)⟩, ?_, ?_⟩
          · rintro k x G pv hx ⟨hKG, hm15, hyl, hMk⟩ wG hGn ho hbd
            obtain ⟨o0, ho0⟩ : ∃ o, o = obj := ⟨_, rfl⟩
            subst hobj
            refine CW.round' hyl rfl ?_
            have cG := (Mem.new G [.int .i64 0, .slice none 0 0]).canPut (o := 0) (n := 2) (by simp)
            have mG := (Mem.new G [.int .i64 0, .slice none 0 0]).put 0 [.int .i64 x.rule, pv] (by simp)
            have k1q : Keep G ((G.new [.int .i64 0, .slice none 0 0]).put G.next 0 [.int .i64 x.rule, pv]) [] := (Keep.new _ _ _).fresh (Keep.put _ G.next 0 _ (S := [G.next]) (by simp)) (by simp)
            have w1q := (wG.new [.int .i64 0, .slice none 0 0]).put G.next 0 [.int .i64 x.rule, pv]
            simp only [loopObj]
            simp [cG, ho.one]
            refine ⟨_, k1q.get_eq wG hyl (by simp), rfl, ?_⟩
            simp at mG
            have hy1 := get_lt wG hyl
            generalize hG1 : AH.put _ G.next 0 _ = G1 at *
            generalize hG2 : AH.set _ (G4.next + 1 + 1 + 1) _ = G2
            obtain ⟨o2, ho2, ho2'⟩ : ∃ o2 : ALoop, G2.get (G4.next + 1 + 1 + 1) = some (.loop o2) ∧ ({ o2 with st := .ready, pending := none } : ALoop) = o0 := ⟨_, by rw [← hG2, AH.get_set, if_pos rfl], by rw [ho0]; rfl⟩
            have k2q : Keep G1 G2 [G4.next + 1 + 1 + 1] := by rw [← hG2]; exact Keep.set _ _ _ (by simp)
            have w2q : WF G2 := by rw [← hG2]; exact w1q.set _ (Nat.lt_of_lt_of_le hy1 k1q.next)
            have kG2 : Keep G G2 [G4.next + 1 + 1 + 1] := (k1q.mono (by simp)).trans k2q
            have hyS : ∀ b ∈ [G4.next + 1 + 1 + 1], b ≠ H.next ∧ b ≠ H3.next ∧ ¬ F2 b ∧ ¬ FR3 b ∧ N ≤ b := fun b hb => by
              simp at hb; subst hb
              refine ⟨by omega, by omega, fun h => by have := o4 _ h; omega, fun h => by have := oR4 _ h; omega, by omega⟩
            have hK2 := hKG.keep w2q kG2 hyS
            have m152 := hm15.keep wG kG2 (by simp)
            have mG2 := mG.keep w1q k2q (by simp; omega)
            have own2 := (ho.keep wG k1q (by simp)).keep w1q k2q (fun b hb hs => by have := (hbd b hb).1; simp at hs; omega)
            obtain ⟨qav, qzs, qm1, qm2, qm3, qm4, qm5⟩ := hK2.rlog.log
            rw [hti1] at qm3
            obtain ⟨qa, qc, rfl, _, qrow0⟩ := qm2.sl
            have hkl : k < (List.drop (i + 1 - n) (List.take (i + 1) l)).length := (List.getElem?_eq_some_iff.1 hx).1
            have hkl' : i + 1 - n + k < i + 1 := by simp at hkl; omega
            obtain ⟨⟨zr, zq⟩, hz⟩ : ∃ z, qzs[i + 1 - n + k]? = some z := ⟨_, List.getElem?_eq_getElem (by omega)⟩
            obtain ⟨x', y1, y2, y3, y4⟩ := qm4 _ _ hz
            have hxx : x' = x := by
              rw [List.getElem?_drop] at hx
              rw [hx] at y1
              exact (Option.some.inj y1).symm
            subst hxx
            simp only at y2 y3
            subst y2
            obtain ⟨qb', qo, qsp, rfl, qrow⟩ := qrow0 (by omega)
            have qr := AH.row_sub qrow ((i + 1 - n + k) * 2) 2 (by rw [flat_length]; omega)
            rw [flat_get _ _ _ hz] at qr
            have c8 := hK2.ref.cel 0
            have cq := qm1.cel 1
            have c15 := m152.cel 0
            have rG := mG2.row 0 2 (by simp)
            simp at c8 cq c15 rG qr
            rw [qm3] at cq
            have hxf : x'.path.length * 8 ≤ 140737488351232 := hK2.log.fits x' (by rw [List.getElem?_drop] at hx; exact List.mem_of_getElem? hx)
            have hlt : ((i + 1 - n : Nat) : Int) + (k : Int) < (i : Int) + 1 := by omega
            have hge : 0 ≤ ((i + 1 - n : Nat) : Int) + (k : Int) := by omega
            have htn : (((i + 1 - n : Nat) : Int) + (k : Int)).toNat = i + 1 - n + k := by omega
            have vs1 : vsame 5 (.agg ⟨[.int .i64 x'.rule, pv]⟩) (.agg ⟨[.int .i64 x'.rule, pv]⟩) = true := by
              obtain ⟨q1, q2, rfl, _⟩ := own2.sl
              exact vsame_agg 4 _ (by simp)
            have vs2 : vsame 5 (.agg ⟨[.int .i64 x'.rule, zq]⟩) (.agg ⟨[.int .i64 x'.rule, zq]⟩) = true := by
              obtain ⟨q1, q2, rfl, _⟩ := y3
              exact vsame_agg 4 _ (by simp)
            refine W.draw [0, 1, 2, 3, 4, 5, 6, 7, 8, 9, 10, 11, 12, 13, 14, 15, 16, 17, 18, 19, 20, 21, 22, 23] [0, 0, 3, 7, 15, 15, 47, 111, 239, 495, 1023, 2047, 4095, 8191, 8191, 24575, 57343, 122879, 8191, 516095, 1040383, 2097151, 4194303, 8388607] rfl (by kernel_rfl) (by kernel_rfl) (by kernel_rfl) ?_
            simp [c15, c8, cq, rG, qr, hlt, hge, htn, f8]
            refine FW.mono (sameFired_ok w2q own2.sl y3 (by omega)) ?_
            rintro v G3 ⟨kq3, wq3, rfl⟩
            have d15 := (m152.keep w2q kq3 (by simp)).cel 0
            have d8 := (hK2.ref.keep w2q kq3 (by simp)).cel 0
            have dq := (qm1.keep w2q kq3 (by simp)).cel 1
            have dG := AH.row_keep rG w2q kq3 (by simp)
            have dr := AH.row_keep qr w2q kq3 (by simp)
            simp at d15 d8 dq
            rw [qm3] at dq
            simp [c15, c8, cq, rG, qr, hlt, hge, htn, f8, d15, d8, dq, dG, dr, vs1, vs2, Nat.testBit_eq_decide_div_mod_eq]
            have own3 := own2.keep w2q kq3 (by simp)
            have mG3 := mG2.keep w2q kq3 (by simp)
            have m153 := m152.keep w2q kq3 (by simp)
            have hnb : ∀ b ∈ blkOf pv, H6.next ≤ b ∧ b < Hc.next := hbd
            have hpc := own3.isCells
            have hoc := ho.isCells
            obtain ⟨pa, pc, rfl, _, prow⟩ := own3.sl
            refine W.loop (fun mm fr G' => ∃ j, mm = x'.path.length - j ∧ j ≤ x'.path.length ∧ Keep G3 G' (blkOf (.slice pa x'.path.length pc)) ∧ WF G' ∧ (∀ pb po psp, pa = some ⟨pb, po, psp⟩ → ∀ j', j' < x'.path.length → G'.canPut pb (po + j') 1) ∧ fr.n = 174 ∧ fr.ds = [] ∧ tget fr.tm 15 = .pointer (some ⟨G4.next, 0, none⟩) ∧ tget fr.tm 17 = .pointer (some ⟨G.next, 0, none⟩) ∧ tget fr.tm 19 = .int .i64 (j : Nat)) ?_ (m := x'.path.length)
              ⟨0, by omega, by omega, Keep.refl _ _, wq3, fun pb po psp e j' hj' => own3.canPut (by rw [e]) (by omega), by simp⟩
            rintro mm ⟨tm3, nn3, ds3, rnd3⟩ G' ⟨j, rfl, hj, kj, wj, hcp, hn3, hds3, e15, e17, e19⟩
            simp only at hn3 hds3 e15 e17 e19
            subst hn3 hds3
            refine wp_ok _ _ _ _ ?_
            have mj := mG3.keep wq3 kj (fun h => by have := (hnb _ h).2; omega)
            have cj := mj.cel 1
            simp at cj
            by_cases hjl : j < x'.path.length
            · obtain ⟨pb, po, psp, rfl, _⟩ := prow (by omega)
              have cpj := hcp pb po psp rfl j hjl
              simp [e15, e17, e19, cj, hjl, cpj]
              refine ⟨_, ?_, j + 1, rfl, by omega, kj.trans (Keep.put _ _ _ _ (by simp [blkOf])), wj.put _ _ _, fun j' hj' => ?_, ?_⟩
              · omega
              · exact (hcp _ _ _ rfl j' hj').put
              · rw [awrap_id (by omega) (by omega)]; simp
            · have hjl' : j = x'.path.length := by omega
              subst hjl'
              have m15j := m153.keep wq3 kj (fun h => by have := (hnb _ h).1; omega)
              have c15j := m15j.cel 0
              simp at c15j
              simp [e15, e17, e19, cj, c15j, m15j.canPut (o := 0) (n := 1) (by simp)]
              have hk1 : awrap .i64 (((i + 1 - n : Nat) : Int) + (k : Int) + 1) = ((i + 1 - n + (k + 1) : Nat) : Int) := by rw [awrap_id (by omega) (by omega)]; omega
              rw [hk1]
              have kF : Keep G (G'.put G4.next 0 [.int .i64 ((i + 1 - n + (k + 1) : Nat) : Int)]) ((G4.next + 1 + 1 + 1) :: G4.next :: blkOf (.slice pa x'.path.length pc)) :=
                (((kG2.trans (kq3.mono (by simp))).mono (by simp)).trans (kj.mono (by simp +contextual))).trans (Keep.put _ _ _ _ (by simp))
              have wF := wj.put G4.next 0 [.int .i64 ((i + 1 - n + (k + 1) : Nat) : Int)]
              have gF : (G'.put G4.next 0 [.int .i64 ((i + 1 - n + (k + 1) : Nat) : Int)]).get (G4.next + 1 + 1 + 1) = some (.loop o2) := by
                rw [AH.put_get_ne _ _ (by omega)]
                refine kj.get_eq wq3 (kq3.get_eq w2q ho2 (by simp)) (fun h => ?_)
                have := (hnb _ h).1
                omega
              refine ⟨o2, gF, ?_⟩
              simp only [ho2']
              generalize hGF : G'.put G4.next 0 [.int .i64 ((i + 1 - n + (k + 1) : Nat) : Int)] = GF at *
              have wL := wF.set (.loop o0) (get_lt wF gF)
              have kL : Keep G (GF.set (G4.next + 1 + 1 + 1) (.loop o0)) ((G4.next + 1 + 1 + 1) :: G4.next :: blkOf (.slice pa x'.path.length pc)) :=
                kF.trans (Keep.set _ _ _ (by simp))
              have hSS : ∀ b ∈ ((G4.next + 1 + 1 + 1) :: G4.next :: blkOf (.slice pa x'.path.length pc)), b ≠ H.next ∧ b ≠ H3.next ∧ ¬ F2 b ∧ ¬ FR3 b ∧ N ≤ b := fun b hb => by
                simp only [List.mem_cons] at hb
                rcases hb with rfl | rfl | hb
                · exact hyS _ (by simp)
                · refine ⟨by omega, by omega, fun h => by have := o4 _ h; omega, fun h => by have := oR4 _ h; omega, by omega⟩
                · have := hnb b hb
                  refine ⟨by omega, by omega, fun h => by have := o4 _ h; omega, fun h => by have := oR4 _ h; omega, by omega⟩
              refine ⟨(G4.next + 1 + 1 + 1) :: G4.next :: blkOf (.slice pa x'.path.length pc), kL, wL, fun b hb => ?_, .inl ⟨trivial, hKG.keep wL kL hSS, ?_, ?_, ?_⟩⟩
              · simp only [List.mem_cons] at hb
                rcases hb with rfl | rfl | hb
                · exact .inl (by omega)
                · exact .inl (by omega)
                · exact .inr (.inr hb)
              · have q := (hGF ▸ m15j.put 0 [.int .i64 ((i + 1 - n + (k + 1) : Nat) : Int)] (by simp) : Mem GF G4.next _ false 1).keep wF (Keep.set GF (G4.next + 1 + 1 + 1) (.loop o0) (S := [G4.next + 1 + 1 + 1]) (by simp)) (by simp)
                simpa using q
              · rw [AH.get_set, if_pos rfl, ho0]; rfl
              · exact hMk.keep wG kL fun b hb => by
                  simp only [List.mem_cons] at hb
                  rcases hb with rfl | rfl | hb
                  · rw [hyl]; simp
                  · obtain ⟨q, hq⟩ := hm15.get; rw [hq]; simp
                  · obtain ⟨q, hq⟩ := hoc b hb; rw [hq]; simp
          · rintro G wG ⟨hKG, hm15, hyl, hMk⟩
            refine AfterLoop.mk hyl (by rw [← hobj]; rfl) (by rw [← hobj]; rfl) ?_
            have hy := get_lt wG hyl
            generalize hG1 : AH.set G (G4.next + 1 + 1 + 1) _ = G1
            have k1q : Keep G G1 [G4.next + 1 + 1 + 1] := by rw [← hG1]; exact Keep.set _ _ _ (by simp)
            have w1q : WF G1 := by rw [← hG1]; exact wG.set _ hy
            have hyS : ∀ b ∈ [G4.next + 1 + 1 + 1], b ≠ H.next ∧ b ≠ H3.next ∧ ¬ F2 b ∧ ¬ FR3 b ∧ N ≤ b := fun b hb => by
              simp at hb; subst hb
              refine ⟨by omega, by omega, fun h => by have := o4 _ h; omega, fun h => by have := oR4 _ h; omega, by omega⟩
            have hK1 := hKG.keep w1q k1q hyS
            have m151 := hm15.keep wG k1q (by simp)
            have hM1 := hMk.keep wG k1q (by intro b hb; simp at hb; subst hb; rw [hyl]; simp)
            obtain ⟨qav, qzs, qm1, qm2, qm3, _⟩ := hK1.rlog.log
            rw [hti1] at qm3
            obtain ⟨qa, qc, rfl, _⟩ := qm2.sl
            have hxl : i + 1 - n + (List.drop (i + 1 - n) (List.take (i + 1) l)).length = i + 1 := by simp; omega
            rw [hxl] at m151
            have c8 := hK1.ref.cel 0
            have cq := qm1.cel 1
            have c15 := m151.cel 0
            simp at c8 cq c15
            rw [qm3] at cq
            simp
            refine W.draw [0, 1, 2, 3, 4, 5, 6] [0, 0, 2, 6, 14, 30, 63] rfl (by kernel_rfl) (by kernel_rfl) (by kernel_rfl) ?_
            simp [c15, c8, cq, f8, f10]
            refine ⟨_, ?_, i + 1, rfl, by omega, by omega, ⟨F2, FR3, hK1⟩, hM1, ?_⟩
            · omega
            · rw [awrap_id (by omega) (by omega)]; simp [f1, f4, f6, f8]
    · have hend : FW C 5 [] H (fun _ _ => True) → True := fun _ => trivial
      have cput := hK.res.canPut (o := 0) (n := 1) (by simp)
      have m4 := hK.res.put 0 [.bool true] (by simp)
      simp at m4
      have hM' : Marks (G.put H.next 0 [.bool true]) ds := hM.keep hK.wf (Keep.put _ _ _ _ (S := [H.next]) (by simp)) (by
        intro b hb
        simp at hb; subst hb
        obtain ⟨k, hk⟩ := hK.res.get
        rw [hk]; simp)
      by_cases h01 : i < l.length
      · have h02' : ¬ (i : Int) < 1500 := by omega
        simp [f1, f4, f6, f8, f10, h01, h02', cput]
        exact end_cell2 hM' m4 rfl
      · simp [f1, f4, f6, f8, f10, h01, cput]
        exact end_cell2 hM' m4 rfl
end Go.Eng.R
