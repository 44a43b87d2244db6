/- The ring of a log: going through its entries. -/
import Derived.Test.YtcnamndapofimaaGreatDoorRgE
namespace Go.Eng.R
open Go Go.Eng Go.Proofs
def flat (zs : List (Int × Value)) : List Value := zs.flatMap fun z => [.int .i64 z.1, z.2]
theorem flat_length (zs : List (Int × Value)) : (flat zs).length = zs.length * 2 := by
  induction zs with
  | nil => rfl
  | cons z zs ih => simp [flat] at ih ⊢; omega
theorem flat_append (zs ys : List (Int × Value)) : flat (zs ++ ys) = flat zs ++ flat ys := by simp [flat]
theorem flat_get : ∀ (zs : List (Int × Value)) (k : Nat) (z : Int × Value), zs[k]? = some z → ((flat zs).drop (k * 2)).take 2 = [.int .i64 z.1, z.2]
  | [], k, z, h => by simp at h
  | y :: zs, 0, z, h => by simp at h; subst h; simp [flat]
  | y :: zs, k + 1, z, h => by
    have := flat_get zs k z (by simpa using h)
    rw [show (k + 1) * 2 = k * 2 + 2 by omega]
    simpa [flat] using this
/-- What is gone through: copies of entries, in memory of their own. -/
structure ListAt (H : AH) (lo : Nat) (av : Value) (zs : List (Int × Value)) (xs : List Fd) : Prop where
  own : Own H av zs.length 2 (flat zs)
  len : zs.length = xs.length
  blk : ∀ b ∈ blkOf av, lo ≤ b
  ent : ∀ (k : Nat) (z : Int × Value), zs[k]? = some z → ∃ x : Fd, xs[k]? = some x ∧ z.1 = x.rule ∧ Own H z.2 x.path.length 1 (ints x.path) ∧ ∀ b ∈ blkOf z.2, lo ≤ b ∧ b ∉ blkOf av
  apart : ∀ (j k : Nat) (y z : Int × Value) (b : Nat), j ≠ k → zs[j]? = some y → zs[k]? = some z → b ∈ blkOf y.2 → b ∉ blkOf z.2
theorem ListAt.keep {H H' : AH} {lo : Nat} {av : Value} {zs : List (Int × Value)} {xs : List Fd} (h : ListAt H lo av zs xs) (w : WF H) (k : Keep H H' []) : ListAt H' lo av zs xs :=
  ⟨h.own.keep w k (by simp), h.len, h.blk, fun i z hz => by obtain ⟨x, h1, h2, h3, h4⟩ := h.ent i z hz; exact ⟨x, h1, h2, h3.keep w k (by simp), h4⟩, h.apart⟩
theorem ListAt.nil (H : AH) (lo : Nat) : ListAt H lo (.slice none 0 0) [] [] :=
  ⟨Own.nil H 2, rfl, by simp [blkOf], by simp, by simp⟩
set_option maxRecDepth 100000 in
theorem all39_ok {H : AH} {g : Value} (hg : cellsOfV g = [g]) : FW C 39 [g] H fun v H' => v = .func (.func 89) ⟨[]⟩ ⟨[.pointer (some ⟨H.next, 0, none⟩)]⟩ ∧ H' = H.new [g] := by
  refine FW.walk (n := 4) (rs := [.tmp 2]) rfl fn39 rfl rfl rfl ?_
  simp [hg]
/-- Where the loop that gathers the copies stands. -/
def Gath (H : AH) (cb gb rb most : Nat) (es : List Fd) (F : Nat → Prop) (yv : Value) (i : Nat) (fr : AFr) (H' : AH) : Prop :=
  ∃ av zs, es.length - min es.length most ≤ i ∧ i ≤ es.length ∧ Keep H H' [] ∧ WF H' ∧ LogAt H' gb rb most es F ∧ ListAt H' H.next av zs ((es.drop (es.length - min es.length most)).take (i - (es.length - min es.length most))) ∧
    fr.n = 56 ∧ fr.ds = [] ∧ fr.rnd = none ∧ tget fr.tm 0 = yv ∧ tget fr.tm 1 = .pointer (some ⟨cb, 0, none⟩) ∧ tget fr.tm 3 = .int .i64 (min es.length most : Nat) ∧ tget fr.tm 4 = .int .i64 (es.length : Nat) ∧ tget fr.tm 5 = av ∧ tget fr.tm 6 = .int .i64 (i : Nat)
theorem CW.mono {C : Ctx} {t : ATgt} {H : AH} {Q Q' : Value → AH → Prop} (h : CW C t H Q) (k : ∀ v H', Q v H' → Q' v H') : CW C t H Q' := by
  obtain ⟨v, H', r, q⟩ := h; exact ⟨v, H', r, k _ _ q⟩
/-- The body of a loop over the entries, seen from the loop: I holds ahead of each round, Q behind the last one. -/
def Client (H H2 : AH) (yl : Nat) (base : Nat) (xs : List Fd) (Q : AH → Prop) : Prop := ∃ I : Nat → AH → Prop,
  I 0 H2 ∧ (∀ k G G', I k G → WF G → Keep G G' [] → WF G' → I k G') ∧
  (∀ k x G pv, xs[k]? = some x → I k G → WF G → H2.next ≤ G.next → Own G pv x.path.length 1 (ints x.path) → (∀ b ∈ blkOf pv, H.next ≤ b ∧ b < H2.next) →
    CW C (.round yl [.int .i64 ((base + k : Nat) : Int), .agg ⟨[.int .i64 x.rule, pv]⟩]) G fun v G' => ∃ S, Keep G G' S ∧ WF G' ∧ (∀ b ∈ S, b < H.next ∨ H2.next ≤ b ∨ b ∈ blkOf pv) ∧ (v = .bool true ∧ I (k + 1) G' ∨ v = .bool false ∧ Q G')) ∧
  ∀ G, WF G → I xs.length G → Q G
set_option maxRecDepth 100000 in
theorem gath_ok {H : AH} {cb gb rb most yl : Nat} {es : List Fd} {F : Nat → Prop} {Q : AH → Prop} (w : WF H) (L : LogAt H gb rb most es F) (hs : es.length < 4611686018427387904) (hmost : most ≤ 1000)
    (hc : Mem H cb [.pointer (some ⟨gb, 0, none⟩)] false 1)
    (hcl : ∀ H2, Keep H H2 [] → WF H2 → LogAt H2 gb rb most es F → Client H H2 yl (es.length - min es.length most) (es.drop (es.length - min es.length most)) Q) :
    FW C 89 [.func (.yield yl) ⟨[]⟩ ⟨[]⟩, .pointer (some ⟨cb, 0, none⟩)] H fun _ H' => Q H' := by
  refine FW.walk (n := 56) (rs := []) rfl fn89 rfl rfl rfl ?_
  have c0 := hc.cel 0
  simp at c0
  simp [c0]
  refine FW.mono (len_ok L) ?_
  rintro v H1 ⟨rfl, rfl⟩
  simp
  refine W.loop (fun k fr H' => ∃ i, k = es.length - i ∧ Gath H1 cb gb rb most es F (.func (.yield yl) ⟨[]⟩ ⟨[]⟩) i fr H') ?_ (m := min es.length most) ⟨es.length - min es.length most, by omega, .slice none 0 0, [], by omega, by omega, Keep.refl _ _, w, L, by simpa using ListAt.nil H1 H1.next, ?_⟩
  · rintro k ⟨tm, n, ds, rnd⟩ H2 ⟨i, rfl, av, zs, hi1, hi2, k2, w2, L2, A2, hn, hds, hrnd, g0, g1, g3, g4, g5, g6⟩
    simp only at hn hds hrnd g0 g1 g3 g4 g5 g6
    subst hn hds hrnd
    refine wp_ok _ _ _ _ ?_
    by_cases h0 : i < es.length
    · simp [g0, g1, g3, g4, g5, g6, h0]
      refine W.draw [0, 1, 2, 3, 4, 5, 6, 7, 8, 9, 10, 11, 12, 13, 14, 15, 16, 17] [0, 0, 2, 6, 14, 0, 0, 64, 192, 448, 960, 2016, 4094, 8190, 16382, 32766, 65535, 131071] rfl (by kernel_rfl) (by kernel_rfl) (by kernel_rfl) ?_
      obtain ⟨cs, r1, r2, r3⟩ := L2.ring
      obtain ⟨pv, q1, q2, q3, q4⟩ := r3 i es[i] (List.getElem?_eq_getElem h0) (by omega)
      have hm : (most : Int) ≠ 0 := by have := L.pos; omega
      have hm' : ¬ most = 0 := by have := L.pos; omega
      have ht : Int.tmod (i : Int) (most : Int) = ((i % most : Nat) : Int) := (Int.ofNat_tmod _ _).symm
      have hj : i % most < most := Nat.mod_lt _ L.pos
      generalize hx : i % most = j at ht hj q1 q2
      have rowi := r1.row2 q1 q2
      have d0 := L2.log.cel 0
      have hc2 := hc.keep w k2 (by simp)
      have dc := hc2.cel 0
      simp at d0 dc
      have hpv : vsame 5 (.agg ⟨[.int .i64 es[i].rule, pv]⟩) (.agg ⟨[.int .i64 es[i].rule, pv]⟩) = true := by
        obtain ⟨a, c, rfl, _⟩ := q3
        exact vsame_agg 4 _ (by simp)
      simp [g0, g1, g3, g4, g5, g6, h0, d0, dc, ht, hm, hm', hj, rowi]
      refine FW.mono (own_ok w2 q3 (Nat.le_trans (L.fits _ (List.getElem_mem h0)) (by decide))) ?_
      rintro v H3 ⟨pv', rfl, ho, k3, w3, hb3⟩
      have L3 := L2.keep w2 k3 (by simp)
      have A3 := A2.keep w2 k3
      have e0 := L3.log.cel 0
      have hc3 := hc2.keep w2 k3 (by simp)
      have ec := hc3.cel 0
      have rowj := (r1.keep w2 k3 (by simp)).row2 q1 q2
      simp at e0 ec
      have hsl : slB C 68 1 [(0, .agg ⟨[.int .i64 es[i].rule, pv']⟩)] = some { n := 2, sz := 2, tr := T.lay [.int .i64 es[i].rule, pv'] .leaf 0, zero := [.int .i64 0, .slice none 0 0] } := by
        have := slB_one (C := C) (t := 68) (v := .agg ⟨[.int .i64 es[i].rule, pv']⟩) ti68 t68_desc ti77 (by simp) (by simp) (by simp) (by simp)
        simpa using this
      have m4 := Mem.push_lay H3 2 [.int .i64 0, .slice none 0 0] [.int .i64 es[i].rule, pv'] (n := 2) (by simp)
      have k4 := Keep.push H3 (.cells { n := 2, sz := 2, tr := T.lay [.int .i64 es[i].rule, pv'] .leaf 0, zero := [.int .i64 0, .slice none 0 0] }) []
      have w4 := w3.push (.cells { n := 2, sz := 2, tr := T.lay [.int .i64 es[i].rule, pv'] .leaf 0, zero := [.int .i64 0, .slice none 0 0] })
      have s4 : SlAt (H3.push (.cells { n := 2, sz := 2, tr := T.lay [.int .i64 es[i].rule, pv'] .leaf 0, zero := [.int .i64 0, .slice none 0 0] })) (.slice (some ⟨H3.next, 0, none⟩) 1 1) 1 [.int .i64 es[i].rule, pv'] :=
        ⟨_, 1, rfl, by simp, fun _ => ⟨H3.next, 0, none, rfl, m4.row 0 2 (by simp)⟩⟩
      have hlen : zs.length ≤ 1000 := by rw [A2.len]; simp; omega
      obtain ⟨av', H5, e5, ho5, k5, w5, hb5⟩ := app_own (C := C) (t := 68) (u := 68) ti68 t68_desc ti77 ti68 t68_desc (by rw [t77_size]; exact A3.own.keep w3 k4 (by simp)) s4 (by simp) w4 (by simp) (by simp) (by simp [ho.one]) (by simp; omega)
      have e5' := e5
      simp at e5'
      simp [d0, dc, rowi, ht, hm, hm', hj, e0, ec, rowj, hsl, e5', Nat.testBit_eq_decide_div_mod_eq, hpv, g0, g1, g3, g4, g5, g6]
      have hav : ∀ b ∈ blkOf av, H1.next ≤ b := A2.blk
      have k14 := (k2.trans k3).trans k4
      have k15 := k14.fresh k5 hav
      have L5 : LogAt H5 gb rb most es F := (L3.keep w3 k4 (by simp)).keep w4 k5 fun b hb hF => by have := hav b hb; have := L.old b hF; omega
      have hn3 : H1.next ≤ H3.next := Nat.le_trans k2.next k3.next
      have hn4 : ∀ b, (H3.push (.cells { n := 2, sz := 2, tr := T.lay [.int .i64 es[i].rule, pv'] .leaf 0, zero := [.int .i64 0, .slice none 0 0] })).next ≤ b → H3.next + 1 ≤ b := fun b h => h
      have hnot : ∀ b, b < H3.next → b ∉ blkOf av → b ∉ blkOf av' := fun b h1 h2 h3 => by
        rcases hb5 b h3 with h | h
        · exact h2 h
        · have := hn4 b h; omega
      have hpn : ∀ b ∈ blkOf pv', b ∉ blkOf av := fun b hb h => by have := hb3 b hb; have := A2.own.lt w2 b h; omega
      have hbase : es.length - min es.length most ≤ i := hi1
      have htk : (es.drop (es.length - min es.length most)).take (i + 1 - (es.length - min es.length most)) = (es.drop (es.length - min es.length most)).take (i - (es.length - min es.length most)) ++ [es[i]] := by
        rw [show i + 1 - (es.length - min es.length most) = i - (es.length - min es.length most) + 1 by omega, List.take_succ_eq_append_getElem (by simp; omega)]
        simp [show es.length - min es.length most + (i - (es.length - min es.length most)) = i by omega]
      refine ⟨_, ?_, i + 1, rfl, av', zs ++ [(es[i].rule, pv')], by omega, by omega, k15, w5, L5, ⟨?_, ?_, ?_, ?_, ?_⟩, ?_⟩
      · omega
      · have : flat (zs ++ [(es[i].rule, pv')]) = flat zs ++ [.int .i64 es[i].rule, pv'] := by simp [flat_append, flat]
        rw [this]
        simpa using ho5
      · rw [htk, List.length_append, List.length_append, A2.len]; rfl
      · intro b hb
        rcases hb5 b hb with h | h
        · exact hav b h
        · have := hn4 b h; omega
      · intro k z hz
        rw [htk]
        by_cases hk : k < zs.length
        · rw [List.getElem?_append_left hk] at hz
          obtain ⟨x, x1, x2, x3, x4⟩ := A3.ent k z hz
          refine ⟨x, ?_, x2, (x3.keep w3 k4 (by simp)).keep w4 k5 fun b hb => (x4 b hb).2, fun b hb => ⟨(x4 b hb).1, hnot b (x3.lt w3 b hb) (x4 b hb).2⟩⟩
          rw [List.getElem?_append_left (by rw [← A2.len]; exact hk)]; exact x1
        · have hk2 : k = zs.length := by
            have := (List.getElem?_eq_some_iff.1 hz).1
            simp at this; omega
          subst hk2
          rw [List.getElem?_append_right (Nat.le_refl _)] at hz
          simp at hz
          subst hz
          refine ⟨es[i], ?_, rfl, (ho.keep w3 k4 (by simp)).keep w4 k5 hpn, fun b hb => ⟨?_, hnot b (ho.lt w3 b hb) (hpn b hb)⟩⟩
          · rw [A2.len, List.getElem?_append_right (Nat.le_refl _)]; simp
          · have := hb3 b hb; have := k2.next; omega
      · intro j1 k1 y z b hne hy hz hb hb'
        have hnew : ∀ k (z : Int × Value), (zs ++ [(es[i].rule, pv')])[k]? = some z → k < zs.length ∧ zs[k]? = some z ∨ k = zs.length ∧ z = (es[i].rule, pv') := fun k z hz => by
          by_cases hk : k < zs.length
          · rw [List.getElem?_append_left hk] at hz; exact .inl ⟨hk, hz⟩
          · have hk2 : k = zs.length := by
              have := (List.getElem?_eq_some_iff.1 hz).1
              simp at this; omega
            subst hk2
            rw [List.getElem?_append_right (Nat.le_refl _)] at hz
            simp at hz
            exact .inr ⟨rfl, hz.symm⟩
        have hold : ∀ k (z : Int × Value), zs[k]? = some z → ∀ b ∈ blkOf z.2, b < H2.next := fun k z hz b hb => by
          obtain ⟨x, _, _, x3, _⟩ := A2.ent k z hz
          exact x3.lt w2 b hb
        rcases hnew j1 y hy with ⟨p1, p2⟩ | ⟨p1, p2⟩
        · rcases hnew k1 z hz with ⟨p3, p4⟩ | ⟨p3, p4⟩
          · exact A2.apart j1 k1 y z b hne p2 p4 hb hb'
          · subst p4; have := hold _ _ p2 b hb; have := hb3 b hb'; omega
        · rcases hnew k1 z hz with ⟨p3, p4⟩ | ⟨p3, p4⟩
          · subst p2; have := hold _ _ p4 b hb'; have := hb3 b hb; omega
          · omega
      · rw [awrap_id (by omega) (by omega)]; simp [g0, g1, g3, g4]
    · have : i = es.length := by omega
      subst this
      have hbl : es.length - (es.length - min es.length most) = min es.length most := by omega
      have hA : ListAt H2 H1.next av zs (es.drop (es.length - min es.length most)) := by
        have e : (es.drop (es.length - min es.length most)).take (es.length - (es.length - min es.length most)) = es.drop (es.length - min es.length most) := List.take_of_length_le (by simp)
        rw [e] at A2; exact A2
      obtain ⟨I, hI0, hIst, hIstep, hIend⟩ := hcl H2 k2 w2 L2
      have hzl : zs.length = min es.length most := by rw [hA.len]; simp; omega
      have hsl := hA.own.sl
      have hbk := hA.blk
      have hbl2 := hA.own.lt w2
      have hent := hA.ent
      have hap := hA.apart
      have hxl := hA.len
      clear hA A2
      obtain ⟨a, c, rfl, _, _⟩ := id hsl
      simp [g0, g1, g3, g4, g5, g6]
      refine W.loop (fun m fr G => ∃ k, m = zs.length - k ∧ k ≤ zs.length ∧ I k G ∧ WF G ∧ H2.next ≤ G.next ∧ SlAt G (.slice a zs.length c) zs.length (flat zs) ∧
        (∀ j z, k ≤ j → zs[j]? = some z → ∃ x : Fd, (es.drop (es.length - min es.length most))[j]? = some x ∧ z.1 = x.rule ∧ Own G z.2 x.path.length 1 (ints x.path)) ∧
        fr.n = 56 ∧ fr.ds = [] ∧ tget fr.tm 0 = .func (.yield yl) ⟨[]⟩ ⟨[]⟩ ∧ tget fr.tm 3 = .int .i64 (min es.length most : Nat) ∧ tget fr.tm 4 = .int .i64 (es.length : Nat) ∧ tget fr.tm 39 = .slice a zs.length c ∧ tget fr.tm 40 = .int .i64 (zs.length : Nat) ∧ tget fr.tm 41 = .int .i64 (k : Nat)) ?_ (m := zs.length)
        ⟨0, by omega, by omega, hI0, w2, Nat.le_refl _, hsl, fun j z _ hz => by obtain ⟨x, x1, x2, x3, _⟩ := hent j z hz; exact ⟨x, x1, x2, x3⟩, by simp [g0, g1, g3, g4, g5, g6]⟩
      rintro m ⟨tm, n, ds, rnd⟩ G ⟨k, rfl, hk, hI, wG, hGn, hs2, hrest, hn, hds, f0, f3, f4, f39, f40, f41⟩
      simp only at hn hds f0 f3 f4 f39 f40 f41
      subst hn hds
      refine wp_ok _ _ _ _ ?_
      by_cases hkl : k < zs.length
      · obtain ⟨⟨r, pv⟩, hz⟩ : ∃ z, zs[k]? = some z := ⟨_, List.getElem?_eq_getElem hkl⟩
        obtain ⟨x, x1, x2, x3⟩ := hrest k _ (Nat.le_refl _) hz
        simp only at x2 x3
        subst x2
        obtain ⟨a', c', ea, _, hrow0⟩ := id hs2
        cases ea
        obtain ⟨b, o, sp, rfl, hrow⟩ := hrow0 (by omega)
        have hr2 := AH.row_sub hrow (k * 2) 2 (by rw [flat_length]; omega)
        rw [flat_get _ _ _ hz] at hr2
        have mG := (Mem.new G [.int .i64 0, .slice none 0 0]).put 0 [.int .i64 x.rule, pv] (by simp)
        have cG := (Mem.new G [.int .i64 0, .slice none 0 0]).canPut (o := 0) (n := 2) (by simp)
        have kG : Keep G ((G.new [.int .i64 0, .slice none 0 0]).put G.next 0 [.int .i64 x.rule, pv]) [] := (Keep.new _ _ _).fresh (Keep.put _ G.next 0 _ (S := [G.next]) (by simp)) (by simp)
        have wG2 := (wG.new [.int .i64 0, .slice none 0 0]).put G.next 0 [.int .i64 x.rule, pv]
        have rG := mG.row 0 2 (by simp)
        simp at rG
        have hw1 : awrap .i64 ((es.length : Int) - (min es.length most : Nat)) = ((es.length - min es.length most : Nat) : Int) := by rw [awrap_id (by omega) (by omega)]; omega
        have hw2 : awrap .i64 (((es.length - min es.length most : Nat) : Int) + (k : Nat)) = ((es.length - min es.length most + k : Nat) : Int) := by rw [awrap_id (by omega) (by omega)]; omega
        have hbnd : ∀ b ∈ blkOf pv, H1.next ≤ b ∧ b < H2.next := fun b hb => by
          obtain ⟨y, _, _, y3, y4⟩ := hent k _ hz
          exact ⟨(y4 b hb).1, y3.lt w2 b hb⟩
        simp [f0, f3, f4, f39, f40, f41, hkl, hr2, x3.one, cG, rG, hw1, hw2]
        refine CW.mono (hIstep k x _ pv x1 (hIst k _ _ hI wG kG wG2) wG2 (by simp; omega) (x3.keep wG kG (by simp)) hbnd) ?_
        rintro v G' ⟨S, kS, wS, hS, hv⟩
        have kG' := (kG.mono (S' := S) (by simp)).trans kS
        have hav : ∀ b' ∈ blkOf (Value.slice (some ⟨b, o, sp⟩) zs.length c), b' ∉ S := fun b' hb hs => by
          have h1 := hbk b' hb
          have h2 := hbl2 b' hb
          rcases hS b' hs with h | h | h
          · omega
          · omega
          · obtain ⟨y, _, _, _, y4⟩ := hent k _ hz
            exact (y4 b' h).2 hb
        have hs3 : SlAt G' (.slice (some ⟨b, o, sp⟩) zs.length c) zs.length (flat zs) := hs2.keep wG kG' fun b' _ hb => hav b' hb
        have hr3 : ∀ (j : Nat) (z : Int × Value), k + 1 ≤ j → zs[j]? = some z → ∃ x : Fd, (es.drop (es.length - min es.length most))[j]? = some x ∧ z.1 = x.rule ∧ Own G' z.2 x.path.length 1 (ints x.path) := fun j z hj hz' => by
          obtain ⟨y, y1, y2, y3⟩ := hrest j z (by omega) hz'
          refine ⟨y, y1, y2, y3.keep wG kG' fun b' hb hs => ?_⟩
          obtain ⟨y', _, _, z3, z4⟩ := hent j _ hz'
          have h1 := (z4 b' hb).1
          have h2 := z3.lt w2 b' hb
          rcases hS b' hs with h | h | h
          · omega
          · omega
          · exact hap j k _ _ b' (by omega) hz' hz hb h
        rcases hv with ⟨rfl, hI'⟩ | ⟨rfl, hQ⟩
        · simp [f0, f3, f4, f39, f40, f41]
          refine ⟨_, ?_, k + 1, rfl, by omega, hI', wS, ?_, hs3, fun j a b hj' hz' => by simpa using hr3 j (a, b) hj' hz', ?_⟩
          · omega
          · have := kG'.next; omega
          · rw [awrap_id (by omega) (by omega)]; simp [f0, f3, f4, f39, f40]
        · simp [f0, f3, f4, f39, f40, f41]
          exact hQ
      · have : k = zs.length := by omega
        subst this
        simp [f0, f3, f4, f39, f40, f41]
        exact hIend G wG (by rw [← hxl]; exact hI)
  · have hw1 : awrap .i64 ((es.length : Int) - (min es.length most : Nat)) = ((es.length - min es.length most : Nat) : Int) := by rw [awrap_id (by omega) (by omega)]; omega
    simp [hw1]
end Go.Eng.R
