/- What changes a block: append, copy, maps: sound. -/
import Derived.Test.YtcnamndapofimaaGreatDoorEngI
import Derived.RowKit3
namespace Go.Eng
open Go
section
variable {P : Program} {C : Ctx} {σ : Ren} {H : AH} {w : World}

theorem getD_append_left {l r : List Value} {i : Nat} (h : i < l.length) : (l ++ r).getD i undef = l.getD i undef := by
  simp [List.getD, List.getElem?_append_left h]
theorem arr_getD (a : Array Value) (i : Nat) : a.getD i undef = a.toList.getD i undef := by simp [List.getD]
/-- The block that a growing append makes. -/
theorem grown_rel [Base] {j : TI} {n m : Nat} {old new : List Value} {cold cnew : List Value} {e : TypeId} {rest : Array Value} {newCap : Nat} {cb : Nat} {w' : World}
    (ho : VRelL σ old cold) (hn : VRelL σ new cnew) (hol : old.length = n * j.size) (hnl : new.length = m * j.size) (hrest : rest.size = (newCap - (n + m)) * j.size) (_hcap : n + m ≤ newCap)
    (hw : w'.heap[cb]? = some (.cells ((⟨cold⟩ : Array Value) ++ ⟨cnew⟩ ++ rest) e)) :
    ORel σ w' cb 0 (newCap - (n + m)) (.cells { n := (n + m) * j.size, sz := j.size, tr := T.lay (old ++ new) .leaf 0, zero := j.zero }) := by
  have h1 := ho.length
  have h2 := hn.length
  refine ⟨_, e, _, hw, ?_, fun i hi => ?_, fun _ => rfl⟩
  · simp only [Array.size_append]
    show cold.length + cnew.length + rest.size = _
    rw [hrest, ← h1, ← h2, hol, hnl, Nat.add_mul]; omega
  · simp only at hi
    rw [Blk.cell_eq, T.get_lay]
    have hlen : (old ++ new).length = (n + m) * j.size := by rw [List.length_append, hol, hnl, Nat.add_mul]
    rw [if_pos ⟨Nat.zero_le _, by omega⟩, Nat.sub_zero, Nat.zero_add]
    have hr := getD_rel (ho.append hn) i
    rw [List.getElem?_eq_getElem (by omega)]
    rw [show (old ++ new).getD i undef = (old ++ new)[i]'(by omega) by simp [List.getD, List.getElem?_eq_getElem (show i < (old ++ new).length by omega)]] at hr
    rw [arr_getD]
    have : ((⟨cold⟩ : Array Value) ++ ⟨cnew⟩ ++ rest).toList = (cold ++ cnew) ++ rest.toList := by simp
    rw [this, getD_append_left (by rw [List.length_append, ← h1, ← h2]; simp at hlen; omega)]
    exact hr

theorem cond_some {α : Type} {c : Bool} {a : Option α} {v : α} (h : (bif c then a else none) = some v) : c = true ∧ a = some v := by
  cases c with
  | false => cases h
  | true => exact ⟨rfl, h⟩

set_option maxHeartbeats 1000000 in
theorem aappend_ok [Base] (hH : HRel σ H w) {e : TypeId} {j : TI} (Tj : TIok P e j) {s cs x : Value} {m : Nat} {new cnew : List Value} {zeros : Bool} {v : Value} {H' : AH}
    (hs : VRel σ s cs) (hn : VRelL σ new cnew)
    (hnew : ∀ w', w'.heap = w.heap → (if !zeros then Builtin.firstCells j.size m x else if m * j.size = 0 then pure #[] else do pure (Builtin.zeroCells (← zeroValue e).cells m) : Sem (Array Value)).run P w' = .ok ⟨cnew⟩ w')
    (h : aappend j H s m new = some (v, H')) :
    ∃ base sLen sCap, cs = .slice base sLen sCap ∧ ∃ cv w' σ', (appTail zeros e j.size base sLen sCap x m).run P w = .ok cv w' ∧ VRel σ' v cv ∧ Leads σ H w σ' H' w' := by
  unfold aappend at h
  have hh := cond_some h; clear h; obtain ⟨hz, h⟩ := hh
  simp only [Bool.and_eq_true, Nat.beq_eq, Nat.blt_eq] at hz
  obtain ⟨⟨hz1, hz2⟩, hz3⟩ := hz
  have hzs : j.zval.cells.size = j.size := hz1
  have hnl := hn.length
  split at h
  · rename_i len cap
    cases hs
    cases hle : Nat.ble (len + m) cap with
    | true =>
      rw [hle, cond_true] at h
      have hh := cond_some h; clear h; obtain ⟨hm, h⟩ := hh
      rw [Nat.beq_eq] at hm; subst hm
      cases h
      rw [Nat.ble_eq] at hle
      refine ⟨none, len, cap, rfl, _, w, σ, ?_, .nilSlice _ _, Leads.refl hH⟩
      rw [appTail_room hle (hnew w rfl)]
      rfl
    | false =>
      rw [hle, cond_false] at h
      have hh := cond_some h; clear h; obtain ⟨hc, h⟩ := hh
      simp only [Bool.and_eq_true, Nat.beq_eq, Nat.ble_eq] at hc
      obtain ⟨⟨rfl, rfl⟩, hb⟩ := hc
      cases h
      have hlt : ¬ (0 + m ≤ 0) := by
        intro hh
        have : Nat.ble (0 + m) 0 = true := by rw [Nat.ble_eq]; exact hh
        rw [hle] at this; cases this
      obtain ⟨newCap, h1, h2⟩ := appTail_grow (zeros := zeros) (base := none) (sCap := 0) (old := #[]) Tj hlt hz2 (by simpa using hb) (fun w' _ => rfl) hnew
      refine ⟨none, 0, 0, rfl, _, _, upd σ H.next (.to w.drew.heap.size 0 (newCap - (0 + m))), h2, ?_, (Leads.drew hH).trans (Leads.pushAt (e := newCap - (0 + m)) hH.drew ?_ rfl)⟩
      · have := VRel.slice (σ := upd σ H.next (.to w.drew.heap.size 0 (newCap - (0 + m)))) H.next 0 (some 0) m m w.drew.heap.size 0 (newCap - (0 + m)) (upd_self _ _ _)
        simp only [Option.isSome_some, if_true, Nat.add_zero, Nat.zero_add] at this
        rw [show m + (newCap - m) = newCap by omega] at this
        simpa using this
      · have hr : (Builtin.zeroCells j.zval.cells (newCap - (0 + m))).size = (newCap - (0 + m)) * j.size := by rw [zeroCells_size, hzs]
        have := grown_rel (j := j) (n := 0) (m := m) (old := []) (cold := []) (e := e) (cb := w.drew.heap.size) .nil hn (by simp) hz3 hr h1 (heap_alloc_new w.drew _)
        simpa using this
  · rename_i b o sp len cap
    split at h
    · rename_i k hk
      rcases hs.slice_inv with ⟨cb, δ, e', hb, hc⟩ | ⟨ca, k', hb, hc⟩
      · obtain ⟨ccs, t, fz, q1, q2, q3, q4⟩ := hH.cells hk hb
        subst hc
        refine ⟨_, _, _, rfl, ?_⟩
        have hdead : σ b ≠ .dead := hH.alive hk
        cases hle : Nat.ble (len + m) cap with
        | true =>
          rw [hle, cond_true] at h
          rw [Nat.ble_eq] at hle
          cases hro : k.ro with
          | true =>
            rw [hro, cond_true] at h
            have hh := cond_some h; clear h; obtain ⟨hm, h⟩ := hh
            rw [Nat.beq_eq] at hm; subst hm
            cases h
            have hroom : len + 0 ≤ (if sp.isSome = true then cap + e' else cap) := by split <;> omega
            have hnew0 : cnew = [] := by
              have : cnew.length = 0 := by rw [← hnl, hz3]; simp
              simpa using this
            refine ⟨.slice (some ⟨cb, o + δ, none⟩) (len + 0) (if sp.isSome = true then cap + e' else cap), w, σ, ?_, .slice _ _ _ _ _ _ _ _ hb, Leads.refl hH⟩
            rw [appTail_room hroom (hnew w rfl), hnew0]
            rfl
          | false =>
          rw [hro, cond_false] at h
          have hh := cond_some h; clear h; obtain ⟨hc, h⟩ := hh
          simp only [Bool.and_eq_true, Nat.ble_eq] at hc
          cases h
          have hroom : len + m ≤ (if sp.isSome = true then cap + e' else cap) := by split <;> omega
          have hfit : o + len * j.size + new.length ≤ k.n := by rw [hz3]; have := hc.1; rw [Nat.add_mul] at this; omega
          obtain ⟨w', h1, h2⟩ := store_ok (P := P) (o := o + len * j.size) hH hk hb hn hfit hc.2 hro
          rw [hro] at h2
          refine ⟨.slice (some ⟨cb, o + δ, none⟩) (len + m) (if sp.isSome = true then cap + e' else cap), w', σ, ?_, ?_, h2⟩
          · rw [appTail_room hroom (hnew w rfl)]
            simp only [Addr.add_lit]
            rw [show o + δ + len * j.size = o + len * j.size + δ by omega]
            rw [h1]
            rfl
          · exact .slice _ _ _ _ _ _ _ _ hb
        | false =>
          rw [hle, cond_false] at h
          have hle' : ¬ len + m ≤ cap := fun hh => by rw [← Nat.ble_eq, hle] at hh; cases hh
          have hh := cond_some h; clear h; obtain ⟨hc, h⟩ := hh
          simp only [Bool.and_eq_true, Nat.ble_eq] at hc
          obtain ⟨⟨hc1, hc2⟩, hc3⟩ := hc
          have hold : VRelL σ (acellsF k (len * j.size) o) ((List.range (len * j.size)).map fun i => ccs.getD (o + δ + i) undef) := acells_rel q3 _ _ hc2
          have hfirst : ∀ c w', w'.heap = w.heap → (Builtin.firstCells j.size len (.slice (some ⟨cb, o + δ, none⟩) len c)).run P w' = .ok ⟨(List.range (len * j.size)).map fun i => ccs.getD (o + δ + i) undef⟩ w' :=
            fun c w' hw => run_loadRow (w := w') (by rw [hw]; exact q1) (by omega)
          have hr : ∀ newCap, (Builtin.zeroCells j.zval.cells (newCap - (len + m))).size = (newCap - (len + m)) * j.size := fun newCap => by rw [zeroCells_size, hzs]
          split at h
          · cases h
            obtain ⟨newCap, h1, h2⟩ := appTail_grow (zeros := zeros) Tj hle' hz2 hc1 (hfirst cap) hnew
            refine ⟨_, _, upd σ H.next (.to w.drew.heap.size 0 (newCap - (len + m))), h2, ?_, (Leads.drew hH).trans (Leads.pushAt (e := newCap - (len + m)) hH.drew ?_ rfl)⟩
            · have := VRel.slice (σ := upd σ H.next (.to w.drew.heap.size 0 (newCap - (len + m)))) H.next 0 (some 0) (len + m) (len + m) w.drew.heap.size 0 (newCap - (len + m)) (upd_self _ _ _)
              simp only [Option.isSome_some, if_true, Nat.add_zero] at this
              rw [show len + m + (newCap - (len + m)) = newCap by omega] at this
              exact this
            · exact grown_rel (j := j) (n := len) (m := m) (e := e) (cb := w.drew.heap.size) hold hn (acellsF_length _ _ _) hz3 (hr newCap) h1 (heap_alloc_new w.drew _)
          · rename_i s0
            have hh := cond_some h; clear h; obtain ⟨hd, h⟩ := hh
            simp only [Bool.and_eq_true, Nat.beq_eq] at hd
            obtain ⟨⟨⟨hd1, hd2⟩, hd3⟩, hd4⟩ := hd
            have hro : k.ro = false := by simpa using hd4
            rw [q4 hro] at q1
            cases h
            simp only [Option.isSome_some, if_true]
            by_cases hroom : len + m ≤ cap + e'
            · -- in place
              have hcell1 := oneCells_ok hn hd3
              have hmul : (len + m) * j.size ≤ (cap + e') * j.size := Nat.mul_le_mul_right _ hroom
              rw [Nat.add_mul, Nat.add_mul cap] at hmul
              have hfit : o + δ + len * j.size + 0 + cnew.length ≤ ccs.size := by
                rw [← hnl, hz3, q2, hd1, hd2]; omega
              have hrun := run_storeCells_at (P := P) cb (o + δ + len * j.size) t cnew 0 ccs w q1 hfit hcell1
              simp only [Nat.add_zero] at hrun hfit
              refine ⟨.slice (some ⟨cb, o + δ, none⟩) (len + m) (cap + e'), w.setRow cb (ccs.toList.take (o + δ + len * j.size) ++ cnew ++ ccs.toList.drop (o + δ + len * j.size + cnew.length)).toArray, upd (upd σ b .dead) H.next (.to cb (o + δ) (cap + e' - (len + m))), ?_, ?_, ?_⟩
              · rw [appTail_room hroom (hnew w rfl)]
                simp only [Addr.add_lit]
                rw [hrun]
                rfl
              · have := VRel.slice (σ := upd (upd σ b .dead) H.next (.to cb (o + δ) (cap + e' - (len + m)))) H.next 0 (some 0) (len + m) (len + m) cb (o + δ) (cap + e' - (len + m)) (upd_self _ _ _)
                simp only [Option.isSome_some, if_true, Nat.zero_add] at this
                rw [show len + m + (cap + e' - (len + m)) = cap + e' by omega] at this
                exact this
              · have hext : Ext σ (upd (upd σ b .dead) H.next (.to cb (o + δ) (cap + e' - (len + m)))) := by
                  intro q
                  by_cases h1 : q = H.next
                  · subst h1; rw [hH.fresh _ (Nat.le_refl _)]; trivial
                  · rw [upd_ne _ _ h1]
                    by_cases h2 : q = b
                    · subst h2; rw [hb]; simp
                    · rw [upd_ne _ _ h2]; cases σ q <;> simp
                refine Leads.moved (cb' := cb) hH hk hro hb (.inl rfl) (ORel.ext hext ?_) (fun q hq _ => setRow_other _ _ _ _ hq) (by simp) ⟨by simp, by simp, by simp⟩ (fun a => by
                  by_cases ha : a.block = cb
                  · simp [World.frozen?, ha, q1, setRow_heap w cb ccs _ t _ q1]
                  · exact frozen_of (setRow_other _ _ _ _ ha))
                refine ⟨_, t, _, setRow_heap w cb ccs _ t _ q1, ?_, fun i hi => ?_, fun _ => rfl⟩
                · simp only [List.size_toArray, List.length_append, List.length_take, List.length_drop, Array.length_toList]
                  rw [Nat.add_mul, Nat.sub_mul, Nat.add_mul, Nat.add_mul]
                  have e1 : cnew.length = m * j.size := by rw [← hnl, hz3]
                  rw [e1]
                  rw [← hnl, hz3, q2, hd1, hd2] at hfit
                  rw [q2, hd1, hd2]
                  omega
                · simp only at hi
                  rw [Blk.cell_eq, T.get_lay]
                  have hlen : (acellsF k (len * j.size) o ++ new).length = (len + m) * j.size := by rw [List.length_append, acellsF_length, hz3, Nat.add_mul]
                  rw [if_pos ⟨Nat.zero_le _, by omega⟩, Nat.sub_zero]
                  have hr2 := getD_rel (hold.append hn) i
                  rw [List.getElem?_eq_getElem (by omega)]
                  rw [show (acellsF k (len * j.size) o ++ new).getD i undef = (acellsF k (len * j.size) o ++ new)[i]'(by omega) by simp [List.getD, List.getElem?_eq_getElem (show i < (acellsF k (len * j.size) o ++ new).length by omega)]] at hr2
                  have key : (ccs.toList.take (o + δ + len * j.size) ++ cnew ++ ccs.toList.drop (o + δ + len * j.size + cnew.length)).toArray.getD (o + δ + i) undef = ((List.range (len * j.size)).map (fun i => ccs.getD (o + δ + i) undef) ++ cnew).getD i undef := by
                    rw [arr_getD]
                    have ht : (ccs.toList.take (o + δ + len * j.size)).length = o + δ + len * j.size := by rw [List.length_take, Array.length_toList]; omega
                    have hrl : ((List.range (len * j.size)).map (fun i => ccs.getD (o + δ + i) undef)).length = len * j.size := by simp
                    rw [Nat.add_mul] at hi
                    simp only [List.getD, List.append_assoc]
                    congr 1
                    by_cases h1 : i < len * j.size
                    · rw [List.getElem?_append_left (by omega), List.getElem?_append_left (by omega), List.getElem?_take, if_pos (by omega), List.getElem?_map, List.getElem?_range h1]
                      simp [show o + δ + i < ccs.size by omega]
                    · have f1 : (ccs.toList.take (o + δ + len * j.size) ++ (cnew ++ ccs.toList.drop (o + δ + len * j.size + cnew.length)))[o + δ + i]? = cnew[i - len * j.size]? := by
                        rw [List.getElem?_append_right (by omega), ht, List.getElem?_append_left (by rw [← hnl, hz3]; omega)]
                        congr 1; omega
                      have f2 : ((List.range (len * j.size)).map (fun i => ccs.getD (o + δ + i) undef) ++ cnew)[i]? = cnew[i - len * j.size]? := by
                        rw [List.getElem?_append_right (by omega), hrl]
                      rw [f1, f2]
                  rw [key]
                  exact hr2
            · obtain ⟨newCap, h1, h2⟩ := appTail_grow (zeros := zeros) Tj hroom hz2 hc1 (hfirst (cap + e')) hnew
              refine ⟨_, _, upd (upd σ b .dead) H.next (.to w.drew.heap.size 0 (newCap - (len + m))), h2, ?_, (Leads.drew hH).trans (Leads.moved (k := k) (cb' := w.drew.heap.size) hH.drew hk hro hb (.inr (Nat.le_refl _)) ?_ (fun q _ hq => heap_alloc_lt _ _ hq) (by simp) ⟨rfl, rfl, rfl⟩ (fun a => Go.RowKit.frozen?_alloc_cells _ _ _ a))⟩
              · have := VRel.slice (σ := upd (upd σ b .dead) H.next (.to w.drew.heap.size 0 (newCap - (len + m)))) H.next 0 (some 0) (len + m) (len + m) w.drew.heap.size 0 (newCap - (len + m)) (upd_self _ _ _)
                simp only [Option.isSome_some, if_true, Nat.add_zero] at this
                rw [show len + m + (newCap - (len + m)) = newCap by omega] at this
                exact this
              · have hext : Ext σ (upd (upd σ b .dead) H.next (.to w.drew.heap.size 0 (newCap - (len + m)))) := by
                  intro q
                  by_cases h1 : q = H.next
                  · subst h1; rw [hH.fresh _ (Nat.le_refl _)]; trivial
                  · rw [upd_ne _ _ h1]
                    by_cases h2 : q = b
                    · subst h2; rw [hb]; simp
                    · rw [upd_ne _ _ h2]; cases σ q <;> simp
                exact ORel.ext hext (grown_rel (j := j) (n := len) (m := m) (e := e) (cb := w.drew.heap.size) hold hn (acellsF_length _ _ _) hz3 (hr newCap) h1 (heap_alloc_new w.drew _))
      · exact absurd hb (hH.alive hk)
    · simp at h
  · simp at h

/-! ### Maps -/
theorem run_setMap {r clock clock' : Nat} {es es' : Array MapEntry} (hb : w.heap[r]? = some (.map es clock)) : (setObj r (.map es' clock')).run P w = .ok () { w with heap := w.heap.setIfInBounds r (.map es' clock') } := by
  simp [setObj, Sem.run, hb]
theorem sameBits_key {d : TypeDesc} {k : Value} (hk : isKeyD d k = true) : ∀ k', Instr.sameNow d k k' = some true → Instr.sameBits 10000 k' k = true := by
  intro k' h
  unfold isKeyD at hk
  split at hk
  · cases k' <;> simp [Instr.sameNow] at h
    obtain ⟨rfl, rfl⟩ := h
    rename_i k n
    show (k == k && n == n) = true
    simp
  · rename_i s
    cases k' <;> simp [Instr.sameNow] at h
    rename_i s'
    rw [← strEq_eq'] at h
    show (s' == s) = true
    rw [← strEq_eq', strEq_eq]
    rw [strEq_eq] at h
    exact beq_iff_eq.2 (beq_iff_eq.1 h).symm
  · cases k' <;> simp [Instr.sameNow] at h
    subst h
    rename_i b
    show (b == b) = true
    simp
  · simp at hk
theorem findNow_at {d : TypeDesc} {k : Value} : ∀ (es : List MapEntry) (i j : Nat) (v : Value), Instr.findNow d k es i = some (some (j, v)) → i ≤ j ∧ ∃ e, es[j - i]? = some e ∧ Instr.sameNow d k e.key = some true
  | [], i, j, v, h => by simp [Instr.findNow] at h
  | e :: es, i, j, v, h => by
    simp only [Instr.findNow] at h
    split at h
    · rename_i hs
      cases h
      exact ⟨Nat.le_refl _, e, by simp, hs⟩
    · obtain ⟨h1, e', h2, h3⟩ := findNow_at es (i + 1) j v h
      refine ⟨by omega, e', ?_, h3⟩
      rw [show j - i = (j - (i + 1)) + 1 by omega]; simpa using h2
    · simp at h
theorem setNth_map1 (es : List (Value × Value)) (i : Nat) (k v : Value) : (setNth es i k v).map (·.1) = (es.map (·.1)).take i ++ k :: (es.map (·.1)).drop (i + 1) := by simp [setNth, List.map_take, List.map_drop]
theorem setNth_map2 (es : List (Value × Value)) (i : Nat) (k v : Value) : (setNth es i k v).map (·.2) = (es.map (·.2)).take i ++ v :: (es.map (·.2)).drop (i + 1) := by simp [setNth, List.map_take, List.map_drop]
theorem modify_list (es : Array MapEntry) (i : Nat) (f : MapEntry → MapEntry) (e : MapEntry) (h : es.toList[i]? = some e) : (es.modify i f).toList = es.toList.take i ++ f e :: es.toList.drop (i + 1) := by
  rw [Array.toList_modify]
  have hi := (List.getElem?_eq_some_iff.1 h).1
  apply List.ext_getElem?
  intro j
  rw [List.getElem?_modify]
  by_cases h1 : j < i
  · rw [List.getElem?_append_left (by rw [List.length_take]; omega), List.getElem?_take, if_pos h1]
    simp [show ¬ i = j by omega]
  · rw [List.getElem?_append_right (by rw [List.length_take]; omega), List.length_take, show min i es.toList.length = i by omega]
    by_cases h2 : j = i
    · subst h2; simp [h]
    · rw [show j - i = (j - i - 1) + 1 by omega, List.getElem?_cons_succ, List.getElem?_drop, show i + 1 + (j - i - 1) = j by omega]
      simp [show ¬ i = j by omega]
theorem mapUpdate_ok [Base] (_hC : CtxOk C P) (hH : HRel σ H w) {t kt et : TypeId} {i ki : TI} (T : TIok P t i) (hd : i.desc = .map kt et) (Tk : TIok P kt ki) {r : Nat} {es : List (Value × Value)} {_m k x cm ck cx v : Value} {H' : AH}
    (hm : VRel σ (.map (some r)) cm) (hk : VRel σ k ck) (hx : VRel σ x cx) (hes : H.get r = some (.map es)) (hkd : isKeyD ki.desc k = true)
    (h : (match afind ki.desc k es 0 with
          | some (some (i, _)) => some (undef, H.set r (.map (setNth es i k x)))
          | some none => some (undef, H.set r (.map (es ++ [(k, x)])))
          | none => none) = some (v, H')) :
    ∃ w', (Instr.mapUpdate t cm ck cx).run P w = .ok () w' ∧ Leads σ H w σ H' w' ∧ v = undef := by
  have hu := T.under
  rw [hd] at hu
  have hkc := isKeyD_rel hk hkd
  rcases hm.map_inv with ⟨cr, δ, e', hb, hc⟩ | ⟨cr, hb, hc⟩
  · obtain ⟨ces, clock, h1, hδ, he, h4, h5⟩ := hH.map hes hb
    have hlen : es.length = ces.toList.length := by simpa using h4.length
    have CK := isKey_check (n := 9999) Tk.under hkc false w
    have fin : ∀ (es' : List (Value × Value)) (ces' : Array MapEntry) (clock' : Nat), VRelL σ (es'.map (·.1)) (ces'.toList.map (·.key)) → VRelL σ (es'.map (·.2)) (ces'.toList.map (·.val)) →
        Leads σ H w σ (H.set r (.map es')) { w with heap := w.heap.setIfInBounds cr (.map ces' clock') } := by
      intro es' ces' clock' g1 g2
      refine Leads.turn hH hb (fun o ho => by rw [hes] at ho; cases ho; rfl) rfl ⟨ces', clock', ?_, hδ, he, g1, g2⟩ (fun q hq => ?_) (by simp) ⟨rfl, rfl, rfl⟩
      · have := (Array.getElem?_eq_some_iff.1 h1).1
        simp [this]
      · simp [Ne.symm hq]
    split at h
    · rename_i j u hf
      obtain ⟨cf, h6, h7⟩ := afind_ok hk es ces.toList 0 _ h4 h5 hf
      split at h7
      · rename_i heq; cases heq
      · rename_i j' u' cj cv heq
        cases heq
        obtain ⟨hj, h8, _, hjl⟩ := h7
        subst hj
        cases h
        obtain ⟨_, ce, hce, hsn⟩ := findNow_at _ _ _ _ h6
        rw [Nat.sub_zero] at hce
        have hce' : ces[j]? = some ce := by simpa using hce
        have hkeep : (Instr.keyThatStays (((ces[j]?).map (·.key)).getD ck) ck).run P w = .ok ck w := by
          rw [hce']
          simp only [Option.map_some, Option.getD_some, Instr.keyThatStays, sameBits_key hkc _ hsn, if_true, Sem.run_pure]
        refine ⟨_, ?_, fin (setNth es j k x) (ces.modify j fun e => { e with key := ck, val := cx }) clock ?_ ?_, rfl⟩
        · rw [hc]
          simp only [Instr.mapUpdate, Sem.run_bind, run_underlying hu, Result.andThen_ok, run_getMap h1, CK, run_findKey_of Tk.under h6 w, hkeep]
          exact run_setMap h1
        · rw [setNth_map1, modify_list _ _ _ _ hce, List.map_append, List.map_cons, List.map_take, List.map_drop]
          exact (h4.take _).append (.cons hk (h4.drop _))
        · rw [setNth_map2, modify_list _ _ _ _ hce, List.map_append, List.map_cons, List.map_take, List.map_drop]
          exact (h5.take _).append (.cons hx (h5.drop _))
      · exact h7.elim
    · rename_i hf
      obtain ⟨cf, h6, h7⟩ := afind_ok hk es ces.toList 0 _ h4 h5 hf
      split at h7
      · cases h
        refine ⟨_, ?_, fin (es ++ [(k, x)]) (ces.push { key := ck, val := cx, born := clock }) (clock + 1) ?_ ?_, rfl⟩
        · rw [hc]
          simp only [Instr.mapUpdate, Sem.run_bind, run_underlying hu, Result.andThen_ok, run_getMap h1, CK, run_findKey_of Tk.under h6 w]
          exact run_setMap h1
        · simp only [List.map_append, List.map_cons, List.map_nil, Array.toList_push]
          exact h4.append (.cons hk .nil)
        · simp only [List.map_append, List.map_cons, List.map_nil, Array.toList_push]
          exact h5.append (.cons hx .nil)
      · rename_i heq; cases heq
      · exact h7.elim
    · simp at h
  · exact absurd hb (hH.alive hes)

theorem delete_ok [Base] (_hC : CtxOk C P) (hH : HRel σ H w) {t kt et ty : TypeId} {ats : Array TypeId} (ht : ats[0]? = some t) {i ki : TI} (T : TIok P t i) (hd : i.desc = .map kt et) (Tk : TIok P kt ki) {r : Nat} {es : List (Value × Value)} {k cm ck v : Value} {H' : AH}
    (hm : VRel σ (.map (some r)) cm) (hk : VRel σ k ck) (hes : H.get r = some (.map es)) (hkd : isKeyD ki.desc k = true)
    (h : (match afind ki.desc k es 0 with
          | some (some (i, _)) => some (.tuple ⟨[]⟩, H.set r (.map (es.take i ++ es.drop (i + 1))))
          | some none => some (.tuple ⟨[]⟩, H.set r (.map es))
          | none => none) = some (v, H')) :
    ∃ w', (Builtin.delete_ ats ty #[cm, ck]).run P w = .ok (.tuple #[]) w' ∧ Leads σ H w σ H' w' ∧ v = .tuple ⟨[]⟩ := by
  have hu := T.under
  rw [hd] at hu
  have hkc := isKeyD_rel hk hkd
  rcases hm.map_inv with ⟨cr, δ, e', hb, hc⟩ | ⟨cr, hb, hc⟩
  · obtain ⟨ces, clock, h1, hδ, he, h4, h5⟩ := hH.map hes hb
    have CK := isKey_check (n := 9999) Tk.under hkc ces.isEmpty w
    have fin : ∀ (es' : List (Value × Value)) (ces' : Array MapEntry) (clock' : Nat), VRelL σ (es'.map (·.1)) (ces'.toList.map (·.key)) → VRelL σ (es'.map (·.2)) (ces'.toList.map (·.val)) →
        Leads σ H w σ (H.set r (.map es')) { w with heap := w.heap.setIfInBounds cr (.map ces' clock') } := by
      intro es' ces' clock' g1 g2
      refine Leads.turn hH hb (fun o ho => by rw [hes] at ho; cases ho; rfl) rfl ⟨ces', clock', ?_, hδ, he, g1, g2⟩ (fun q hq => ?_) (by simp) ⟨rfl, rfl, rfl⟩
      · have := (Array.getElem?_eq_some_iff.1 h1).1
        simp [this]
      · simp [Ne.symm hq]
    have hg : (getObj cr).run P w = .ok (.map ces clock) w := by simp [getObj, Sem.run, h1]
    split at h
    · rename_i j u hf
      obtain ⟨cf, h6, h7⟩ := afind_ok hk es ces.toList 0 _ h4 h5 hf
      split at h7
      · rename_i heq; cases heq
      · rename_i j' u' cj cv heq
        cases heq
        obtain ⟨hj, h8, _, hjl⟩ := h7
        subst hj
        cases h
        refine ⟨_, ?_, fin (es.take j ++ es.drop (j + 1)) (ces.eraseIdxIfInBounds j) clock ?_ ?_, rfl⟩
        · rw [hc]
          unfold Builtin.delete_
          simp only [ht, List.getElem?_toArray, List.getElem?_cons_zero, List.getElem?_cons_succ, Sem.run_bind, run_underlying hu, Result.andThen_ok, hg, CK, run_findKey_of Tk.under h6 w]
          rw [run_setMap h1]
          rfl
        · rw [Array.toList_eraseIdxIfInBounds, List.eraseIdx_eq_take_drop_succ, List.map_append, List.map_append, List.map_take, List.map_drop, List.map_take, List.map_drop]
          exact (h4.take _).append (h4.drop _)
        · rw [Array.toList_eraseIdxIfInBounds, List.eraseIdx_eq_take_drop_succ, List.map_append, List.map_append, List.map_take, List.map_drop, List.map_take, List.map_drop]
          exact (h5.take _).append (h5.drop _)
      · exact h7.elim
    · rename_i hf
      obtain ⟨cf, h6, h7⟩ := afind_ok hk es ces.toList 0 _ h4 h5 hf
      split at h7
      · cases h
        refine ⟨_, ?_, fin es ces clock h4 h5, rfl⟩
        rw [hc]
        unfold Builtin.delete_
        simp only [ht, List.getElem?_toArray, List.getElem?_cons_zero, List.getElem?_cons_succ, Sem.run_bind, run_underlying hu, Result.andThen_ok, hg, CK, run_findKey_of Tk.under h6 w]
        rw [run_setMap h1]
        rfl
      · rename_i heq; cases heq
      · exact h7.elim
    · simp at h
  · exact absurd hb (hH.alive hes)

theorem run_u {s : Sem Unit} {w w' : World} (h : s.run P w = .ok () w') : (do s; pure .skip : Sem Next).run P w = .ok .skip w' := by
  simp only [Sem.run_bind, h, Result.andThen_ok, Sem.run_pure]
set_option maxHeartbeats 4000000 in
theorem aeff_ok [Base] (hC : CtxOk C P) (hH : HRel σ H w) {ev cev : Operand → Value} (hev : ∀ x, VRel σ (ev x) (cev x)) {o : Oper} {v : Value} {H' : AH} (h : aeff C ev o.op H = some (v, H')) :
    ∃ nx cv w' σ', (execOp cev o).run P w = .ok nx w' ∧ (nx = .value cv ∨ nx = .skip ∧ cv = undef) ∧ VRel σ' v cv ∧ Leads σ H w σ' H' w' := by
  unfold execOp
  generalize o.op = op at h ⊢
  cases op
  case store t a x =>
    simp only [aeff] at h
    have ha := hev a
    have hx := hev x
    split at h
    · rename_i b off i e2 hi
      rw [e2] at ha
      have T := hC.ty _ _ hi
      have hh := cond_some h; clear h; obtain ⟨hsz, h⟩ := hh
      obtain ⟨e3, e4⟩ := someCells_ok hsz
      have hr := cells_rel hx e4
      split at h
      · rename_i H1 hst
        cases h
        obtain ⟨ca, hca⟩ := ha.somePtr_inv
        rw [hca] at ha
        obtain ⟨w', h1, h2⟩ := astoreAt_ok (P := P) hH ha hr hst
        refine ⟨.skip, undef, w', σ, run_u ?_, .inr ⟨rfl, rfl⟩, VRel.undef, h2⟩
        have hcs : (cev x).cells.size = i.size := by have := hr.length; rw [e3] at this; exact this.symm
        rw [hca]
        simp only [Instr.storeAt, Sem.run_bind, Instr.sureAddr, Sem.run_pure, Result.andThen_ok, storeVar, T.run_size w, hcs, ne_eq, not_true_eq_false, if_false]
        exact h1
      · simp at h
    · simp at h
  case mapUpdate t m k x =>
    simp only [aeff] at h
    have hm := hev m
    split at h
    · rename_i i r hi e2
      rw [e2] at hm
      have T := hC.ty _ _ hi
      split at h
      · rename_i kt et es hd hes
        split at h
        · rename_i ki hki
          have hh := cond_some h; clear h; obtain ⟨hkd, h⟩ := hh
          obtain ⟨w', h1, h2, h3⟩ := mapUpdate_ok (P := P) (et := et) (_m := .bool true) hC hH T hd (hC.ty _ _ hki) hm (hev k) (hev x) hes hkd h
          exact ⟨.skip, undef, w', σ, run_u h1, .inr ⟨rfl, rfl⟩, by rw [h3]; exact VRel.undef, h2⟩
        · simp at h
      · simp at h
    · simp at h
  case insert t m k x =>
    simp only [aeff] at h
    have hm := hev m
    split at h
    · rename_i i r hi e2
      rw [e2] at hm
      have T := hC.ty _ _ hi
      split at h
      · rename_i kt et es hd hes
        split at h
        · rename_i ki hki
          have hh := cond_some h; clear h; obtain ⟨hkd, h⟩ := hh
          obtain ⟨w', h1, h2, h3⟩ := mapUpdate_ok (P := P) (et := et) (_m := .bool true) hC hH T hd (hC.ty _ _ hki) hm (hev k) (hev x) hes hkd h
          exact ⟨.skip, undef, w', σ, run_u h1, .inr ⟨rfl, rfl⟩, by rw [h3]; exact VRel.undef, h2⟩
        · simp at h
      · simp at h
    · simp at h
  case call c =>
    obtain ⟨callee, args, argTypes⟩ := c
    simp only [aeff] at h
    cases callee
    case value f => simp at h
    case invoke r m => simp at h
    case builtin b =>
    have R : ∀ cv w', (builtin b argTypes o.type (args.map fun | .const _ => true | _ => false) (args.map cev)).run P w = .ok (.value cv) w' →
        (do let d ← resolve cev { callee := .builtin b, args := args, argTypes := argTypes } o.type; Go.invoke d.target d.args : Sem Next).run P w = .ok (.value cv) w' := by
      intro cv w' hr
      simp only [resolve, Go.invoke, Sem.run_bind, Sem.run_pure, Result.andThen_ok]
      exact hr
    cases b
    case append =>
      simp only at h
      split at h
      · rename_i x y t u ha ht
        have ha := args_two ha
        have ht := args_two ht
        subst ha; subst ht
        have hx := hev x
        have hy := hev y
        split at h
        · rename_i i ui hi hui
          have T := hC.ty _ _ hi
          have U := hC.ty _ _ hui
          have hu := T.under
          have hw := U.under
          generalize hd : i.desc = dd at h hu
          split at h
          · rename_i e
            split at h
            · simp at h
            · rename_i j hj
              have Tj := hC.ty _ _ hj
              split at h
              · rename_i k k' m e6 e2
                rw [e6] at hw
                rw [e2] at hy
                have hh := cond_some h; clear h; obtain ⟨hb, h⟩ := hh
                simp only [Bool.and_eq_true, Nat.ble_eq, Nat.beq_eq] at hb
                have hzz : VRelL σ j.zero j.zval.cells.toList := zero_cells Tj
                have hnw : ∀ w' : World, w'.heap = w.heap → (if !true then Builtin.firstCells j.size m (.int k' (.ofNat m)) else if m * j.size = 0 then pure #[] else do pure (Builtin.zeroCells (← zeroValue e).cells m) : Sem (Array Value)).run P w' = .ok ⟨(Builtin.zeroCells j.zval.cells m).toList⟩ w' := by
                  intro w' _
                  rw [if_neg (by decide)]
                  split
                  · rename_i h0
                    have : (Builtin.zeroCells j.zval.cells m) = #[] := by
                      apply Array.eq_empty_of_size_eq_zero
                      rw [zeroCells_size, show j.zval.cells.size = j.size from hb.2, h0]
                    rw [this]; rfl
                  · simp only [Sem.run_bind, Tj.run_zero w', Result.andThen_ok, Sem.run_pure]
                obtain ⟨base, sLen, sCap, hc, cv, w', σ', h1, h2, h3⟩ := aappend_ok (P := P) hH Tj hx (zeroCells_rel hzz m) hnw h
                refine ⟨.value cv, cv, w', σ', R cv w' ?_, .inl rfl, h2, h3⟩
                have := append_zeros (ty := o.type) hu hw rfl Tj base sLen sCap m k' w hb.1.2 hb.1.1
                simp only [List.map_toArray, List.map_cons, List.map_nil, builtin, hc, hy.int_inv, Sem.run_bind]
                rw [this, h1]
                rfl
              · simp at h
              · rename_i n1 n2
                split at h
                · simp at h
                · rename_i m hm
                  split at h
                  · rename_i new hnew
                    obtain ⟨cnew, q1, q2⟩ := asrc_ok (P := P) hH hy hnew
                    have hni : isIntD ui.desc = false := by
                      unfold isIntD
                      split
                      · rename_i e5; first | exact (n1 _ e5).elim | exact (n2 _ e5).elim
                      · rfl
                    obtain ⟨base, sLen, sCap, hc, cv, w', σ', h1, h2, h3⟩ := aappend_ok (P := P) (zeros := false) (x := cev y) hH Tj hx q1 (fun w' hw' => q2 w' hw') h
                    refine ⟨.value cv, cv, w', σ', R cv w' ?_, .inl rfl, h2, h3⟩
                    have := append_plain (ty := o.type) hu hw Tj base sLen sCap m (cev y) w hni (alenOf_ok hy hm w)
                    simp only [List.map_toArray, List.map_cons, List.map_nil, builtin, hc, Sem.run_bind]
                    rw [this, h1]
                    rfl
                  · simp at h
          · simp at h
        · simp at h
      · simp at h
    case delete =>
      simp only at h
      split at h
      · rename_i m k t tr ha ht
        have ha := args_two ha
        subst ha
        have hty : argTypes[0]? = some t := by rw [← Array.getElem?_toList, ht]; rfl
        split at h
        · rename_i i r hi em
          have hm := hev m
          rw [em] at hm
          have T := hC.ty _ _ hi
          split at h
          · rename_i kt et es hd hes
            split at h
            · rename_i ki hki
              have hh := cond_some h; clear h; obtain ⟨hkd, h⟩ := hh
              obtain ⟨w', h1, h2, h3⟩ := delete_ok (P := P) (ty := o.type) hC hH hty T hd (hC.ty _ _ hki) hm (hev k) hes hkd h
              refine ⟨.value (.tuple #[]), .tuple #[], w', σ, R _ w' ?_, .inl rfl, by rw [h3]; exact .tuple _ _ .nil, h2⟩
              simp only [List.map_toArray, List.map_cons, List.map_nil, builtin, Sem.run_bind, h1]
              rfl
            · simp at h
          · simp at h
        · simp at h
      · simp at h
    case copy =>
      simp only at h
      split at h
      · rename_i x y t tr ha ht
        have ha := args_two ha
        subst ha
        have hx := hev x
        have hy := hev y
        split at h
        · rename_i i hi
          have T := hC.ty _ _ hi
          have hu := T.under
          generalize hd : i.desc = dd at h hu
          split at h
          · rename_i e a dl dc sl e2 hsl
            rw [e2] at hx
            split at h
            · rename_i j hj
              have Tj := hC.ty _ _ hj
              split at h
              · rename_i vs hvs
                obtain ⟨cvs, q1, q2⟩ := asrc_ok (P := P) hH hy hvs
                have hl := alenOf_ok (P := P) hy hsl w
                have hty : argTypes[0]? = some t := by rw [← Array.getElem?_toList, ht]; rfl
                have hrun : ∀ (a' : Option Addr) (dc' : Nat), (Builtin.copy_ argTypes o.type #[.slice a' dl dc', cev y]).run P w =
                    (match a' with | some a => (storeCells a cvs).run P w | none => .ok () w).andThen fun _ w' => .ok (goInt (Nat.min sl dl)) w' := by
                  intro a' dc'
                  unfold Builtin.copy_
                  rw [hty]
                  simp only [List.getElem?_toArray, List.getElem?_cons_zero, List.getElem?_cons_succ, Sem.run_bind, run_underlying hu, Result.andThen_ok, hl, Tj.run_size w, q2 w rfl]
                  cases a' with
                  | none => rfl
                  | some a => simp only [Sem.run_bind, Sem.run_pure]
                split at h
                · cases h
                  obtain ⟨ca, k', hc, hn⟩ := hx.sliceAny_inv
                  obtain rfl : ca = none := by cases ca <;> simp at hn ⊢
                  refine ⟨.value (goInt (Nat.min sl dl)), goInt (Nat.min sl dl), w, σ, R _ w ?_, .inl rfl, .int _ _, Leads.refl hH⟩
                  simp only [List.map_toArray, List.map_cons, List.map_nil, builtin, hc, Sem.run_bind, hrun]
                  rfl
                · rename_i b off sp
                  split at h
                  · rename_i H1 hst
                    cases h
                    have halive : ∃ k, H.get b = some (.cells k) := by
                      unfold astoreAt at hst
                      split at hst
                      · exact ⟨_, by assumption⟩
                      · cases hst
                    obtain ⟨k, hk⟩ := halive
                    rcases hx.slice_inv with ⟨cb, δ, e', hb, hc⟩ | ⟨ca, k', hb, hc⟩
                    · obtain ⟨w', h1, h2⟩ := astoreAt_ok (P := P) hH (.ptr b off cb δ e' hb) q1 hst
                      refine ⟨.value (goInt (Nat.min sl dl)), goInt (Nat.min sl dl), w', σ, R _ w' ?_, .inl rfl, .int _ _, h2⟩
                      simp only [List.map_toArray, List.map_cons, List.map_nil, builtin, hc, Sem.run_bind, hrun, h1]
                      rfl
                    · exact absurd hb (hH.alive hk)
                  · simp at h
              · simp at h
            · simp at h
          · simp at h
        · simp at h
      · simp at h
    all_goals simp at h
  all_goals simp [aeff] at h
end
end Go.Eng
