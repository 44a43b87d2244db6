/- What changes a block: sound. -/
import Derived.Test.YtcnamndapofimaaGreatDoorEngH
import Derived.Laws.CopyRow
namespace Go.Eng
open Go
section
variable {P : Program} {C : Ctx} {σ : Ren} {H : AH} {w : World}

/-! ### 'append', behind the count of what comes -/
def appTail (zeros : Bool) (elem : TypeId) (size : Nat) (base : Option Addr) (sLen sCap : Nat) (x : Value) (n : Nat) : Sem Value := do
  let appended : Sem (Array Value) :=
    if !zeros then Builtin.firstCells size n x
    else if n * size = 0 then pure #[]
    else do pure (Builtin.zeroCells (← zeroValue elem).cells n)
  let need := sLen + n
  if need ≤ sCap then
    let new ← appended
    if let some a := base then storeCells (a.add (sLen * size)) new.toList
    pure (.slice base need sCap)
  else
    if (need : Int) > IntKind.i64.max ∧ (zeros ∨ (← typeInfo elem).bytes = 0) then runtimePanic (.error "growslice: len out of range")
    if Builtin.nextslicecap need sCap * (← typeInfo elem).bytes > 2 ^ 48 then (if zeros then runtimePanic (.error "growslice: len out of range") else do
      if !(← Builtin.mayShare size sLen n base x) then mark .noRoom
      unsupported (.resourceLimit "append: a slice or a string whose bytes no memory bears"))
    let newCap ← choose (.appendCap need sCap elem)
    askRoom (newCap * (← typeInfo elem).bytes)
    let old ← Builtin.firstCells size sLen (.slice base sLen sCap)
    let new ← appended
    let rest := Builtin.zeroCells (← zeroValue elem).cells (newCap - need)
    pure (.slice (some (← newRow elem (old ++ new ++ rest))) need newCap)
def isIntD : TypeDesc → Bool
  | .int _ => true
  | _ => false
theorem append_plain {t u ty e : TypeId} {d : TypeDesc} (hu : P.underlying t = some (.slice e)) (hd : P.underlying u = some d) {j : TI} (Tj : TIok P e j) (base : Option Addr) (sLen sCap n : Nat) (x : Value) (w : World)
    (hni : isIntD d = false) (hl : (Builtin.lenOf x).run P w = .ok n w) : (Builtin.append_ #[t, u] ty #[.slice base sLen sCap, x]).run P w = (appTail false e j.size base sLen sCap x n).run P w := by
  unfold Builtin.append_
  simp only [Sem.run_bind, run_underlying hu, run_underlying hd, Result.andThen_ok, List.getElem?_toArray, Tj.run_size w, Sem.run_pure, List.getElem?_cons_zero, List.getElem?_cons_succ]
  clear hd
  cases d
  case int => cases hni
  all_goals (rw [if_neg (by intro h; cases h), Sem.run_bind, hl, Result.andThen_ok]; rfl)
theorem append_zeros {t u ty e : TypeId} {d : TypeDesc} (hu : P.underlying t = some (.slice e)) (hd : P.underlying u = some d) (hni : isIntD d = true) {j : TI} (Tj : TIok P e j) (base : Option Addr) (sLen sCap n : Nat) (k' : IntKind) (w : World)
    (hn : n ≤ 140737488355328) (hb : n * j.bytes ≤ 140737488355328) : (Builtin.append_ #[t, u] ty #[.slice base sLen sCap, .int k' (.ofNat n)]).run P w = (appTail true e j.size base sLen sCap (.int k' (.ofNat n)) n).run P w := by
  obtain ⟨inf, q1, q2, _⟩ := Tj.run_info w
  have w1 : IntKind.wrap .i64 (Int.ofNat n) = Int.ofNat n := wrap_i64 _ (by have : (0 : Int) ≤ Int.ofNat n := Int.natCast_nonneg n; omega) (by rw [Int.ofNat_eq_natCast]; omega)
  have h0 : ¬ (Int.ofNat n < 0) := by have : (0 : Int) ≤ Int.ofNat n := Int.natCast_nonneg n; omega
  have h1 : ¬ (Int.ofNat n * (inf.bytes : Int) > 2 ^ 48) := by
    rw [q2, show Int.ofNat n * (j.bytes : Int) = ((n * j.bytes : Nat) : Int) by rw [Int.ofNat_eq_natCast]; simp, show (2 : Int) ^ 48 = 281474976710656 by decide]; omega
  unfold Builtin.append_
  simp only [Sem.run_bind, run_underlying hu, run_underlying hd, Result.andThen_ok, List.getElem?_toArray, Tj.run_size w, Sem.run_pure, List.getElem?_cons_zero, List.getElem?_cons_succ]
  clear hd
  cases d
  case int k =>
    have ha : (asInt (.int k' (.ofNat n))).run P w = .ok (.ofNat n) w := rfl
    rw [if_pos rfl, Sem.run_bind, ha, Result.andThen_ok, w1, if_neg h0]
    rw [Sem.run_bind, q1, Result.andThen_ok, if_neg h1, Sem.run_bind, Sem.run_pure, Result.andThen_ok]
    rfl
  all_goals cases hni
theorem growBy_le (newLen : Nat) : ∀ (r c : Nat), Builtin.growBy newLen r c ≤ max c (newLen + (newLen + 768) / 4) := by
  intro r
  induction r with
  | zero => intro c; unfold Builtin.growBy; omega
  | succ r ih =>
    intro c
    unfold Builtin.growBy
    split
    · omega
    · have := ih (c + (c + 768) / 4)
      omega
theorem growBy_four (n c : Nat) : Builtin.growBy n 4 c =
    if c ≥ n then c else
    if c + (c + 768) / 4 ≥ n then c + (c + 768) / 4 else
    if c + (c + 768) / 4 + (c + (c + 768) / 4 + 768) / 4 ≥ n then c + (c + 768) / 4 + (c + (c + 768) / 4 + 768) / 4 else
    if c + (c + 768) / 4 + (c + (c + 768) / 4 + 768) / 4 + (c + (c + 768) / 4 + (c + (c + 768) / 4 + 768) / 4 + 768) / 4 ≥ n
    then c + (c + 768) / 4 + (c + (c + 768) / 4 + 768) / 4 + (c + (c + 768) / 4 + (c + (c + 768) / 4 + 768) / 4 + 768) / 4 else
    c + (c + 768) / 4 + (c + (c + 768) / 4 + 768) / 4 + (c + (c + 768) / 4 + (c + (c + 768) / 4 + 768) / 4 + 768) / 4 +
      (c + (c + 768) / 4 + (c + (c + 768) / 4 + 768) / 4 + (c + (c + 768) / 4 + (c + (c + 768) / 4 + 768) / 4 + 768) / 4 + 768) / 4 := rfl
theorem nextslicecap_le (need cap : Nat) (h : cap < need) : Builtin.nextslicecap need cap ≤ 2 * need := by
  unfold Builtin.nextslicecap
  split
  · omega
  · split
    · omega
    · rw [growBy_four]
      repeat' split
      all_goals omega
theorem appTail_room {zeros : Bool} {e : TypeId} {size : Nat} {base : Option Addr} {sLen sCap : Nat} {x : Value} {n : Nat} {new : Array Value}
    (hle : sLen + n ≤ sCap) (hnew : (if !zeros then Builtin.firstCells size n x else if n * size = 0 then pure #[] else do pure (Builtin.zeroCells (← zeroValue e).cells n) : Sem (Array Value)).run P w = .ok new w) :
    (appTail zeros e size base sLen sCap x n).run P w = match base with
      | some a => ((storeCells (a.add (sLen * size)) new.toList).run P w).andThen fun _ w' => .ok (.slice base (sLen + n) sCap) w'
      | none => .ok (.slice base (sLen + n) sCap) w := by
  unfold appTail
  simp only [hle, if_true, Sem.run_bind, hnew, Result.andThen_ok]
  cases base with
  | none => rfl
  | some a => simp only [Sem.run_bind, Sem.run_pure]
theorem appTail_grow [Base] {zeros : Bool} {e : TypeId} {j : TI} (Tj : TIok P e j) {base : Option Addr} {sLen sCap : Nat} {x : Value} {n : Nat} {old new : Array Value}
    (hlt : ¬ sLen + n ≤ sCap) (hby : 0 < j.bytes) (hb : (sLen + n) * j.bytes ≤ 140737488355328)
    (hold : ∀ w', w'.heap = w.heap → (Builtin.firstCells j.size sLen (.slice base sLen sCap)).run P w' = .ok old w')
    (hnew : ∀ w', w'.heap = w.heap → (if !zeros then Builtin.firstCells j.size n x else if n * j.size = 0 then pure #[] else do pure (Builtin.zeroCells (← zeroValue e).cells n) : Sem (Array Value)).run P w' = .ok new w') :
    ∃ newCap, sLen + n ≤ newCap ∧ (appTail zeros e j.size base sLen sCap x n).run P w =
      .ok (.slice (some ⟨w.heap.size, 0, none⟩) (sLen + n) newCap) (w.drew.alloc (.cells (old ++ new ++ Builtin.zeroCells j.zval.cells (newCap - (sLen + n))) e)) := by
  obtain ⟨inf, q1, q2, _⟩ := Tj.run_info w
  obtain ⟨inf', q1', q2', _⟩ := Tj.run_info w.drew
  have hcap : sLen + n ≤ 140737488355328 := Nat.le_trans (Nat.le_mul_of_pos_right _ hby) hb
  have h1 : ¬ (((sLen + n : Nat) : Int) > IntKind.i64.max) := by rw [IntKind.max_i64]; omega
  have h2 : ¬ (Builtin.nextslicecap (sLen + n) sCap * j.bytes > 2 ^ 48) := by
    have hn := nextslicecap_le (sLen + n) sCap (by omega)
    have : Builtin.nextslicecap (sLen + n) sCap * j.bytes ≤ (2 * (sLen + n)) * j.bytes := Nat.mul_le_mul_right _ hn
    rw [Nat.mul_assoc] at this
    have e48 : (2 : Nat) ^ 48 = 281474976710656 := by decide
    rw [e48]
    omega
  refine ⟨(Question.appendCap (sLen + n) sCap e).cut (w.tape w.drawn (.appendCap (sLen + n) sCap e)), by simp [Question.cut], ?_⟩
  unfold appTail
  rw [if_neg hlt]
  simp only [Sem.run_bind, q1, Result.andThen_ok, q2]
  rw [if_neg (by intro h; exact h1 h.1)]
  simp only [Sem.run_bind, q1, Result.andThen_ok, q2]
  rw [if_neg h2]
  simp only [Sem.run_bind, run_choose, Question.forced, Bool.false_eq_true, if_false, Result.andThen_ok, World.drew_eq, q1', run_askRoom, hold w.drew rfl, hnew w.drew rfl, Tj.run_zero w.drew, newRow, run_newObj, Sem.run_pure]
  rfl

/-! ### A block is written -/
theorem oneCellV_ok {v cv : Value} (h : VRel σ v cv) (k : oneCellV v = true) : cv.oneCell' = true := by
  cases h <;> first | rfl | (simp [oneCellV] at k; done)
theorem oneCells_ok [Base] {vs cvs : List Value} (h : VRelL σ vs cvs) (k : vs.all oneCellV = true) : ∀ v ∈ cvs, v.oneCell' = true := by
  intro v hv
  obtain ⟨i, hi, rfl⟩ := List.getElem_of_mem hv
  have hi' : i < vs.length := by rw [h.length]; exact hi
  obtain ⟨y, hy, hr⟩ := h.get i vs[i] (List.getElem?_eq_getElem hi')
  rw [List.getElem?_eq_getElem hi] at hy
  cases hy
  exact oneCellV_ok hr (List.all_eq_true.1 k _ (List.getElem_mem hi'))
theorem HRel.turn [Base] {w' : World} {b cb δ e : Nat} {o : AObj} (hH : HRel σ H w) (hb : σ b = .to cb δ e) (hrw : ∀ o, H.get b = some o → o.rw = true) (ho : ORel σ w' cb δ e o) (hw : ∀ k, k ≠ cb → w'.heap[k]? = w.heap[k]?) : HRel σ (H.set b o) w' where
  obj c cc δ' e' hc := by
    by_cases h : c = b
    · subst h
      rw [hb] at hc; cases hc
      exact ⟨o, by rw [AH.get_set, if_pos rfl], ho⟩
    · obtain ⟨o', h1, h2⟩ := hH.obj c cc δ' e' hc
      refine ⟨o', by rw [AH.get_set, if_neg h]; exact h1, h2.world (hw cc fun ec => h ?_)⟩
      subst ec
      exact hH.inj _ _ _ _ _ _ _ hc hb
  inj := hH.inj
  dead c hc := by
    rw [AH.get_set]
    by_cases h : c = b
    · subst h; rw [hb] at hc; cases hc
    · rw [if_neg h]; exact hH.dead c hc
  nil := hH.nil
  fresh := hH.fresh
  base q hq := by
    have hne : ∀ x δ e, σ x = .to q δ e → x ≠ b := fun x δ' e' hx ex => by
      subst ex
      obtain ⟨k, k1, k2⟩ := (hH.base q hq).2 _ _ _ hx
      have := hrw _ k1
      simp [AObj.rw, k2] at this
    refine ⟨(hw q fun e => hne b δ _ (e ▸ hb) rfl).trans (hH.base q hq).1, fun x δ' e' hx => ?_⟩
    rw [AH.get_set, if_neg (hne x _ _ hx)]
    exact (hH.base q hq).2 _ _ _ hx
theorem Leads.turn [Base] {w' : World} {b cb δ e : Nat} {o : AObj} (hH : HRel σ H w) (hb : σ b = .to cb δ e) (hrw : ∀ o, H.get b = some o → o.rw = true) (hrw' : o.rw = true) (ho : ORel σ w' cb δ e o) (hw : ∀ k, k ≠ cb → w'.heap[k]? = w.heap[k]?)
    (hs : w'.heap.size = w.heap.size) (hos : w'.os = w.os ∧ w'.output = w.output ∧ w'.tape = w.tape) : Leads σ H w σ (H.set b o) w' where
  rel := hH.turn hb hrw ho hw
  ext := Ext.refl σ
  next := Nat.le_refl _
  stay c _ hu := ⟨hu, by rw [AH.get_set, if_neg]; intro e; subst e; rw [hb] at hu; cases hu⟩
  size := by omega
  frame k hk hn := ⟨hw k fun ek => hn b δ e (by rw [ek]; exact hb), hn⟩
  os := hos
  froz a := by
    by_cases ha : a.block = cb
    · obtain ⟨o', h1, h2⟩ := hH.obj b cb δ e hb
      rw [ho.unfrozen hrw' ha, h2.unfrozen (hrw _ h1) ha]
    · exact frozen_of (hw _ ha)
theorem lay_cell (k : Blk) (vs : List Value) (o i : Nat) : ({ k with tr := T.lay vs k.tr o } : Blk).cell i = if o ≤ i ∧ i < o + vs.length then vs.getD (i - o) undef else k.cell i := by
  rw [Blk.cell_eq, Blk.cell_eq, T.get_lay]
  split
  · rename_i h
    simp [List.getD, List.getElem?_eq_getElem (show i - o < vs.length by omega)]
  · rfl
theorem set_cells_rel [Base] {k : Blk} {δ e : Nat} {cs : Array Value} {vs cvs : List Value} {o : Nat} (hr : ∀ i, i < k.n → VRel σ (k.cell i) (cs.getD (δ + i) undef)) (hsz : cs.size = δ + k.n + e * k.sz)
    (hv : VRelL σ vs cvs) (hle : o + vs.length ≤ k.n) (i : Nat) (hi : i < k.n) :
    VRel σ (({ k with tr := T.lay vs k.tr o } : Blk).cell i) ((cs.toList.take (o + δ) ++ cvs ++ cs.toList.drop (o + δ + cvs.length)).toArray.getD (δ + i) undef) := by
  rw [lay_cell]
  have hl := hv.length
  have ht : (cs.toList.take (o + δ)).length = o + δ := by rw [List.length_take, Array.length_toList]; omega
  by_cases h : o ≤ i ∧ i < o + vs.length
  · rw [if_pos h]
    have : (cs.toList.take (o + δ) ++ cvs ++ cs.toList.drop (o + δ + cvs.length)).toArray.getD (δ + i) undef = cvs.getD (i - o) undef := by
      rw [Array.getD_eq_getD_getElem?]
      simp only [List.getElem?_toArray, List.append_assoc]
      rw [List.getElem?_append_right (by omega), ht, List.getElem?_append_left (by omega), show δ + i - (o + δ) = i - o by omega]
      simp [List.getD]
    rw [this]
    exact getD_rel hv _
  · rw [if_neg h]
    have : (cs.toList.take (o + δ) ++ cvs ++ cs.toList.drop (o + δ + cvs.length)).toArray.getD (δ + i) undef = cs.getD (δ + i) undef := by
      rw [Array.getD_eq_getD_getElem?, Array.getD_eq_getD_getElem?]
      simp only [List.getElem?_toArray, List.append_assoc]
      congr 1
      by_cases h1 : i < o
      · rw [List.getElem?_append_left (by omega), List.getElem?_take, if_pos (by omega)]; simp
      · rw [List.getElem?_append_right (by omega), ht, List.getElem?_append_right (by omega), List.getElem?_drop]
        rw [show o + δ + cvs.length + (δ + i - (o + δ) - cvs.length) = δ + i by omega]; simp
    rw [this]
    exact hr i hi
/-- Cells are written into a block that stands. -/
theorem store_ok [Base] (hH : HRel σ H w) {b cb δ e o : Nat} {k : Blk} {vs cvs : List Value} (hk : H.get b = some (.cells k)) (hb : σ b = .to cb δ e) (hv : VRelL σ vs cvs) (hle : o + vs.length ≤ k.n) (h1 : vs.all oneCellV = true) (hro : k.ro = false) :
    ∃ w', (storeCells ⟨cb, o + δ, none⟩ cvs).run P w = .ok () w' ∧ Leads σ H w σ (H.set b (.cells { k with tr := T.lay vs k.tr o })) w' := by
  obtain ⟨cs, t, fz, q1, q2, q3, q4⟩ := hH.cells hk hb
  rw [q4 hro] at q1
  have hl := hv.length
  have hrun := run_storeCells_at (P := P) cb (o + δ) t cvs 0 cs w q1 (by omega) (oneCells_ok hv h1)
  simp only [Nat.add_zero] at hrun
  refine ⟨_, hrun, Leads.turn hH hb (fun o ho => by rw [hk] at ho; cases ho; simp [AObj.rw, hro]) (by simp [AObj.rw, hro]) ?_ (fun k hk => setRow_other _ _ _ _ hk) (by simp) ⟨by simp, by simp, by simp⟩⟩
  refine ⟨_, t, _, setRow_heap w cb cs _ t _ q1, ?_, fun i hi => set_cells_rel q3 q2 hv hle i hi, fun _ => rfl⟩
  simp; omega
theorem astoreAt_ok [Base] (hH : HRel σ H w) {b o : Nat} {vs cvs : List Value} {H' : AH} {a : Addr} (hp : VRel σ (.pointer (some ⟨b, o, none⟩)) (.pointer (some a))) (hv : VRelL σ vs cvs) (h : astoreAt H b o vs = some H') :
    ∃ w', (storeCells a cvs).run P w = .ok () w' ∧ Leads σ H w σ H' w' := by
  unfold astoreAt at h
  split at h
  · rename_i k hk
    cases hb : (Nat.ble (o + vs.length) k.n && vs.all oneCellV && !k.ro) with
    | false => simp [hb] at h
    | true =>
      rw [hb, cond_true] at h
      cases h
      simp only [Bool.and_eq_true, Nat.ble_eq, Bool.not_eq_true'] at hb
      rcases hp.ptr_inv with ⟨cb, δ, e, hs, hc⟩ | ⟨ca, hs, hc⟩
      · cases hc
        exact store_ok hH hk hs hv hb.1.1 hb.1.2 hb.2
      · exact absurd hs (hH.alive hk)
  · simp at h

/-! ### What is appended or copied -/
theorem asrc_ok [Base] (hH : HRel σ H w) {size n : Nat} {x cx : Value} {vs : List Value} (hx : VRel σ x cx) (h : asrc size n H x = some vs) :
    ∃ cvs : List Value, VRelL σ vs cvs ∧ ∀ w', w'.heap = w.heap → (Builtin.firstCells size n cx).run P w' = .ok ⟨cvs⟩ w' := by
  unfold asrc at h
  split at h
  · cases h
    cases hx
    exact ⟨[], .nil, fun w' _ => rfl⟩
  · rename_i b o sp l c
    cases hn0 : Nat.beq n 0 with
    | true =>
    rw [hn0, cond_true] at h
    rw [Nat.beq_eq] at hn0
    cases h
    subst hn0
    obtain ⟨ca, l', c', hc⟩ : ∃ ca l' c', cx = .slice (some ca) l' c' := by
      rcases hx.slice_inv with ⟨cb, δ, e, hs, hc⟩ | ⟨ca, k', hs, hc⟩
      · exact ⟨_, _, _, hc⟩
      · exact ⟨_, _, _, hc⟩
    refine ⟨[], .nil, fun w' _ => ?_⟩
    rw [hc]
    show (loadCells ca (0 * size)).run P w' = _
    rw [Nat.zero_mul]
    exact run_loadCells w' ca 0 (fun _ => undef) fun j hj => absurd hj (Nat.not_lt_zero j)
    | false =>
    rw [hn0, cond_false] at h
    split at h
    · rename_i k hk
      cases hb : Nat.ble (o + n * size) k.n with
      | false => simp [hb] at h
      | true =>
        rw [hb, cond_true] at h
        cases h
        rw [Nat.ble_eq] at hb
        rcases hx.slice_inv with ⟨cb, δ, e, hs, hc⟩ | ⟨ca, k', hs, hc⟩
        · obtain ⟨cs, t, fz, q1, q2, q3, _⟩ := hH.cells hk hs
          refine ⟨_, acells_rel q3 (n * size) o hb, fun w' hw => ?_⟩
          rw [hc]
          exact run_loadRow (w := w') (by rw [hw]; exact q1) (by omega)
        · exact absurd hs (hH.alive hk)
    · simp at h
  · rename_i s
    cases hb : Nat.ble n s.data.toList.length with
    | false => rw [hb, cond_false] at h; cases h
    | true =>
      rw [hb, cond_true] at h
      cases h
      rw [hx.string_inv]
      refine ⟨_, VRelL.map (β := Unit) (g := fun b : UInt8 => .int .u8 b.toNat) _ fun x _ => .int _ _, fun w' _ => ?_⟩
      simp only [Builtin.firstCells, Sem.run_pure]
      congr 1
      apply Array.ext'
      simp [ByteArray.data_extract, List.map_take]
  · simp at h
theorem alenOf_ok {x cx : Value} {n : Nat} (hx : VRel σ x cx) (h : alenOf x = some n) (w : World) : (Builtin.lenOf cx).run P w = .ok n w := by
  unfold alenOf at h
  split at h
  · cases h
    obtain ⟨ca, k', hc, _⟩ := hx.sliceAny_inv
    rw [hc]; rfl
  · cases h
    rw [hx.string_inv]
    simp [Builtin.lenOf]
  · simp at h
theorem flat_get (z : List Value) : ∀ (m i : Nat), i < m * z.length → ((List.replicate m z).flatten)[i]? = z[i % z.length]?
  | 0, i, h => by simp at h
  | m + 1, i, h => by
    rw [List.replicate_succ, List.flatten_cons]
    by_cases hi : i < z.length
    · rw [List.getElem?_append_left hi, Nat.mod_eq_of_lt hi]
    · have h' : i - z.length < m * z.length := by have := Nat.add_mul m 1 z.length; rw [Nat.one_mul] at this; omega
      rw [List.getElem?_append_right (by omega), flat_get z m (i - z.length) h']
      exact congrArg (fun j => z[j]?) (Nat.mod_eq_sub_mod (by omega)).symm
theorem flat_length (z : List Value) : ∀ m, ((List.replicate m z).flatten).length = m * z.length
  | 0 => by simp
  | m + 1 => by rw [List.replicate_succ, List.flatten_cons, List.length_append, flat_length z m, Nat.succ_mul]; omega
theorem zeroCells_size (z : Array Value) (n : Nat) : (Builtin.zeroCells z n).size = n * z.size := by simp [Builtin.zeroCells]
theorem zeroCells_rel [Base] {z : List Value} {cz : Array Value} (h : VRelL σ z cz.toList) (m : Nat) : VRelL σ ((List.replicate m z).flatten) (Builtin.zeroCells cz m).toList := by
  have hl : z.length = cz.size := by simpa using h.length
  refine VRelL.of (by show _ = (Builtin.zeroCells cz m).size; rw [zeroCells_size, flat_length, hl]) fun i x y hx hy => ?_
  have hi : i < m * z.length := by
    have := (List.getElem?_eq_some_iff.1 hx).1
    rwa [flat_length] at this
  rw [flat_get _ _ _ hi] at hx
  obtain ⟨y', hy', hr⟩ := h.get _ _ hx
  have : y = y' := by
    have hz : 0 < z.length := by
      rcases Nat.eq_zero_or_pos z.length with h0 | h0
      · rw [h0] at hi; simp at hi
      · exact h0
    have hm : i % cz.size < cz.size := Nat.mod_lt _ (by omega)
    rw [hl] at hy' hi
    simp only [Builtin.zeroCells, Array.toList_map, Array.toList_range, List.getElem?_map, List.getElem?_range hi, Option.map_some, Option.some.injEq] at hy
    rw [← hy]
    simp [hm] at hy' ⊢
    exact hy'
  subst this
  exact hr

/-- The block b is dead, and what it was, or a longer copy of it, is a new one. -/
theorem Leads.moved [Base] {w' : World} {b cb δ e cb' δ' e' : Nat} {k : Blk} {obj : AObj} (hH : HRel σ H w) (hk : H.get b = some (.cells k)) (hro : k.ro = false) (hb : σ b = .to cb δ e)
    (hcb : cb' = cb ∨ w.heap.size ≤ cb') (ho : ORel (upd (upd σ b .dead) H.next (.to cb' δ' e')) w' cb' δ' e' obj) (hw : ∀ q, q ≠ cb → q < w.heap.size → w'.heap[q]? = w.heap[q]?)
    (hs : w.heap.size ≤ w'.heap.size) (hos : w'.os = w.os ∧ w'.output = w.output ∧ w'.tape = w.tape) (hfz : ∀ a, w'.frozen? a = w.frozen? a) :
    Leads σ H w (upd (upd σ b .dead) H.next (.to cb' δ' e')) ((H.kill b).push obj) w' := by
  have hbn : b ≠ H.next := fun e' => by have := hH.fresh H.next (Nat.le_refl _); rw [← e', hb] at this; cases this
  have hext : Ext σ (upd (upd σ b .dead) H.next (.to cb' δ' e')) := by
    intro x
    by_cases h1 : x = H.next
    · subst h1; rw [hH.fresh _ (Nat.le_refl _)]; trivial
    · rw [upd_ne _ _ h1]
      by_cases h2 : x = b
      · subst h2; rw [hb]; simp
      · rw [upd_ne _ _ h2]; cases σ x <;> simp
  have L : ∀ x cb δ e, σ x = .to cb δ e → cb < w.heap.size := fun x cb δ e hx => by obtain ⟨o, _, h⟩ := hH.obj x cb δ e hx; exact h.lt
  refine ⟨⟨?_, ?_, ?_, ?_, ?_, ?_⟩, hext, by simp, ?_, hs, ?_, hos, hfz⟩
  · intro x c d f hx
    by_cases h1 : x = H.next
    · subst h1; rw [upd_self] at hx; cases hx
      exact ⟨obj, by rw [AH.get_push, if_pos]; simp, ho⟩
    · rw [upd_ne _ _ h1] at hx
      by_cases h2 : x = b
      · subst h2; rw [upd_self] at hx; cases hx
      · rw [upd_ne _ _ h2] at hx
        obtain ⟨o, q1, q2⟩ := hH.obj x c d f hx
        refine ⟨o, by rw [AH.get_push, if_neg (by simpa using h1), AH.get_kill, if_neg h2]; exact q1, (q2.world (hw c (fun ec => h2 ?_) q2.lt)).ext hext⟩
        subst ec
        exact hH.inj _ _ _ _ _ _ _ hx hb
  · intro x y c d f d' f' hx hy
    by_cases h1 : x = H.next
    · by_cases h2 : y = H.next
      · rw [h1, h2]
      · rw [h1, upd_self] at hx; cases hx
        rw [upd_ne _ _ h2] at hy
        by_cases h3 : y = b
        · subst h3; rw [upd_self] at hy; cases hy
        · rw [upd_ne _ _ h3] at hy
          rcases hcb with rfl | hcb
          · exact absurd (hH.inj _ _ _ _ _ _ _ hy hb) h3
          · have := L _ _ _ _ hy; omega
    · rw [upd_ne _ _ h1] at hx
      by_cases h3 : x = b
      · subst h3; rw [upd_self] at hx; cases hx
      · rw [upd_ne _ _ h3] at hx
        by_cases h2 : y = H.next
        · rw [h2, upd_self] at hy; cases hy
          rcases hcb with rfl | hcb
          · exact absurd (hH.inj _ _ _ _ _ _ _ hx hb) h3
          · have := L _ _ _ _ hx; omega
        · rw [upd_ne _ _ h2] at hy
          by_cases h4 : y = b
          · subst h4; rw [upd_self] at hy; cases hy
          · rw [upd_ne _ _ h4] at hy
            exact hH.inj _ _ _ _ _ _ _ hx hy
  · intro x hx
    by_cases h1 : x = H.next
    · subst h1; rw [upd_self] at hx; cases hx
    · rw [upd_ne _ _ h1] at hx
      rw [AH.get_push, if_neg (by simpa using h1), AH.get_kill]
      by_cases h2 : x = b
      · rw [if_pos h2]
      · rw [if_neg h2]; rw [upd_ne _ _ h2] at hx; exact hH.dead x hx
  · by_cases h1 : 0 = H.next
    · have := hH.fresh 0 (by omega); rw [hH.nil] at this; cases this
    · rw [upd_ne _ _ h1]
      by_cases h2 : 0 = b
      · rw [h2, upd_self]
      · rw [upd_ne _ _ h2]; exact hH.nil
  · intro x hx
    simp at hx
    rw [upd_ne _ _ (by omega), upd_ne _ _ (fun e => ?_)]
    · exact hH.fresh x (by omega)
    · subst e; have := hH.fresh x (by omega); rw [hb] at this; cases this
  · intro q hq
    have hlt := hH.base_lt hq
    have hne : q ≠ cb := fun e1 => by
      obtain ⟨k', k1, k2⟩ := (hH.base q hq).2 b δ e (e1 ▸ hb)
      rw [hk] at k1; cases k1; rw [hro] at k2; cases k2
    refine ⟨(hw q hne hlt).trans (hH.base q hq).1, fun x d f hx => ?_⟩
    by_cases h1 : x = H.next
    · rw [h1, upd_self] at hx; cases hx
      rcases hcb with rfl | hcb
      · exact absurd rfl hne
      · omega
    · rw [upd_ne _ _ h1] at hx
      by_cases h2 : x = b
      · rw [h2, upd_self] at hx; cases hx
      · rw [upd_ne _ _ h2] at hx
        rw [AH.get_push, if_neg (by simpa using h1), AH.get_kill, if_neg h2]
        exact (hH.base q hq).2 _ _ _ hx
  · intro x hx hu
    have h2 : x ≠ b := fun e => by rw [e, hb] at hu; cases hu
    exact ⟨by rw [upd_ne _ _ (by omega), upd_ne _ _ h2]; exact hu, by rw [AH.get_push, if_neg (by simp; omega), AH.get_kill, if_neg h2]⟩
  · intro q hq hn
    refine ⟨hw q (fun e0 => hn b δ e (by rw [e0]; exact hb)) hq, fun x d f hx => ?_⟩
    by_cases h1 : x = H.next
    · rw [h1, upd_self] at hx; cases hx
      rcases hcb with rfl | hcb
      · exact hn b δ e hb
      · omega
    · rw [upd_ne _ _ h1] at hx
      by_cases h2 : x = b
      · rw [h2, upd_self] at hx; cases hx
      · rw [upd_ne _ _ h2] at hx; exact hn _ _ _ hx
end
end Go.Eng
