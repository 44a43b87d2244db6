/- What makes a block: sound. -/
import Derived.Test.YtcnamndapofimaaGreatDoorEngG
namespace Go.Eng
open Go
section
variable {P : Program} {C : Ctx} {σ : Ren} {H : AH} {w : World}

/-- A new block of the model's, and what the engine says of it. -/
def Mk (σ : Ren) : AObj → Obj → Prop
  | .cells k, .cells cs _ (0, 0) => cs.size = k.n ∧ (∀ i, i < k.n → VRel σ (k.cell i) (cs.getD i undef)) ∧ k.ro = false
  | .map es, .map ces _ => es = [] ∧ ces = #[]
  | _, _ => False
theorem Mk.cells {k : Blk} {cs : Array Value} {t : TypeId} (h1 : cs.size = k.n) (h2 : ∀ i, i < k.n → VRel σ (k.cell i) (cs.getD i undef)) (h3 : k.ro = false := by rfl) : Mk σ (.cells k) (.cells cs t) := ⟨h1, h2, h3⟩

theorem cell_leaf (n sz : Nat) (z : List Value) (i : Nat) : ({ n := n, sz := sz, tr := .leaf, zero := z } : Blk).cell i = z.getD (i % z.length) undef := by
  rw [Blk.cell_eq]; rfl
theorem getD_rel {l l' : List Value} (h : VRelL σ l l') (i : Nat) : VRel σ (l.getD i undef) (l'.getD i undef) := by
  cases hi : l[i]? with
  | none =>
    have : l'[i]? = none := by rw [List.getElem?_eq_none_iff] at hi ⊢; rw [← h.length]; exact hi
    simp [List.getD, hi, this]
  | some x =>
    obtain ⟨y, hy, hv⟩ := h.get i x hi
    simpa [List.getD, hi, hy] using hv

/-- The list that a block of n cells reads as. -/
def View (tr : T Value) (zero : List Value) (cs : List Value) : Prop := ∀ i, i < cs.length → cs[i]? = some ((tr.get i).getD (zero.getD (i % zero.length) undef))
theorem afillT_cons (size n : Nat) (p : Nat × Value) (ps : List (Nat × Value)) (t : T Value) : afillT size n (p :: ps) t =
    bif someCells p.2 size && Nat.ble (p.1 * size + size) n then afillT size n ps (T.lay (cellsOfV p.2) t (p.1 * size)) else none := rfl
theorem View.lay {tr : T Value} {zero cs vs : List Value} {off : Nat} (h : View tr zero cs) (hl : off + vs.length ≤ cs.length) : View (T.lay vs tr off) zero (spl cs off vs) := by
  intro i hi
  rw [spl_length _ _ _ hl] at hi
  rw [spl_get _ _ _ hl, T.get_lay]
  split
  · rename_i hr
    rw [List.getElem?_eq_getElem (by omega)]; rfl
  · exact h i hi
theorem afillT_ok [Base] {size : Nat} {zero : List Value} : ∀ (ps : List (Nat × Value)) (tr tr' : T Value) (cs : List Value), View tr zero cs → afillT size cs.length ps tr = some tr' →
    ∃ cs', afill (fun i => some (i * size, size)) cs ps = some cs' ∧ cs'.length = cs.length ∧ View tr' zero cs'
  | [], tr, tr', cs, h, e => by
    have : tr = tr' := by simpa [afillT] using e
    subst this
    exact ⟨cs, rfl, rfl, h⟩
  | p :: ps, tr, tr', cs, h, e => by
    rw [afillT_cons] at e
    cases hb : (someCells p.2 size && Nat.ble (p.1 * size + size) cs.length) with
    | false => simp [hb] at e
    | true =>
      rw [hb, cond_true] at e
      have hb' := hb
      simp only [Bool.and_eq_true, Nat.ble_eq] at hb
      obtain ⟨e1, e2⟩ := someCells_ok hb.1
      have hl : p.1 * size + (cellsOfV p.2).length ≤ cs.length := by rw [e1]; exact hb.2
      have hl2 := spl_length cs (p.1 * size) (cellsOfV p.2) hl
      obtain ⟨cs', k1, k2, k3⟩ := afillT_ok ps _ tr' (spl cs (p.1 * size) (cellsOfV p.2)) (h.lay hl) (by rw [hl2]; exact e)
      refine ⟨cs', ?_, by rw [k2, hl2], k3⟩
      rw [afill_cons]
      simp only [hb', cond_true]
      exact k1

theorem pattern_get (z : List Value) (n i : Nat) (hi : i < n) (hz : z.length ≠ 0) : ((Array.range n).map fun j => (⟨z⟩ : Array Value)[j % (⟨z⟩ : Array Value).size]!).getD i undef = z.getD (i % z.length) undef := by
  have h : i % z.length < z.length := Nat.mod_lt _ (by omega)
  simp [hi, List.getD, h]

set_option maxHeartbeats 4000000 in
theorem aalloc_ok [Base] (hC : CtxOk C P) {ev cev : Operand → Value} (hev : ∀ x, VRel σ (ev x) (cev x)) {o : Oper} {obj : AObj} {nv : NewV} (h : aalloc C ev o.op = some (obj, nv)) :
    ∃ cobj, Mk σ obj cobj ∧ ∀ w, (execOp cev o).run P w = .ok (.value (nv.val w.heap.size)) (w.alloc cobj) := by
  unfold execOp
  generalize o.op = op at h ⊢
  cases op
  case alloc t =>
    simp only [aalloc] at h
    split at h
    · rename_i i hi
      have T := hC.ty _ _ hi
      cases h
      refine ⟨.cells i.zval.cells t, Mk.cells rfl fun q hq => ?_, fun w => ?_⟩
      · rw [cell_leaf, Nat.mod_eq_of_lt hq]
        have := getD_rel (zero_cells (σ := σ) T) q
        simpa [TI.zero, List.getD] using this
      · exact run_v (by simp only [Instr.alloc, Sem.run_bind, T.run_zero w, Result.andThen_ok, newVar, newRow, run_newObj, Sem.run_pure]; rfl)
    · simp at h
  case box t x =>
    simp only [aalloc] at h
    cases hb : Nat.blt 0 (cellsOfV (ev x)).length with
    | false => simp [hb] at h
    | true =>
      rw [hb, cond_true] at h
      cases h
      rw [Nat.blt_eq] at hb
      have hr := cells_rel (hev x) (fun e => by rw [e] at hb; simp at hb)
      refine ⟨.cells (cev x).cells t, Mk.cells hr.length.symm fun q hq => ?_, fun w => ?_⟩
      · rw [cell_leaf, Nat.mod_eq_of_lt hq]
        have := getD_rel hr q
        simpa [List.getD] using this
      · exact run_v (by simp only [Instr.box, Sem.run_bind, Result.andThen_ok, newVar, newRow, run_newObj, Sem.run_pure]; rfl)
  case buildSlice t len ps =>
    simp only [aalloc] at h
    split at h
    · simp at h
    · rename_i i hi
      have T := hC.ty _ _ hi
      have hu := T.under
      generalize hd : i.desc = dd at h hu
      split at h
      · rename_i e
        split at h
        · simp at h
        · rename_i j hj
          have Tj := hC.ty _ _ hj
          cases hb : (Nat.ble (len * j.size) 16777216 && Nat.beq j.zero.length j.size) with
          | false => simp [hb] at h
          | true =>
            rw [hb, cond_true] at h
            simp only [Bool.and_eq_true, Nat.ble_eq, Nat.beq_eq] at hb
            obtain ⟨hb1, hb2⟩ := hb
            split at h
            · rename_i tr htr
              cases h
              -- the cells ahead of the filling
              have hz : VRelL σ j.zero j.zero := zero_cells Tj
              let base : List Value := (List.range (len * j.size)).map fun q => j.zero.getD (q % j.zero.length) undef
              have hbl : base.length = len * j.size := by simp [base]
              have hview : View .leaf j.zero base := by
                intro q hq
                rw [hbl] at hq
                simp [base, List.getElem?_map, List.getElem?_range hq]
              obtain ⟨cs', k1, k2, k3⟩ := afillT_ok _ .leaf tr base hview (by rw [hbl]; exact htr)
              have hself : VRelL σ base base := VRelL.map (β := Unit) _ fun q _ => getD_rel hz _
              have hps : ∀ p ∈ ps.toList, ((fun p : Nat × Operand => (p.1, ev p.2)) p).1 = ((fun p : Nat × Operand => (p.1, cev p.2)) p).1 ∧ VRel σ ((fun p : Nat × Operand => (p.1, ev p.2)) p).2 ((fun p : Nat × Operand => (p.1, cev p.2)) p).2 := fun p _ => ⟨rfl, hev _⟩
              obtain ⟨r', h1, h2⟩ := afill_ok (place := fun k => some (k * j.size, j.size)) (place' := fun k => some (k * j.size, j.size)) (fun i x h => h) _ _ ps.toList base base cs' hps hself k1
              refine ⟨.cells ⟨r'⟩ e, Mk.cells ?_ fun q hq => ?_, fun w => ?_⟩
              · show r'.length = len * j.size
                rw [← h2.length, k2, hbl]
              · have hq' : q < cs'.length := by rw [k2, hbl]; exact hq
                have e1 := k3 q hq'
                obtain ⟨y, hy, hv⟩ := h2.get q _ e1
                rw [Blk.cell_eq]
                simpa [hy] using hv
              · refine run_v ?_
                have hmap : (ps.map fun (i, x) => (i, cev x)).toList = ps.toList.map fun p => (p.1, cev p.2) := by simp
                simp only [Instr.buildSlice, Sem.run_bind, run_underlying hu, Result.andThen_ok, Tj.run_size w]
                rw [if_neg (by omega)]
                simp only [hmap]
                have hfill : Instr.fill (fun i => some (i * j.size, j.size)) ⟨base⟩ (ps.toList.map fun p => (p.1, cev p.2)) = some ⟨r'⟩ := h1
                by_cases h0 : len * j.size = 0
                · have hb0 : ((Array.range (len * j.size)).map fun q => (#[] : Array Value)[q % (#[] : Array Value).size]!) = ⟨base⟩ := by
                    have : base = [] := by apply List.eq_nil_of_length_eq_zero; rw [hbl, h0]
                    rw [this, h0]; simp
                  rw [if_pos h0]
                  simp only [Sem.run_bind, Sem.run_pure, Result.andThen_ok]
                  rw [hb0, hfill]
                  simp [newRow]; rfl
                · have hb0 : ((Array.range (len * j.size)).map fun q => j.zval.cells[q % j.zval.cells.size]!) = ⟨base⟩ := by
                    have hzl : j.zero.length ≠ 0 := by rw [hb2]; intro e; exact h0 (by rw [e]; simp)
                    apply Array.ext'
                    apply List.ext_getElem?
                    intro q
                    by_cases hq : q < len * j.size
                    · have hm : q % j.zero.length < j.zero.length := Nat.mod_lt _ (by omega)
                      simp only [base, List.getElem?_map, List.getElem?_range hq, Array.toList_map, Array.toList_range, Option.map_some]
                      rw [show j.zero = j.zval.cells.toList from rfl] at hm ⊢
                      simp only [Array.length_toList] at hm ⊢
                      simp [hm, List.getD]
                    · simp [base, hq]
                  rw [if_neg h0]
                  simp only [Sem.run_bind, Tj.run_zero w, Sem.run_pure, Result.andThen_ok]
                  rw [hb0, hfill]
                  simp [newRow]; rfl
            · simp at h
      · simp at h
  case makeSlice t l c =>
    simp only [aalloc] at h
    have hl := hev l
    have hc := hev c
    split at h
    · rename_i i k l' k' c' hi e1 e2
      rw [e1] at hl; rw [e2] at hc
      have hl := hl.int_inv
      have hc := hc.int_inv
      have T := hC.ty _ _ hi
      have hu := T.under
      generalize hd : i.desc = dd at h hu
      split at h
      · rename_i e
        split at h
        · simp at h
        · rename_i j hj
          have Tj := hC.ty _ _ hj
          cases hb : (Nat.ble l' c' && Nat.ble (j.bytes * c') 140737488355328 && Nat.ble c' 140737488355328 && Nat.beq j.zero.length j.size) with
          | false => simp [hb] at h
          | true =>
            rw [hb, cond_true] at h
            simp only [Bool.and_eq_true, Nat.ble_eq, Nat.beq_eq] at hb
            obtain ⟨⟨⟨hb1, hb2⟩, hb3⟩, hb4⟩ := hb
            cases h
            refine ⟨.cells ((Array.range (c' * j.size)).map fun q => (if c' * j.size = 0 then #[] else j.zval.cells)[q % (if c' * j.size = 0 then #[] else j.zval.cells).size]!) e, Mk.cells (by simp) fun q hq => ?_, fun w => ?_⟩
            · simp only at hq
              rw [cell_leaf]
              have h0 : c' * j.size ≠ 0 := by omega
              have hzl : j.zero.length ≠ 0 := by rw [hb4]; intro e; exact h0 (by rw [e]; simp)
              simp only [h0, if_false]
              have := pattern_get j.zero (c' * j.size) q hq hzl
              have e1 : (⟨j.zero⟩ : Array Value) = j.zval.cells := rfl
              rw [e1] at this
              rw [this]
              exact getD_rel (zero_cells Tj) _
            · refine run_v ?_
              obtain ⟨inf, q1, q2, _⟩ := Tj.run_info w
              have w1 : IntKind.wrap .i64 (Int.ofNat l') = Int.ofNat l' := wrap_i64 _ (by have : (0 : Int) ≤ Int.ofNat l' := Int.natCast_nonneg l'; omega) (by rw [Int.ofNat_eq_natCast]; omega)
              have w2 : IntKind.wrap .i64 (Int.ofNat c') = Int.ofNat c' := wrap_i64 _ (by have : (0 : Int) ≤ Int.ofNat c' := Int.natCast_nonneg c'; omega) (by rw [Int.ofNat_eq_natCast]; omega)
              rw [hl, hc]
              simp only [Instr.makeSlice, Sem.run_bind, run_underlying hu, Result.andThen_ok, asInt, asIntOf, Sem.run_pure, q1, q2, w1, w2]
              have hm1 : ((j.bytes : Int) * Int.ofNat c') = ((j.bytes * c' : Nat) : Int) := by rw [Int.ofNat_eq_natCast]; simp
              have hn1 : ¬ (Int.ofNat c' < 0) := by have : (0 : Int) ≤ Int.ofNat c' := Int.natCast_nonneg c'; omega
              have hn2 : ¬ (Int.ofNat l' < 0) := by have : (0 : Int) ≤ Int.ofNat l' := Int.natCast_nonneg l'; omega
              have hn3 : ¬ (Int.ofNat l' > Int.ofNat c') := by rw [Int.ofNat_eq_natCast, Int.ofNat_eq_natCast]; omega
              have hn4 : ¬ ((j.bytes : Int) * Int.ofNat c' > 2 ^ 48) := by rw [hm1, show (2 : Int) ^ 48 = 281474976710656 by decide]; omega
              rw [if_neg (by simp only [hn1, hn2, hn3, hn4, decide_false, Bool.or_false]; simp)]
              have ht1 : (Int.ofNat c').toNat = c' := rfl
              have ht2 : (Int.ofNat l').toNat = l' := rfl
              by_cases h0 : c' * j.size = 0
              · simp only [Sem.run_bind, run_askRoom, Result.andThen_ok, ht1, ht2, Tj.run_size w]
                rw [if_pos h0]
                simp only [Sem.run_bind, Sem.run_pure, Result.andThen_ok, newRow, run_newObj, h0, if_true]
                rfl
              · simp only [Sem.run_bind, run_askRoom, Result.andThen_ok, ht1, ht2, Tj.run_size w]
                rw [if_neg h0]
                simp only [Sem.run_bind, Tj.run_zero w, Sem.run_pure, Result.andThen_ok, newRow, run_newObj, h0, if_false]
                rfl
      · simp at h
    · simp at h
  case makeMap t r =>
    simp only [aalloc] at h
    split at h
    · simp at h
    · rename_i i hi
      have T := hC.ty _ _ hi
      have hu := T.under
      generalize hd : i.desc = dd at h hu
      split at h
      · cases h
        exact ⟨.map #[] 0, ⟨rfl, rfl⟩, fun w => run_v (by simp [Instr.makeMap]; rfl)⟩
      · rename_i x
        have hx := hev x
        split at h
        · rename_i k n e; rw [e] at hx
          cases h
          exact ⟨.map #[] 0, ⟨rfl, rfl⟩, fun w => run_v (by simp [Instr.makeMap, hx.int_inv, run_underlying hu, asInt, asIntOf]; rfl)⟩
        · simp at h
      · simp at h
  all_goals simp [aalloc] at h

/-! ### A block is born -/
def upd (σ : Ren) (b : Nat) (s : Slot) : Ren := fun x => if x = b then s else σ x
@[simp] theorem upd_self (σ : Ren) (b : Nat) (s : Slot) : upd σ b s b = s := by simp [upd]
theorem upd_ne (σ : Ren) {b x : Nat} (s : Slot) (h : x ≠ b) : upd σ b s x = σ x := by simp [upd, h]
theorem Ext.upd [Base] {b : Nat} (hb : σ b = .unborn) (s : Slot) : Ext σ (upd σ b s) := by
  intro x
  by_cases h : x = b
  · subst h; rw [hb]; trivial
  · rw [upd_ne _ _ h]
    cases σ x <;> simp
theorem VRelL.ext' {σ σ' : Ren} (h : Ext σ σ') {v w : List Value} (r : VRelL σ v w) : VRelL σ' v w := VRelL.ext h r
theorem ORel.of_mk {obj : AObj} {cobj : Obj} {cb : Nat} (h : Mk σ obj cobj) (hw : w.heap[cb]? = some cobj) : ORel σ w cb 0 0 obj := by
  cases obj with
  | cells k =>
    cases cobj <;> try exact h.elim
    rename_i cs t fz
    obtain ⟨lo, hi⟩ := fz
    cases lo with
    | succ n => exact h.elim
    | zero => cases hi with
      | succ n => exact h.elim
      | zero => exact ⟨cs, t, _, hw, by rw [h.1]; omega, fun i hi => by rw [Nat.zero_add]; exact h.2.1 i hi, fun _ => rfl⟩
  | map es =>
    cases cobj <;> try exact h.elim
    obtain ⟨rfl, rfl⟩ := h
    exact ⟨#[], _, hw, rfl, rfl, .nil, .nil⟩
  | loop l => cases cobj <;> exact h.elim
  | deferred o => cases cobj <;> exact h.elim
theorem Mk.rw {obj : AObj} {cobj : Obj} (h : Mk σ obj cobj) : obj.rw = true := by
  cases obj with
  | cells k =>
    cases cobj <;> try exact h.elim
    rename_i cs t fz
    obtain ⟨lo, hi⟩ := fz
    cases lo with
    | succ n => exact h.elim
    | zero => cases hi with
      | succ n => exact h.elim
      | zero => simp [AObj.rw, h.2.2]
  | _ => rfl
theorem heap_alloc_lt (w : World) (o : Obj) {cb : Nat} (h : cb < w.heap.size) : (w.alloc o).heap[cb]? = w.heap[cb]? := by
  show (w.heap.push o)[cb]? = _
  rw [Array.getElem?_push, if_neg (Nat.ne_of_lt h)]
theorem heap_alloc_new (w : World) (o : Obj) : (w.alloc o).heap[w.heap.size]? = some o := by
  show (w.heap.push o)[w.heap.size]? = _
  rw [Array.getElem?_push, if_pos rfl]
theorem ORel.upd [Base] {o : AObj} {cb δ e b : Nat} {s : Slot} (hb : σ b = .unborn) (h : ORel σ w cb δ e o) : ORel (upd σ b s) w cb δ e o := h.ext (Ext.upd hb s)
/-- The block b of a heap H' that is H with b laid (or H itself, b having been laid before) is born as the model's next block. -/
theorem HRel.bornAt [Base] {H' : AH} {b e : Nat} {obj : AObj} {cobj : Obj} (hH : HRel σ H w) (hb : σ b = .unborn) (hget : H'.get b = some obj) (hoth : ∀ c, c ≠ b → σ c ≠ .unborn → H'.get c = H.get c)
    (hn : b < H'.next) (hn' : H.next ≤ H'.next) (hmk : ORel σ (w.alloc cobj) w.heap.size 0 e obj) : HRel (Eng.upd σ b (.to w.heap.size 0 e)) H' (w.alloc cobj) where
  obj c cb δ e hc := by
    by_cases h : c = b
    · subst h
      rw [upd_self] at hc; cases hc
      exact ⟨obj, hget, hmk.upd hb⟩
    · rw [upd_ne _ _ h] at hc
      obtain ⟨o, h1, h2⟩ := hH.obj c cb δ e hc
      exact ⟨o, by rw [hoth c h (by rw [hc]; simp)]; exact h1, (h2.world (heap_alloc_lt w cobj h2.lt)).upd hb⟩
  inj c c' cb δ e δ' e' h1 h2 := by
    have L : ∀ x cb δ e, σ x = .to cb δ e → cb < w.heap.size := fun x cb δ e hx => by obtain ⟨o, _, h⟩ := hH.obj x cb δ e hx; exact h.lt
    by_cases e1 : c = b
    · by_cases e2 : c' = b
      · rw [e1, e2]
      · rw [e1, upd_self] at h1; cases h1
        rw [upd_ne _ _ e2] at h2
        have := L _ _ _ _ h2; omega
    · rw [upd_ne _ _ e1] at h1
      by_cases e2 : c' = b
      · rw [e2, upd_self] at h2; cases h2
        have := L _ _ _ _ h1; omega
      · rw [upd_ne _ _ e2] at h2
        exact hH.inj _ _ _ _ _ _ _ h1 h2
  dead c hc := by
    by_cases e1 : c = b
    · rw [e1, upd_self] at hc; cases hc
    · rw [upd_ne _ _ e1] at hc
      rw [hoth c e1 (by rw [hc]; simp)]
      exact hH.dead c hc
  nil := by
    by_cases h : 0 = b
    · rw [← h, hH.nil] at hb; cases hb
    · rw [upd_ne _ _ h]; exact hH.nil
  fresh c hc := by
    rw [upd_ne _ _ (by omega)]
    exact hH.fresh c (by omega)
  base q hq := by
    have hlt := hH.base_lt hq
    refine ⟨(heap_alloc_lt w cobj hlt).trans (hH.base q hq).1, fun c δ e' h => ?_⟩
    by_cases e1 : c = b
    · rw [e1, upd_self] at h; cases h; omega
    · rw [upd_ne _ _ e1] at h; rw [hoth c e1 (by rw [h]; simp)]; exact (hH.base q hq).2 c δ e' h
theorem HRel.born [Base] {H' : AH} {b : Nat} {obj : AObj} {cobj : Obj} (hH : HRel σ H w) (hb : σ b = .unborn) (hget : H'.get b = some obj) (hoth : ∀ c, c ≠ b → σ c ≠ .unborn → H'.get c = H.get c)
    (hn : b < H'.next) (hn' : H.next ≤ H'.next) (hmk : Mk σ obj cobj) : HRel (Eng.upd σ b (.to w.heap.size 0 0)) H' (w.alloc cobj) :=
  hH.bornAt hb hget hoth hn hn' (ORel.of_mk hmk (heap_alloc_new w cobj))
theorem ORel.froz_alloc {cobj : Obj} {δ e : Nat} {obj : AObj} (h : ORel σ (w.alloc cobj) w.heap.size δ e obj) (hrw : obj.rw = true) (a : Addr) : (w.alloc cobj).frozen? a = w.frozen? a := by
  by_cases ha : a.block = w.heap.size
  · rw [h.unfrozen hrw ha]
    have : w.heap[a.block]? = none := by rw [ha]; simp
    simp [World.frozen?, this]
  · apply frozen_of
    show (w.heap.push cobj)[a.block]? = _
    rw [Array.getElem?_push, if_neg ha]
theorem Leads.pushAt [Base] {e : Nat} {obj : AObj} {cobj : Obj} (hH : HRel σ H w) (hmk : ORel σ (w.alloc cobj) w.heap.size 0 e obj) (hrw : obj.rw = true) : Leads σ H w (Eng.upd σ H.next (.to w.heap.size 0 e)) (H.push obj) (w.alloc cobj) where
  rel := hH.bornAt (hH.fresh _ (Nat.le_refl _)) (by rw [AH.get_push, if_pos rfl]) (fun c hc _ => by rw [AH.get_push, if_neg hc]) (by simp) (by simp) hmk
  ext := Ext.upd (hH.fresh _ (Nat.le_refl _)) _
  next := by simp
  stay b hb hu := ⟨by rw [upd_ne _ _ (by omega)]; exact hu, by rw [AH.get_push, if_neg (by omega)]⟩
  size := by simp
  frame cb hc hn := ⟨heap_alloc_lt w cobj hc, fun b δ e h => by
    by_cases hb : b = H.next
    · rw [hb, upd_self] at h; cases h; omega
    · rw [upd_ne _ _ hb] at h; exact hn b δ e h⟩
  os := ⟨rfl, rfl, rfl⟩
  froz := hmk.froz_alloc hrw
theorem NewV.val_rel {nv : NewV} {b cb : Nat} (h : σ b = .to cb 0 0) : VRel σ (nv.val b) (nv.val cb) := by
  cases nv with
  | ptr => exact .ptr b 0 cb 0 0 h
  | slice l c => exact .slice b 0 none l c cb 0 0 h
  | map => exact .map b cb 0 0 h
theorem Leads.push [Base] {obj : AObj} {cobj : Obj} (hH : HRel σ H w) (hmk : Mk σ obj cobj) : Leads σ H w (Eng.upd σ H.next (.to w.heap.size 0 0)) (H.push obj) (w.alloc cobj) :=
  Leads.pushAt hH (ORel.of_mk hmk (heap_alloc_new w cobj)) hmk.rw
theorem HRel.drew [Base] (hH : HRel σ H w) : HRel σ H w.drew where
  obj b cb δ e h := by obtain ⟨o, h1, h2⟩ := hH.obj b cb δ e h; exact ⟨o, h1, h2.world rfl⟩
  inj := hH.inj
  dead := hH.dead
  nil := hH.nil
  fresh := hH.fresh
  base := hH.base
theorem Leads.drew [Base] (hH : HRel σ H w) : Leads σ H w σ H w.drew :=
  ⟨hH.drew, Ext.refl σ, Nat.le_refl _, fun _ _ h => ⟨h, rfl⟩, Nat.le_refl _, fun _ _ h => ⟨rfl, h⟩, ⟨rfl, rfl, rfl⟩, fun _ => rfl⟩
end
end Go.Eng
