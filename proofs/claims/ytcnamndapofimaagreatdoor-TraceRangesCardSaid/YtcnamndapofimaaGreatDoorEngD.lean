/- The engine's operations are sound, one by one: arithmetic, parts, equality, slicing. -/
import Derived.Test.YtcnamndapofimaaGreatDoorEngC
import Derived.Laws.StructEq
namespace Go.Eng
open Go
section
variable {P : Program} {C : Ctx} {σ : Ren}

theorem beq_bne (a b : Int) : (a != b) = !(a == b) := rfl
theorem bnot_lt (a b : Int) : (!decide (a < b)) = decide (b ≤ a) := by rw [Bool.eq_iff_iff]; simp
theorem aint_ok {op : BinOp} {k : IntKind} {a b : Int} {v : Value} (t : TypeId) (w : World) (h : aint op k a b = some v) :
    (binOp op t (.int k a) (.int k b)).run P w = .ok v w ∧ VRel σ v v := by
  unfold aint at h
  split at h
  · cases h; exact ⟨by simp [binOp_add, Op.intArith, awrap_eq], .int _ _⟩
  · cases h; exact ⟨by simp [binOp_sub, Op.intArith, awrap_eq]; rfl, .int _ _⟩
  · cases h; exact ⟨by simp [binOp_mul, Op.intArith, awrap_eq], .int _ _⟩
  · cases hb : ieq b 0 with
    | true => simp [hb] at h
    | false =>
      rw [ieq_eq] at hb
      have hb' : b ≠ 0 := by simpa using hb
      simp only [ieq_eq, hb, cond_false, Option.some.injEq] at h; subst h
      exact ⟨by simp [binOp_quo, Op.intDiv, hb', awrap_eq], .int _ _⟩
  · cases hb : ieq b 0 with
    | true => simp [hb] at h
    | false =>
      rw [ieq_eq] at hb
      have hb' : b ≠ 0 := by simpa using hb
      simp only [ieq_eq, hb, cond_false, Option.some.injEq] at h; subst h
      exact ⟨by simp [binOp_rem, Op.intDiv, hb'], .int _ _⟩
  · cases h; exact ⟨by simp [binOp_eql, ieq_eq], .bool _⟩
  · cases h; exact ⟨by simp only [binOp_neq, ieq_eq, Sem.run_pure, beq_bne], .bool _⟩
  · cases h; exact ⟨by simp [binOp_lss, ilt_eq], .bool _⟩
  · cases h; exact ⟨by simp only [binOp_leq, ilt_eq, Sem.run_pure, bnot_lt], .bool _⟩
  · cases h; exact ⟨by simp [binOp_gtr, ilt_eq], .bool _⟩
  · cases h; exact ⟨by simp only [binOp_geq, ilt_eq, Sem.run_pure, bnot_lt, ge_iff_le], .bool _⟩
  · simp at h

theorem astr_ok {op : BinOp} {a b : ByteArray} {v : Value} (t : TypeId) (w : World) (h : astr op a b = some v) :
    (binOp op t (.string a) (.string b)).run P w = .ok v w ∧ VRel σ v v := by
  have e : binOp op t (.string a) (.string b) = Op.stringOp op a b := by cases op <;> rfl
  rw [e]
  unfold astr at h
  unfold Op.stringOp
  split at h
  · cases hb : Nat.blt (a.size + b.size) 1099511627776 with
    | false => simp [hb] at h
    | true =>
      simp [hb] at h; subst h
      rw [Nat.blt_eq] at hb
      have hm : IntKind.max .i64 = 9223372036854775807 := by decide
      refine ⟨?_, .string _⟩
      simp only [hm]
      rw [if_neg (by omega)]; rfl
  · cases h; exact ⟨by simp [strEq_eq], .bool _⟩
  · cases h; exact ⟨by simp [strEq_eq], .bool _⟩
  · cases h; exact ⟨by simp [ByteArray.toList_eq], .bool _⟩
  · cases h; exact ⟨by simp [strEq_eq, ByteArray.toList_eq], .bool _⟩
  · cases h; exact ⟨by simp [strEq_eq, ByteArray.toList_eq], .bool _⟩
  · cases h; exact ⟨by simp [ByteArray.toList_eq], .bool _⟩
  · simp at h

theorem extract_list (cs : List Value) (off n : Nat) : (⟨cs⟩ : Array Value).extract off (off + n) = ⟨(cs.drop off).take n⟩ := by
  apply Array.ext'
  simp [List.extract_eq_take_drop]
theorem apart_ok (hC : CtxOk C P) {t : TypeId} {cs cs' : List Value} {off : Nat} {v : Value} (hr : VRelL σ cs cs') (h : apart C t cs off = some v) (w : World) :
    ∃ cv, (part t ⟨cs'⟩ off).run P w = .ok cv w ∧ VRel σ v cv := by
  unfold apart at h
  split at h
  · simp at h
  · rename_i i hi
    have T := hC.ty t i hi
    unfold part
    simp only [Sem.run_bind, T.run_agg w, Result.andThen_ok]
    cases ha : i.agg with
    | true =>
      simp [ha] at h; subst h
      simp only [if_true, Sem.run_bind, T.run_size w, Result.andThen_ok, Sem.run_pure]
      exact ⟨_, rfl, by rw [extract_list]; exact .agg _ _ ((hr.drop off).take _)⟩
    | false =>
      simp [ha] at h
      obtain ⟨y, hy, hv⟩ := hr.get off v h
      refine ⟨y, ?_, hv⟩
      simp [hy]

theorem cells_rel {v cv : Value} (h : VRel σ v cv) (hj : cellsOfV v ≠ []) : VRelL σ (cellsOfV v) cv.cells.toList := by
  cases h with
  | agg xs xs' h => exact h
  | any => exact absurd rfl hj
  | tuple xs xs' h => exact .cons (.tuple _ _ h) .nil
  | bool b => exact .cons (.bool _) .nil
  | int => exact .cons (.int _ _) .nil
  | string => exact .cons (.string _) .nil
  | nilPtr => exact .cons .nilPtr .nil
  | ptr _ _ _ _ _ hb => exact .cons (.ptr _ _ _ _ _ hb) .nil
  | ptrDead _ _ _ hb => exact .cons (.ptrDead _ _ _ hb) .nil
  | nilSlice => exact .cons (.nilSlice _ _) .nil
  | slice _ _ _ _ _ _ _ _ hb => exact .cons (.slice _ _ _ _ _ _ _ _ hb) .nil
  | sliceDead _ _ _ _ _ _ _ hb => exact .cons (.sliceDead _ _ _ _ _ _ _ hb) .nil
  | nilMap => exact .cons .nilMap .nil
  | map _ _ _ _ hb => exact .cons (.map _ _ _ _ hb) .nil
  | mapDead _ _ hb => exact .cons (.mapDead _ _ hb) .nil
  | nilFunc => exact .cons .nilFunc .nil
  | func _ _ _ _ _ h1 h2 => exact .cons (.func _ _ _ _ _ h1 h2) .nil
  | yield _ _ _ _ hb => exact .cons (.yield _ _ _ _ hb) .nil
  | yieldDead _ _ hb => exact .cons (.yieldDead _ _ hb) .nil
  | nilIface => exact .cons .nilIface .nil
  | iface _ _ _ h => exact .cons (.iface _ _ _ h) .nil

/-! ### Filling an aggregate -/
theorem spl_get (cs : List Value) (off : Nat) (vs : List Value) (h : off + vs.length ≤ cs.length) (j : Nat) :
    (spl cs off vs)[j]? = if off ≤ j ∧ j < off + vs.length then vs[j - off]? else cs[j]? := by
  unfold spl
  have ht : (cs.take off).length = off := by rw [List.length_take]; omega
  by_cases h1 : j < off
  · rw [List.getElem?_append_left (by omega), if_neg (by omega), List.getElem?_take, if_pos h1]
  · rw [List.getElem?_append_right (by omega), ht]
    by_cases h2 : j < off + vs.length
    · rw [List.getElem?_append_left (by omega), if_pos ⟨by omega, h2⟩]
    · rw [List.getElem?_append_right (by omega), if_neg (by omega), List.getElem?_drop]
      congr 1; omega
theorem spl_length (cs : List Value) (off : Nat) (vs : List Value) (h : off + vs.length ≤ cs.length) : (spl cs off vs).length = cs.length := by
  unfold spl; simp; omega
theorem fold_get (off : Nat) : ∀ (vs : List Value) (s : Nat) (cs : List Value), off + s + vs.length ≤ cs.length → ∀ j,
    ((vs.zipIdx s).foldl (fun (a : Array Value) (p : Value × Nat) => a.setIfInBounds (off + p.2) p.1) ⟨cs⟩).toList[j]? = if off + s ≤ j ∧ j < off + s + vs.length then vs[j - (off + s)]? else cs[j]?
  | [], s, cs, _, j => by rw [if_neg (by simp)]; rfl
  | x :: vs, s, cs, h, j => by
    simp only [List.zipIdx_cons, List.foldl_cons]
    have e : (⟨cs⟩ : Array Value).setIfInBounds (off + s) x = ⟨cs.set (off + s) x⟩ := by apply Array.ext'; simp
    rw [e, fold_get off vs (s + 1) (cs.set (off + s) x) (by simp at h ⊢; omega) j]
    simp only [List.length_cons] at h ⊢
    by_cases h1 : off + s = j
    · subst h1; rw [if_neg (by omega), if_pos (by omega), List.getElem?_set_self (by omega)]; simp
    · by_cases h2 : off + (s + 1) ≤ j ∧ j < off + (s + 1) + vs.length
      · rw [if_pos h2, if_pos (by omega)]
        obtain ⟨d, rfl⟩ : ∃ d, j = off + (s + 1) + d := ⟨j - (off + (s + 1)), by omega⟩
        rw [show off + (s + 1) + d - (off + (s + 1)) = d by omega, show off + (s + 1) + d - (off + s) = d + 1 by omega]; simp
      · rw [if_neg h2, if_neg (by omega), List.getElem?_set_ne h1]
theorem fold_spl (off : Nat) (vs cs : List Value) (h : off + vs.length ≤ cs.length) :
    (⟨vs⟩ : Array Value).zipIdx.foldl (fun (a : Array Value) (p : Value × Nat) => a.setIfInBounds (off + p.2) p.1) ⟨cs⟩ = ⟨spl cs off vs⟩ := by
  apply Array.ext'
  apply List.ext_getElem?
  intro j
  rw [← Array.foldl_toList, Array.toList_zipIdx]
  rw [fold_get off vs 0 cs (by simpa using h) j, spl_get cs off vs h j]
  simp
theorem VRelL.spl {cs cs' vs vs' : List Value} (off : Nat) (h : VRelL σ cs cs') (k : VRelL σ vs vs') : VRelL σ (spl cs off vs) (spl cs' off vs') := by
  unfold Eng.spl
  exact (h.take off).append (k.append (by rw [k.length]; exact h.drop _))
theorem afill_cons (place : Nat → Option (Nat × Nat)) (cells : List Value) (p : Nat × Value) (ps : List (Nat × Value)) :
    afill place cells (p :: ps) = match place p.1 with
      | none => none
      | some (off, size) => bif someCells p.2 size && Nat.ble (off + size) cells.length then afill place (spl cells off (cellsOfV p.2)) ps else none := rfl
theorem someCells_ok {v : Value} {n : Nat} (h : someCells v n = true) : (cellsOfV v).length = n ∧ cellsOfV v ≠ [] := by
  unfold someCells at h
  simp only [Bool.and_eq_true, Nat.beq_eq, Nat.blt_eq] at h
  refine ⟨h.1, fun e => ?_⟩
  rw [e] at h; simp at h; omega
theorem afill_ok {α : Type} {place place' : Nat → Option (Nat × Nat)} (hp : ∀ i x, place i = some x → place' i = some x) (f g : α → Nat × Value) : ∀ (ps : List α) (cs cs' r : List Value),
    (∀ p ∈ ps, (f p).1 = (g p).1 ∧ VRel σ (f p).2 (g p).2) → VRelL σ cs cs' → afill place cs (ps.map f) = some r →
    ∃ r', Instr.fill place' ⟨cs'⟩ (ps.map g) = some ⟨r'⟩ ∧ VRelL σ r r'
  | [], cs, cs', r, _, hr, h => by
    have : cs = r := by simpa [afill] using h
    subst this
    exact ⟨cs', rfl, hr⟩
  | p :: ps, cs, cs', r, hps, hr, h => by
    obtain ⟨h1, h2⟩ := hps p (by simp)
    rw [List.map_cons, afill_cons] at h
    split at h
    · simp at h
    · rename_i off size hpl
      cases hb : (someCells (f p).2 size && Nat.ble (off + size) cs.length) with
      | false => simp [hb] at h
      | true =>
        simp only [hb, cond_true] at h
        simp only [Bool.and_eq_true, Nat.ble_eq] at hb
        obtain ⟨e1, e2⟩ := someCells_ok hb.1
        have hc := cells_rel h2 e2
        have hl : (g p).2.cells.toList.length = size := by rw [← hc.length, e1]
        obtain ⟨r', hr', k⟩ := afill_ok hp f g ps _ (spl cs' off (g p).2.cells.toList) r (fun q hq => hps q (by simp [hq])) (hr.spl off hc) h
        refine ⟨r', ?_, k⟩
        have e3 : (g p) = ((g p).1, (g p).2) := rfl
        rw [List.map_cons, e3]
        unfold Instr.fill
        rw [← h1, hp _ _ hpl]
        simp only
        rw [if_neg]
        · rw [show (g p).2.cells = ⟨(g p).2.cells.toList⟩ from rfl, fold_spl off _ cs' (by rw [hl, ← hr.length]; exact hb.2)]
          exact hr'
        · have : (g p).2.cells.size = size := hl
          have h3 : (⟨cs'⟩ : Array Value).size = cs.length := hr.length.symm
          simp only [this, h3, ne_eq, not_true_eq_false, decide_false, Bool.false_or, decide_eq_true_eq]
          omega

/-! ### Equality -/
theorem aeqF_cons (eq : TypeId → Value → Value → Option Bool) (xs ys : List Value) (f : Field) (fs : List Field) :
    aeqF C eq xs ys (f :: fs) = match apart C f.type xs f.offset, apart C f.type ys f.offset with
      | some u, some v => match eq f.type u v with
        | some true => aeqF C eq xs ys fs
        | some false => some false
        | none => none
      | _, _ => none := rfl
/-- What is asked of pointers that are not nil. -/
def HpOk (P : Program) (σ : Ren) (w : World) (hp : Addr → Addr → Option Bool) : Prop :=
  ∀ a b ca cb r, VRel σ (.pointer (some a)) (.pointer (some ca)) → VRel σ (.pointer (some b)) (.pointer (some cb)) → hp a b = some r → (sameAddr ca cb).run P w = .ok r w
theorem hpOk_none (w : World) : HpOk P σ w (fun _ _ => none) := fun _ _ _ _ _ _ _ h => by simp at h

theorem placesOf_struct {fs : Array Field} {pl : List (Nat × Nat)} (h : placesOf P (.struct fs) = some pl) :
    (∀ f ∈ fs.toList, f.name ≠ "_") ∧ fs.toList.mapM (fun f => (P.info? f.type).map fun j => (f.offset, j.size)) = some pl := by
  unfold placesOf at h
  simp only at h
  split at h
  · simp at h
  · rename_i hn
    refine ⟨fun f hf e => hn ?_, h⟩
    rw [Array.any_eq_true']
    exact ⟨f, by simpa using hf, by simp [e]⟩
set_option maxHeartbeats 2000000 in
theorem aeq_ok (hC : CtxOk C P) {hp : Addr → Addr → Option Bool} {w : World} (hhp : HpOk P σ w hp) : ∀ (d : Nat) (t : TypeId) (x y cx cy : Value) (r : Bool),
    VRel σ x cx → VRel σ y cy → aeq C hp d t x y = some r → ∀ D, d ≤ D → (Op.equalIn D t cx cy).run P w = .ok r w := by
  intro d
  induction d with
  | zero => intro t x y cx cy r _ _ h; simp [aeq] at h
  | succ d ih =>
    intro t x y cx cy r hx hy h D hD
    obtain ⟨D, rfl⟩ : ∃ k, D = k + 1 := ⟨D - 1, by omega⟩
    unfold aeq at h
    split at h
    · simp at h
    · rename_i i hi
      have T := hC.ty t i hi
      have hu := T.under
      have hheld := T.held
      have hpl := T.places
      generalize hd : i.desc = dd at h hu hpl
      split at h
      all_goals first | (simp only [Option.some.injEq] at h; subst h) | skip
      case h_1 => cases hx; cases hy; simp [Op.equalIn, run_underlying hu]
      case h_2 =>
        cases hx; cases hy
        rename_i j a k b
        cases hk : kindEq j k with
        | false => simp [hk] at h
        | true =>
          simp only [hk, cond_true, Option.some.injEq] at h
          subst h
          rw [kindEq_eq] at hk; subst hk
          simp [Op.equalIn, run_underlying hu, ieq_eq]
      case h_3 => cases hx; cases hy; simp [Op.equalIn, run_underlying hu, strEq_eq']
      case h_4 =>
        cases hx
        cases hy <;> simp [Op.equalIn, run_underlying hu]
      case h_5 =>
        cases hy
        cases hx <;> simp [Op.equalIn, run_underlying hu]
      case h_6 e a b =>
        split at h
        · rename_i j hj
          have Tj := hC.ty _ _ hj
          cases hz : Nat.beq j.size 0 with
          | true => simp [hz] at h
          | false =>
            simp only [hz, cond_false] at h
            have hz' : j.size ≠ 0 := fun e => by rw [e] at hz; simp at hz
            obtain ⟨ca, rfl⟩ : ∃ ca, cx = .pointer (some ca) := by cases hx <;> exact ⟨_, rfl⟩
            obtain ⟨cb, rfl⟩ : ∃ cb, cy = .pointer (some cb) := by cases hy <;> exact ⟨_, rfl⟩
            have := hhp a b ca cb r hx hy h
            simp [Op.equalIn, run_underlying hu, Tj.run_size w, hz', this]
        · simp at h
      case h_7 => cases hx; cases hy; simp [Op.equalIn, run_underlying hu]
      case h_8 => cases hx; cases hy; simp [Op.equalIn, run_underlying hu]
      case h_9 => cases hx; cases hy; simp [Op.equalIn, run_underlying hu]
      case h_10 ms tx vx ty vy =>
        cases hx with | iface _ _ cvx hx => cases hy with | iface _ _ cvy hy =>
        cases hb : Nat.beq tx ty with
        | false =>
          simp only [hb, cond_false, Option.some.injEq] at h
          subst h
          have hne : tx ≠ ty := fun e => by rw [e] at hb; simp at hb
          simp [Op.equalIn, run_underlying hu, hne]
        | true =>
          rw [Nat.beq_eq] at hb; subst hb
          simp only [Nat.beq_refl, cond_true] at h
          split at h
          · rename_i j hj
            have Tj := hC.ty _ _ hj
            cases hcmp : j.cmp with
            | false => simp [hcmp] at h
            | true =>
              simp only [hcmp, cond_true] at h
              have := ih tx vx vy cvx cvy r hx hy h D (by omega)
              obtain ⟨inf, h1, _, h2, _⟩ := Tj.run_info w
              rw [hcmp] at h2
              simp [Op.equalIn, run_underlying hu, h1, h2, this]
          · simp at h
      case h_11 fs xs ys =>
        cases hx with | agg _ cxs hx => cases hy with | agg _ cys hy =>
        cases hh : i.held with
        | true => simp [hh] at h
        | false =>
          simp only [hh, cond_false] at h
          have hf : P.fieldsOf t = fs := by unfold Program.fieldsOf; rw [hu]
          rw [run_equalIn_struct w D t ⟨cxs⟩ ⟨cys⟩ (by rw [hf]; exact hu) (by rw [← hheld, hh]), hf]
          have hnb := (placesOf_struct hpl).1
          generalize fs.toList = l at h hnb
          clear hu hpl hf hd
          induction l with
          | nil =>
            have : r = true := by simpa [aeqF] using h.symm
            subst this
            simp [Op.eqFields]
          | cons f l ihl =>
            rw [aeqF_cons] at h
            split at h
            · rename_i u v hu hv
              obtain ⟨cu, hu1, hu2⟩ := apart_ok hC hx hu w
              obtain ⟨cv, hv1, hv2⟩ := apart_ok hC hy hv w
              have hn := hnb f (by simp)
              simp only [Op.eqFields, hn, ne_eq, not_false_eq_true, if_true, Sem.run_bind, hu1, hv1, Result.andThen_ok]
              split at h
              · rename_i he
                rw [ih f.type u v cu cv true hu2 hv2 he D (by omega)]
                simp only [Result.andThen_ok, Bool.not_true, Bool.false_eq_true, if_false]
                exact ihl h (fun g hg => hnb g (by simp [hg]))
              · rename_i he
                rw [ih f.type u v cu cv false hu2 hv2 he D (by omega)]
                have : r = false := by simpa using h.symm
                subst this
                simp
              · simp at h
            · simp at h
      case h_12 =>
        cases hx
        cases hy <;> simp [Op.equalIn, run_underlying hu]
      case h_13 =>
        cases hy
        cases hx <;> simp [Op.equalIn, run_underlying hu]
      case h_14 =>
        cases hx
        cases hy <;> simp [Op.equalIn, run_underlying hu]
      case h_15 =>
        cases hy
        cases hx <;> simp [Op.equalIn, run_underlying hu]
      case h_16 => cases hx; cases hy; simp [Op.equalIn, run_underlying hu]
      case h_17 =>
        cases hx
        cases hy <;> simp [Op.equalIn, run_underlying hu]
      case h_18 =>
        cases hy
        cases hx <;> simp [Op.equalIn, run_underlying hu]
      case h_19 => simp at h
end
end Go.Eng
