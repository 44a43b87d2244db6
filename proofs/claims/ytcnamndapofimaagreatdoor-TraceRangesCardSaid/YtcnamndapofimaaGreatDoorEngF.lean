/- What hangs on values alone: sound, in every world. -/
import Derived.Test.YtcnamndapofimaaGreatDoorEngE
namespace Go.Eng
open Go
section
variable {P : Program} {C : Ctx} {σ : Ren}

def numK : Value → Value → Bool
  | .int _ _, .int _ _ | .string _, .string _ | .float _ _, .float _ _ | .complex _ _ _, .complex _ _ _ => true
  | _, _ => false
theorem binOp_eql_plain (t : TypeId) (x y : Value) (h : numK x y = false) : binOp .eql t x y = (do pure (.bool (← Op.equal t x y))) := by
  cases x <;> cases y <;> first | rfl | (simp [numK] at h; done)
theorem binOp_neq_plain (t : TypeId) (x y : Value) (h : numK x y = false) : binOp .neq t x y = (do pure (.bool (!(← Op.equal t x y)))) := by
  cases x <;> cases y <;> first | rfl | (simp [numK] at h; done)
def guardK : Value → Value → Bool
  | .nilIface, .nilIface | .agg _, .agg _ => true
  | _, _ => false
theorem eqGuard_plain (op : BinOp) (t : TypeId) (x y : Operand) (a b : Value) (w : World) (h : guardK a b = false) : (eqGuard op t x y a b).run P w = .ok () w := by
  unfold eqGuard
  split
  · simp only [Bool.not_true, Bool.false_eq_true, if_false]
    cases a <;> cases b <;> first | rfl | (simp [guardK] at h; done)
  · simp only [Bool.not_true, Bool.false_eq_true, if_false]
    cases a <;> cases b <;> first | rfl | (simp [guardK] at h; done)
  · rfl
theorem isJ_no {x cx : Value} (h : VRel σ x cx) (hj : isJ x = false) : (∀ k n, cx = .int k n → x = .int k n) ∧ (∀ s, cx = .string s → x = .string s) ∧ (cx = .nilIface → x = .nilIface) ∧ (∀ l, cx = .agg l → ∃ l', x = .agg l') ∧ (∀ k n, cx ≠ .float k n) ∧ (∀ k n m, cx ≠ .complex k n m) := by
  cases h <;> simp [isJ] at hj ⊢
theorem abin_ok (hC : CtxOk C P) {hp : Addr → Addr → Option Bool} {w : World} (hhp : HpOk P σ w hp) {op : BinOp} {t : TypeId} {x y : Operand} {vx vy cx cy v : Value}
    (hx : VRel σ vx cx) (hy : VRel σ vy cy) (h : abin C hp op t (isConstO x || isConstO y) vx vy = some v) :
    ((do eqGuard op t x y cx cy; binOp op t cx cy : Sem Value)).run P w = .ok v w ∧ VRel σ v v := by
  unfold abin at h
  split at h
  · rename_i j a k b
    cases hx; cases hy
    cases hk : kindEq j k with
    | false => simp [hk] at h
    | true =>
      rw [hk, cond_true] at h
      rw [kindEq_eq] at hk; subst hk
      rw [eqGuard_at_int]
      exact aint_ok t w h
  · cases hx; cases hy
    rw [eqGuard_at_string]
    exact astr_ok t w h
  · rename_i n1 n2
    cases hj : (isJ vx || isJ vy) with
    | true => simp [hj] at h
    | false =>
    rw [hj, cond_false] at h
    simp only [Bool.or_eq_false_iff] at hj
    obtain ⟨x1, x2, x3, x4, x5, x6⟩ := isJ_no hx hj.1
    obtain ⟨y1, y2, y3, y4, y5, y6⟩ := isJ_no hy hj.2
    have hn : numK cx cy = false := by
      unfold numK
      split
      · exact (n1 _ _ _ _ (x1 _ _ rfl) (y1 _ _ rfl)).elim
      · exact (n2 _ _ (x2 _ rfl) (y2 _ rfl)).elim
      · exact (x5 _ _ rfl).elim
      · exact (x6 _ _ _ rfl).elim
      · rfl
    have G : aguard C t (isConstO x || isConstO y) vx vy = true → (eqGuard op t x y cx cy).run P w = .ok () w := by
      intro hg
      cases hgk : guardK cx cy with
      | false => exact eqGuard_plain _ _ _ _ _ _ _ hgk
      | true =>
        unfold guardK at hgk
        split at hgk
        · rw [x3 rfl, y3 rfl] at hg
          have : eqGuard op t x y .nilIface .nilIface = pure () := by
            simp only [aguard, Bool.or_eq_true] at hg
            rcases hg with hg | hg
            · cases x <;> first | exact eqGuard_nil_constL _ _ _ _ | (simp [isConstO] at hg; done)
            · cases y <;> first | exact eqGuard_nil_constR _ _ _ _ | (simp [isConstO] at hg; done)
          rw [this]; rfl
        · obtain ⟨l1, rfl⟩ := x4 _ rfl
          obtain ⟨l2, rfl⟩ := y4 _ rfl
          simp only [aguard] at hg
          split at hg
          · rename_i i hi
            have T := hC.ty _ _ hi
            have hgd : P.eqGuardType P.depth t = false := by rw [← T.guard]; simpa using hg
            unfold eqGuard
            cases op <;> simp [hgd]
          · simp at hg
        · simp at hgk
    split at h
    · cases hg : aguard C t (isConstO x || isConstO y) vx vy with
      | false => simp [hg] at h
      | true =>
        rw [hg, cond_true] at h
        split at h
        · rename_i r hr
          cases h
          refine ⟨?_, .bool _⟩
          rw [binOp_eql_plain _ _ _ hn]
          simp only [Sem.run_bind, G hg, Result.andThen_ok]
          rw [show Op.equal t cx cy = Op.equalIn Op.maxDepth t cx cy from rfl, aeq_ok hC hhp 6 t vx vy cx cy r hx hy hr _ (by decide)]
          rfl
        · simp at h
    · cases hg : aguard C t (isConstO x || isConstO y) vx vy with
      | false => simp [hg] at h
      | true =>
        rw [hg, cond_true] at h
        split at h
        · rename_i r hr
          cases h
          refine ⟨?_, .bool _⟩
          rw [binOp_neq_plain _ _ _ hn]
          simp only [Sem.run_bind, G hg, Result.andThen_ok]
          rw [show Op.equal t cx cy = Op.equalIn Op.maxDepth t cx cy from rfl, aeq_ok hC hhp 6 t vx vy cx cy r hx hy hr _ (by decide)]
          rfl
        · simp at h
    · simp at h

theorem map_toList {α β : Type} (f : α → β) (a : Array α) : a.map f = ⟨a.toList.map f⟩ := by apply Array.ext'; simp
theorem struct_places {fs : Array Field} {pl : List (Nat × Nat)} (h : fs.toList.mapM (fun f => (P.info? f.type).map fun j => (f.offset, j.size)) = some pl) (w : World) :
    (fs.mapM fun f => do pure (f.offset, ← sizeOf f.type) : Sem (Array (Nat × Nat))).run P w = .ok ⟨pl⟩ w := by
  have key : ∀ (l : List Field) (r : List (Nat × Nat)), l.mapM (fun f => (P.info? f.type).map fun j => (f.offset, j.size)) = some r →
      (l.mapM fun f => do pure (f.offset, ← sizeOf f.type) : Sem (List (Nat × Nat))).run P w = .ok r w := by
    intro l
    induction l with
    | nil => intro r h; simp at h; subst h; rfl
    | cons f l ih =>
      intro r h
      rw [List.mapM_cons] at h
      simp only [bind, Option.bind_eq_some_iff, pure, Option.some.injEq, Option.map_eq_some_iff] at h
      obtain ⟨p, ⟨j, hj, rfl⟩, r', hr', rfl⟩ := h
      rw [List.mapM_cons]
      simp only [Sem.run_bind, sizeOf, typeInfo, Sem.run_bind, run_program, Result.andThen_ok, hj, Sem.run_pure] at ih ⊢
      rw [ih r' hr']
      rfl
  have := key fs.toList pl h
  rw [Array.mapM_eq_mapM_toList]
  simp only [Sem.run_map, this, Result.andThen_ok]

theorem run_v {s : Sem Value} {cv : Value} {w w' : World} (h : s.run P w = .ok cv w') : (do pure (.value (← s)) : Sem Next).run P w = .ok (.value cv) w' := by
  simp only [Sem.run_bind, h, Result.andThen_ok, Sem.run_pure]
theorem VRel.bool_inv {b : Bool} {c : Value} (h : VRel σ (.bool b) c) : c = .bool b := by cases h; rfl
theorem VRel.int_inv {k : IntKind} {n : Int} {c : Value} (h : VRel σ (.int k n) c) : c = .int k n := by cases h; rfl
theorem VRel.string_inv {s : ByteArray} {c : Value} (h : VRel σ (.string s) c) : c = .string s := by cases h; rfl
theorem VRel.agg_inv {l : List Value} {c : Value} (h : VRel σ (.agg ⟨l⟩) c) : ∃ l', c = .agg ⟨l'⟩ ∧ VRelL σ l l' := by cases h with | agg _ l' h => exact ⟨l', rfl, h⟩
theorem VRel.tuple_inv {l : List Value} {c : Value} (h : VRel σ (.tuple ⟨l⟩) c) : ∃ l', c = .tuple ⟨l'⟩ ∧ VRelL σ l l' := by cases h with | tuple _ l' h => exact ⟨l', rfl, h⟩
theorem VRel.ptr_inv {b o : Nat} {c : Value} (h : VRel σ (.pointer (some ⟨b, o, none⟩)) c) :
    (∃ cb δ e, σ b = .to cb δ e ∧ c = .pointer (some ⟨cb, o + δ, none⟩)) ∨ (∃ ca, σ b = .dead ∧ c = .pointer (some ca)) := by
  cases h with
  | ptr _ _ cb δ e h => exact .inl ⟨cb, δ, e, h, rfl⟩
  | ptrDead _ _ ca h => exact .inr ⟨ca, h, rfl⟩
theorem VRel.somePtr_inv {a : Addr} {c : Value} (h : VRel σ (.pointer (some a)) c) : ∃ ca, c = .pointer (some ca) := by cases h <;> exact ⟨_, rfl⟩
theorem VRel.slice_inv {b o : Nat} {sp : Option Nat} {n k : Nat} {c : Value} (h : VRel σ (.slice (some ⟨b, o, sp⟩) n k) c) :
    (∃ cb δ e, σ b = .to cb δ e ∧ c = .slice (some ⟨cb, o + δ, none⟩) n (if sp.isSome then k + e else k)) ∨ (∃ ca k', σ b = .dead ∧ c = .slice (some ca) n k') := by
  cases h with
  | slice _ _ _ _ _ cb δ e h => exact .inl ⟨cb, δ, e, h, rfl⟩
  | sliceDead _ _ _ _ _ ca k' h => exact .inr ⟨ca, k', h, rfl⟩
theorem VRel.sliceAny_inv {a : Option Addr} {n k : Nat} {c : Value} (h : VRel σ (.slice a n k) c) : ∃ ca k', c = .slice ca n k' ∧ (a.isSome = ca.isSome) := by cases h <;> exact ⟨_, _, rfl, rfl⟩
theorem VRel.map_inv {r : Nat} {c : Value} (h : VRel σ (.map (some r)) c) : (∃ cr δ e, σ r = .to cr δ e ∧ c = .map (some cr)) ∨ (∃ cr, σ r = .dead ∧ c = .map (some cr)) := by
  cases h with
  | map _ cr δ e h => exact .inl ⟨cr, δ, e, h, rfl⟩
  | mapDead _ cr h => exact .inr ⟨cr, h, rfl⟩
theorem VRel.nilMap_inv {c : Value} (h : VRel σ (.map none) c) : c = .map none := by cases h; rfl
theorem VRel.func_inv {f : FuncId} {xs ys : List Value} {c : Value} (h : VRel σ (.func (.func f) ⟨xs⟩ ⟨ys⟩) c) : ∃ xs' ys', c = .func (.func f) ⟨xs'⟩ ⟨ys'⟩ ∧ VRelL σ xs xs' ∧ VRelL σ ys ys' := by
  cases h with | func _ _ _ xs' ys' h1 h2 => exact ⟨xs', ys', rfl, h1, h2⟩
theorem VRel.iface_inv {t : TypeId} {v c : Value} (h : VRel σ (.iface t v) c) : ∃ v', c = .iface t v' ∧ VRel σ v v' := by cases h with | iface _ _ v' h => exact ⟨v', rfl, h⟩
theorem zero_cells {t : TypeId} {i : TI} (T : TIok P t i) : VRelL σ i.zero i.zero := by
  have hz := T.closed
  unfold TI.zero
  generalize i.zval = z at hz
  have L : ∀ (n : Nat) (l : List Value), l.all (closedV n) = true → VRelL σ l l := fun n l h => by
    refine VRelL.of rfl fun i x y hx hy => ?_
    obtain rfl : x = y := by simpa [hx] using hy
    exact closedV_rel n x (List.all_eq_true.1 h x (List.mem_of_getElem? hx))
  cases z with
  | agg xs => cases xs with | mk xs => exact L 3 _ hz
  | _ => exact .cons (closedV_rel 4 _ hz) .nil
theorem args_one {α : Type} {a : Array α} {x : α} (h : a.toList = [x]) : a = #[x] := by apply Array.ext'; simpa using h
theorem args_two {α : Type} {a : Array α} {x y : α} (h : a.toList = [x, y]) : a = #[x, y] := by apply Array.ext'; simpa using h
theorem get_list {α : Type} (l : List α) (i : Nat) : (⟨l⟩ : Array α)[i]? = l[i]? := by simp
set_option maxHeartbeats 4000000 in
theorem apure_ok (hC : CtxOk C P) {ev cev : Operand → Value} (hev : ∀ x, VRel σ (ev x) (cev x)) {o : Oper} {v : Value} (h : apure C ev o.op = some v) (w : World) :
    ∃ cv, (execOp cev o).run P w = .ok (.value cv) w ∧ VRel σ v cv := by
  unfold execOp
  generalize o.op = op at h ⊢
  cases op
  case move x => simp only [apure, Option.some.injEq] at h; subst h; exact ⟨_, rfl, hev x⟩
  case assign x => simp only [apure, Option.some.injEq] at h; subst h; exact ⟨_, rfl, hev x⟩
  case pick c a b =>
    simp only [apure] at h
    have hc := hev c
    split at h
    · rename_i e; rw [e] at hc
      simp only [Option.some.injEq] at h; subst h
      exact ⟨_, by simp [asBool, hc.bool_inv], hev a⟩
    · rename_i e; rw [e] at hc
      simp only [Option.some.injEq] at h; subst h
      exact ⟨_, by simp [asBool, hc.bool_inv], hev b⟩
    · simp at h
  case build t ps =>
    simp only [apure] at h
    split at h
    · simp at h
    · rename_i i hi
      have T := hC.ty _ _ hi
      have hu := T.under
      have hpl := T.places
      have hz : VRelL σ i.zero i.zero := zero_cells T
      generalize hd : i.desc = dd at h hu hpl
      have hps : ∀ p ∈ ps.toList, ((fun p : Nat × Operand => (p.1, ev p.2)) p).1 = ((fun p : Nat × Operand => (p.1, cev p.2)) p).1 ∧ VRel σ ((fun p : Nat × Operand => (p.1, ev p.2)) p).2 ((fun p : Nat × Operand => (p.1, cev p.2)) p).2 := fun p _ => ⟨rfl, hev _⟩
      have hmap : (ps.map fun (i, x) => (i, cev x)).toList = ps.toList.map fun p => (p.1, cev p.2) := by simp
      split at h
      · rename_i fs
        split at h
        · rename_i l hl
          cases h
          obtain ⟨r', h1, h2⟩ := afill_ok (place := fun k => i.places[k]?) (place' := fun k => (⟨i.places⟩ : Array (Nat × Nat))[k]?) (fun i x h => by rw [get_list]; exact h) _ _ ps.toList i.zero i.zero l hps hz hl
          refine ⟨.agg ⟨r'⟩, run_v ?_, .agg _ _ h2⟩
          simp only [Instr.build, Sem.run_bind, T.run_zero w, Result.andThen_ok, run_underlying hu, struct_places (placesOf_struct hpl).2 w, hmap]
          rw [show (Instr.fill (fun x => (⟨i.places⟩ : Array (Nat × Nat))[x]?) i.zval.cells (ps.toList.map fun p => (p.1, cev p.2))) = some ⟨r'⟩ from h1]
          rfl
        · simp at h
      · rename_i n e
        split at h
        · simp at h
        · rename_i j hj
          have Tj := hC.ty _ _ hj
          split at h
          · rename_i l hl
            cases h
            obtain ⟨r', h1, h2⟩ := afill_ok (place' := fun k => some (k * j.size, j.size)) (fun i x h => h) _ _ ps.toList i.zero i.zero l hps hz hl
            refine ⟨.agg ⟨r'⟩, run_v ?_, .agg _ _ h2⟩
            simp only [Instr.build, Sem.run_bind, T.run_zero w, Result.andThen_ok, run_underlying hu, Tj.run_size w, hmap]
            rw [show (Instr.fill (fun k => some (k * j.size, j.size)) i.zval.cells (ps.toList.map fun p => (p.1, cev p.2))) = some ⟨r'⟩ from h1]
            rfl
          · simp at h
      · simp at h
  case nilCheck x =>
    simp only [apure] at h
    have hx := hev x
    split at h
    · rename_i a e; rw [e] at hx
      cases h
      obtain ⟨ca, hca⟩ := hx.somePtr_inv
      exact ⟨cev x, by simp only [hca]; rfl, hx⟩
    · rename_i f a b e; rw [e] at hx
      cases h
      obtain ⟨xs', ys', h1, h2, h3⟩ := VRel.func_inv (xs := a.toList) (ys := b.toList) hx
      exact ⟨cev x, by simp only [h1]; rfl, hx⟩
    · simp at h
  case binOp op t x y u =>
    simp only [apure] at h
    obtain ⟨h1, h2⟩ := abin_ok hC (hpOk_none w) (hev x) (hev y) h
    exact ⟨v, run_v h1, h2⟩
  case unOp op u x =>
    simp only [apure] at h
    have hx := hev x
    split at h
    · rename_i k n e; rw [e] at hx
      cases h
      refine ⟨_, run_v ?_, .int _ _⟩
      rw [hx.int_inv]
      simp [Op.unary, Op.intArith, awrap_eq, show Int.sub 0 n = 0 - n from rfl]
    · rename_i b e; rw [e] at hx
      cases h
      refine ⟨_, run_v ?_, .bool _⟩
      rw [hx.bool_inv]
      simp [Op.unary]
    · simp at h
  case convert s d x =>
    simp only [apure] at h
    have hx := hev x
    split at h
    · rename_i i j hi hj
      have Ti := hC.ty _ _ hi
      have Tj := hC.ty _ _ hj
      have hu := Tj.under
      generalize hd : j.desc = dd at h hu
      split at h
      · rename_i k n m e; rw [e] at hx
        cases h
        refine ⟨_, run_v ?_, .int _ _⟩
        rw [hx.int_inv]
        simp [convert, run_underlying hu, Ti.run_under w, Conv.intToInt, awrap_eq]
      · rename_i b e; rw [e] at hx
        cases h
        refine ⟨_, run_v ?_, .string _⟩
        rw [hx.string_inv]
        simp [convert, run_underlying hu, Ti.run_under w]
      · simp at h
    · simp at h
  case makeInterface t x =>
    simp only [apure] at h
    split at h
    · simp at h
    · rename_i i hi
      have T := hC.ty _ _ hi
      have hu := T.under
      generalize hd : i.desc = dd at h hu
      cases dd
      case interface => simp at h
      all_goals (simp only [Option.some.injEq] at h; subst h; exact ⟨_, run_v (by simp only [Instr.makeInterface, Sem.run_bind, run_underlying hu, Result.andThen_ok]; rfl), .iface _ _ _ (hev x)⟩)
  case makeFunc fn a b =>
    simp only [apure] at h
    split at h
    · cases h
      refine ⟨_, run_v rfl, ?_⟩
      rw [map_toList, map_toList]
      exact .func _ _ _ _ _ (VRelL.map (β := Unit) _ fun x _ => hev x) (VRelL.map (β := Unit) _ fun x _ => hev x)
    · simp at h
  case fieldAddr t x f =>
    simp only [apure] at h
    have hx := hev x
    split at h
    · rename_i i b o hi e; rw [e] at hx
      have T := hC.ty _ _ hi
      have hu := T.under
      have hpl := T.places
      generalize hd : i.desc = dd at h hu hpl
      split at h
      · rename_i fs off size hp
        cases hz : Nat.beq size 0 with
        | true => simp [hz] at h
        | false =>
          rw [hz, cond_false] at h
          cases h
          have hz' : size ≠ 0 := fun e => by rw [e] at hz; simp at hz
          obtain ⟨fd, hfd, hoff, hsz⟩ : ∃ fd, fs[f]? = some fd ∧ fd.offset = off ∧ ∀ w, (sizeOf fd.type).run P w = .ok size w := by
            have hm := (placesOf_struct hpl).2
            clear hu hpl hd
            have key : ∀ (l : List Field) (r : List (Nat × Nat)) (f : Nat), l.mapM (fun f => (P.info? f.type).map fun j => (f.offset, j.size)) = some r → r[f]? = some (off, size) →
                ∃ fd, l[f]? = some fd ∧ fd.offset = off ∧ ∀ w, (sizeOf fd.type).run P w = .ok size w := by
              intro l
              induction l with
              | nil => intro r f h hr; simp at h; subst h; simp at hr
              | cons g l ih =>
                intro r f h hr
                rw [List.mapM_cons] at h
                simp only [bind, Option.bind_eq_some_iff, pure, Option.some.injEq, Option.map_eq_some_iff] at h
                obtain ⟨p, ⟨j, hj, rfl⟩, r', hr', rfl⟩ := h
                cases f with
                | zero =>
                  simp at hr
                  exact ⟨g, rfl, hr.1, fun w => by simp [sizeOf, typeInfo, hj, hr.2]⟩
                | succ f => simpa using ih r' f hr' (by simpa using hr)
            obtain ⟨fd, h1, h2⟩ := key _ _ f hm hp
            exact ⟨fd, by simpa using h1, h2⟩
          have hrun : ∀ ca : Addr, ca.spot = none → (Instr.fieldAt t (.pointer (some ca)) f).run P w = .ok (.pointer (some (ca.add off))) w := by
            intro ca _
            simp [Instr.fieldAt, run_underlying hu, hfd, Instr.sureAddr, fieldPlace, hsz, hz', hoff]
          rcases hx.ptr_inv with ⟨cb, δ, e', hb, hc⟩ | ⟨ca, hb, hc⟩
          · refine ⟨_, run_v (by rw [hc]; exact hrun _ rfl), ?_⟩
            rw [Addr.add_lit, show o + δ + off = o + off + δ by omega]
            exact .ptr _ _ _ _ _ hb
          · refine ⟨.pointer (some (ca.add off)), run_v ?_, .ptrDead _ _ _ hb⟩
            rw [hc]
            simp [Instr.fieldAt, run_underlying hu, hfd, Instr.sureAddr, fieldPlace, hsz, hz', hoff]
      · simp at h
    · simp at h
  case field t x f =>
    simp only [apure] at h
    have hx := hev x
    split at h
    · rename_i i cs hi e; rw [e] at hx
      have T := hC.ty _ _ hi
      have hu := T.under
      generalize hd : i.desc = dd at h hu
      split at h
      · rename_i fs
        split at h
        · rename_i fd hfd
          obtain ⟨cs', hc, hr⟩ := hx.agg_inv
          obtain ⟨cv, h1, h2⟩ := apart_ok hC hr h w
          refine ⟨cv, run_v ?_, h2⟩
          rw [hc]
          simp [Instr.field, run_underlying hu, hfd, asAgg, h1]
        · simp at h
      · simp at h
    · simp at h
  case indexAddr t x ix =>
    simp only [apure] at h
    have hx := hev x
    have hix := hev ix
    split at h
    · rename_i i k n hi e; rw [e] at hix
      have T := hC.ty _ _ hi
      have hu := T.under
      have hix := hix.int_inv
      generalize hd : i.desc = dd at h hu
      split at h
      · rename_i el b o sp len cap e2; rw [e2] at hx
        split at h
        · rename_i j hj
          have Tj := hC.ty _ _ hj
          cases hb : Nat.blt n len with
          | false => simp [hb] at h
          | true =>
            rw [hb, cond_true] at h
            cases h
            rw [Nat.blt_eq] at hb
            have hi1 : (0 : Int) ≤ Int.ofNat n ∧ Int.ofNat n < (len : Int) := by rw [Int.ofNat_eq_natCast]; omega
            have ht : (Int.ofNat n).toNat = n := rfl
            rcases hx.slice_inv with ⟨cb, δ, e', hbb, hc⟩ | ⟨ca, k', hbb, hc⟩
            · refine ⟨.pointer (some ⟨cb, o + n * j.size + δ, none⟩), run_v ?_, .ptr _ _ _ _ _ hbb⟩
              rw [hc, hix]
              simp only [Instr.indexAt, Sem.run_bind, asIntOf, Sem.run_pure, Result.andThen_ok, run_underlying hu]
              rw [if_pos hi1]
              simp only [Sem.run_bind, Tj.run_size w, Result.andThen_ok, Sem.run_pure, ht, Addr.add_lit]
              rw [show o + δ + n * j.size = o + n * j.size + δ by omega]
            · refine ⟨.pointer (some (ca.add (n * j.size))), run_v ?_, .ptrDead _ _ _ hbb⟩
              rw [hc, hix]
              simp only [Instr.indexAt, Sem.run_bind, asIntOf, Sem.run_pure, Result.andThen_ok, run_underlying hu]
              rw [if_pos hi1]
              simp only [Sem.run_bind, Tj.run_size w, Result.andThen_ok, Sem.run_pure, ht]
        · simp at h
      · rename_i len el b o e2; rw [e2] at hx
        split at h
        · rename_i j hj
          have Tj := hC.ty _ _ hj
          cases hb : Nat.blt n len with
          | false => simp [hb] at h
          | true =>
            rw [hb, cond_true] at h
            cases h
            rw [Nat.blt_eq] at hb
            have hi1 : (0 : Int) ≤ Int.ofNat n ∧ Int.ofNat n < (len : Int) := by rw [Int.ofNat_eq_natCast]; omega
            have ht : (Int.ofNat n).toNat = n := rfl
            rcases hx.ptr_inv with ⟨cb, δ, e', hbb, hc⟩ | ⟨ca, hbb, hc⟩
            · refine ⟨.pointer (some ⟨cb, o + n * j.size + δ, none⟩), run_v ?_, .ptr _ _ _ _ _ hbb⟩
              rw [hc, hix]
              simp only [Instr.indexAt, Sem.run_bind, asIntOf, Sem.run_pure, Result.andThen_ok, run_underlying hu, Instr.sureAddr]
              rw [if_pos hi1]
              simp only [Sem.run_bind, Tj.run_size w, Result.andThen_ok, Sem.run_pure, ht, Addr.add_lit]
              rw [show o + δ + n * j.size = o + n * j.size + δ by omega]
            · refine ⟨.pointer (some (ca.add (n * j.size))), run_v ?_, .ptrDead _ _ _ hbb⟩
              rw [hc, hix]
              simp only [Instr.indexAt, Sem.run_bind, asIntOf, Sem.run_pure, Result.andThen_ok, run_underlying hu, Instr.sureAddr]
              rw [if_pos hi1]
              simp only [Sem.run_bind, Tj.run_size w, Result.andThen_ok, Sem.run_pure, ht]
        · simp at h
      · simp at h
    · simp at h
  case index t x ix =>
    simp only [apure] at h
    have hx := hev x
    have hix := hev ix
    split at h
    · rename_i i k n hi e; rw [e] at hix
      have T := hC.ty _ _ hi
      have hu := T.under
      have hix := hix.int_inv
      generalize hd : i.desc = dd at h hu
      split at h
      · rename_i s e2; rw [e2] at hx
        split at h
        · rename_i b hb
          cases h
          refine ⟨_, run_v ?_, .int _ _⟩
          rw [hx.string_inv, hix]
          simp only [Instr.index, Sem.run_bind, asIntOf, Sem.run_pure, Result.andThen_ok, run_underlying hu]
          have : s[(Int.ofNat n).toNat]? = some b := by
            obtain ⟨h1, h2⟩ := List.getElem?_eq_some_iff.1 hb
            have hs : n < s.size := by simpa using h1
            rw [show (Int.ofNat n).toNat = n from rfl]
            rw [getElem?_pos s n hs]
            congr 1
          rw [if_pos (by exact Int.natCast_nonneg n), this]
          rfl
        · simp at h
      · rename_i len el cs e2; rw [e2] at hx
        split at h
        · rename_i j hj
          have Tj := hC.ty _ _ hj
          cases hb : Nat.blt n len with
          | false => simp [hb] at h
          | true =>
            rw [hb, cond_true] at h
            rw [Nat.blt_eq] at hb
            have hi1 : (0 : Int) ≤ Int.ofNat n ∧ Int.ofNat n < (len : Int) := by rw [Int.ofNat_eq_natCast]; omega
            obtain ⟨cs', hc, hr⟩ := hx.agg_inv
            obtain ⟨cv, h1, h2⟩ := apart_ok hC hr h w
            refine ⟨cv, run_v ?_, h2⟩
            rw [hc, hix]
            simp only [Instr.index, Sem.run_bind, asIntOf, Sem.run_pure, Result.andThen_ok, run_underlying hu]
            rw [if_pos hi1]
            simp only [Sem.run_bind, Tj.run_size w, Result.andThen_ok]
            exact h1
        · simp at h
      · simp at h
    · simp at h
  case typeAssert x xT t ok =>
    simp only [apure] at h
    obtain ⟨cv, h1, h2⟩ := aassert_ok (xT := xT) hC (hev x) h w
    exact ⟨cv, run_v h1, h2⟩
  case extract x ix =>
    simp only [apure] at h
    have hx := hev x
    split at h
    · rename_i vs e; rw [e] at hx
      obtain ⟨vs', hc, hr⟩ := hx.tuple_inv
      obtain ⟨y, hy, hv⟩ := hr.get ix v h
      refine ⟨y, run_v ?_, hv⟩
      rw [hc]
      simp [Instr.extract, hy]
    · simp at h
  case call c =>
    obtain ⟨callee, args, argTypes⟩ := c
    simp only [apure] at h
    cases callee
    case value f => simp at h
    case invoke r m => simp at h
    case builtin b =>
    have R : ∀ cv, (builtin b argTypes o.type (args.map fun | .const _ => true | _ => false) (args.map cev)).run P w = .ok (.value cv) w →
        (do let d ← resolve cev { callee := .builtin b, args := args, argTypes := argTypes } o.type; Go.invoke d.target d.args : Sem Next).run P w = .ok (.value cv) w := by
      intro cv hr
      simp only [resolve, Go.invoke, Sem.run_bind, Sem.run_pure, Result.andThen_ok]
      exact hr
    cases b
    case len =>
      simp only at h
      split at h
      · rename_i x t ha ht
        have ha := args_one ha
        have ht := args_one ht
        subst ha; subst ht
        have hx := hev x
        split at h
        · simp at h
        · rename_i i hi
          have T := hC.ty _ _ hi
          have hu := T.under
          generalize hd : i.desc = dd at h hu
          have F : ∀ n : Nat, (Builtin.len_ #[t] o.type #[cev x]).run P w = .ok (goInt n) w → ∃ cv, (do let d ← resolve cev { callee := .builtin .len, args := #[x], argTypes := #[t] } o.type; Go.invoke d.target d.args : Sem Next).run P w = .ok (.value cv) w ∧ VRel σ (.int .i64 (.ofNat n)) cv := by
            intro n hn
            refine ⟨goInt n, R _ ?_, .int _ _⟩
            simp [builtin, hn]
          split at h
          · rename_i e1 a n k e2; rw [e2] at hx
            cases h
            obtain ⟨ca, k', hc, _⟩ := hx.sliceAny_inv
            exact F n (by rw [hc]; simp [Builtin.len_, run_underlying hu])
          · rename_i s e2; rw [e2] at hx
            cases h
            exact F _ (by rw [hx.string_inv]; simp [Builtin.len_, run_underlying hu])
          · rename_i n e1
            cases h
            exact F n (by simp [Builtin.len_, run_underlying hu])
          · rename_i e1 e2 e3; rw [e3] at hx
            cases h
            exact F 0 (by rw [hx.nilMap_inv]; simp [Builtin.len_, run_underlying hu])
          · simp at h
      · simp at h
    case min =>
      simp only at h
      split at h
      · rename_i x y ha
        have ha := args_two ha
        subst ha
        have hx := hev x
        have hy := hev y
        split at h
        · rename_i k a k' b e1 e2; rw [e1] at hx; rw [e2] at hy
          cases h
          refine ⟨_, R (.int k (if b < a then b else a)) ?_, ?_⟩
          · have : (Builtin.min_ argTypes o.type #[cev x, cev y]).run P w = .ok (.int k (if b < a then b else a)) w := by
              rw [hx.int_inv, hy.int_inv]
              simp only [Builtin.min_, List.foldlM_cons, List.foldlM_nil, Builtin.min2]
              split <;> rfl
            simp [builtin, this]
          · rw [ilt_eq]
            by_cases hlt : b < a <;> simp [hlt] <;> exact .int _ _
        · simp at h
      · simp at h
    case max =>
      simp only at h
      split at h
      · rename_i x y ha
        have ha := args_two ha
        subst ha
        have hx := hev x
        have hy := hev y
        split at h
        · rename_i k a k' b e1 e2; rw [e1] at hx; rw [e2] at hy
          cases h
          refine ⟨_, R (.int k (if a < b then b else a)) ?_, ?_⟩
          · have : (Builtin.max_ argTypes o.type #[cev x, cev y]).run P w = .ok (.int k (if a < b then b else a)) w := by
              rw [hx.int_inv, hy.int_inv]
              simp only [Builtin.max_, List.foldlM_cons, List.foldlM_nil, Builtin.max2]
              split <;> rfl
            simp [builtin, this]
          · rw [ilt_eq]
            by_cases hlt : a < b <;> simp [hlt] <;> exact .int _ _
        · simp at h
      · simp at h
    all_goals simp at h
  all_goals simp [apure] at h
end
end Go.Eng
