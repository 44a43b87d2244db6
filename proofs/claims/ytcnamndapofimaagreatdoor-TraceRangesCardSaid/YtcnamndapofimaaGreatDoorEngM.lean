/- Operations one behind the other. -/
import Derived.Test.YtcnamndapofimaaGreatDoorEngL
namespace Go.Eng
open Go
section
variable {P : Program} {C : Ctx} {σ : Ren} {H : AH} {w : World}

def DRel1 (P : Program) (σ : Ren) : ADef → Deferred → Prop
  | .call f args, d => ∃ cargs : List Value, VRelL σ args cargs ∧ (∃ fv cap, d.target = .fn fv cap) ∧ ∀ w, (invoke d.target d.args).run P w = (callFunc f ⟨cargs⟩).run P w
  | .mark b, d => ∃ r, d.target = .collected r ∧ VRel σ (.map (some b)) (.map (some r))
inductive DRel (P : Program) (σ : Ren) : List ADef → List Deferred → Prop
  | nil : DRel P σ [] []
  | cons {a : ADef} {d : Deferred} {as : List ADef} {ds : List Deferred} : DRel1 P σ a d → DRel P σ as ds → DRel P σ (a :: as) (d :: ds)
theorem DRel1.ext {σ' : Ren} (h : Ext σ σ') {a : ADef} {d : Deferred} (r : DRel1 P σ a d) : DRel1 P σ' a d := by
  cases a with
  | call f args => obtain ⟨cargs, h1, h2, h3⟩ := r; exact ⟨cargs, h1.ext h, h2, h3⟩
  | mark b => obtain ⟨r, h1, h2⟩ := r; exact ⟨r, h1, h2.ext h⟩
theorem DRel.ext [Base] {σ' : Ren} (h : Ext σ σ') {a : List ADef} {d : List Deferred} (r : DRel P σ a d) : DRel P σ' a d := by
  induction r with
  | nil => exact .nil
  | cons h1 _ ih => exact .cons (h1.ext h) ih
structure FRel (P : Program) (σ : Ren) (fr : AFr) (F : Frame) : Prop where
  tm : TRel σ fr.tm fr.n F.tmps
  ds : DRel P σ fr.ds F.defers
  rnd : match fr.rnd with
    | none => F.roundOf = none
    | some l => ∃ cl, F.roundOf = some cl ∧ VRel σ (.map (some l)) (.map (some cl))
  mode : F.mode = .run
theorem FRel.ext [Base] {σ' : Ren} (h : Ext σ σ') {fr : AFr} {F : Frame} (r : FRel P σ fr F) : FRel P σ' fr F where
  tm := ⟨r.tm.1, fun i => (r.tm.2 i).ext h⟩
  ds := r.ds.ext h
  rnd := by
    have := r.rnd
    cases e : fr.rnd with
    | none => rw [e] at this; exact this
    | some l => rw [e] at this; obtain ⟨cl, h1, h2⟩ := this; exact ⟨cl, h1, h2.ext h⟩
  mode := r.mode
theorem FRel.todo {fr : AFr} {F : Frame} (r : FRel P σ fr F) (k : List Item) : FRel P σ fr { F with todo := k } := ⟨r.tm, r.ds, r.rnd, r.mode⟩

theorem aev_rel {tm : T Value} {n : Nat} {F : Frame} (h : TRel σ tm n F.tmps) (x : Operand) : VRel σ (aev tm x) (F.eval x) := by
  cases x with
  | tmp t => exact h.2 t
  | const v =>
    show VRel σ (bif closedV 4 v then v else junk) v
    cases hc : closedV 4 v with
    | true => exact closedV_rel _ _ hc
    | false => exact .any v
  | global g => exact .any _
  | func f => exact .func f [] [] [] [] .nil .nil
theorem tget_set (tm : T Value) (d i : Nat) (v : Value) : tget (tm.set d v) i = if i = d then v else tget tm i := by
  unfold tget; rw [T.get_set]; by_cases h : i = d <;> simp [h]
theorem tset_rel [Base] {tm : T Value} {n : Nat} {ct : Array Value} {v cv : Value} (h : TRel σ tm n ct) (d : Option Tmp) (hv : VRel σ v cv) :
    TRel σ (tset n tm d v) n (match d with | some d => ct.setIfInBounds d cv | none => ct) := by
  cases d with
  | none => exact h
  | some d =>
    refine ⟨by simp [h.1], fun i => ?_⟩
    show VRel σ (tget (bif Nat.blt d n then tm.set d v else tm) i) ((ct.setIfInBounds d cv).getD i undef)
    cases hb : Nat.blt d n with
    | true =>
      rw [Nat.blt_eq] at hb
      rw [cond_true, tget_set]
      by_cases hi : i = d
      · subst hi
        rw [if_pos rfl]
        simpa [h.1, hb] using hv
      · rw [if_neg hi]
        have := h.2 i
        simpa [Array.getElem?_setIfInBounds, Ne.symm hi] using this
    | false =>
      have hb' : ¬ d < n := fun hh => by rw [← Nat.blt_eq, hb] at hh; cases hh
      rw [cond_false]
      have : ct.setIfInBounds d cv = ct := by
        apply Array.ext
        · simp
        · intro j h1 h2
          rw [Array.getElem_setIfInBounds]
          rw [if_neg (fun e => hb' (by rw [e, ← h.1]; exact h2))]
      rw [this]
      exact h.2 i

theorem awanted_ok {ops : Array Oper} {o : Oper} {n : Nat} {tm : T Value} {ct : Array Value} {b : Bool} (h : TRel σ tm n ct) (k : awanted ops.toList o n tm = some b) : Region.wanted o (yielded ops ct) = b := by
  unfold awanted at k
  unfold Region.wanted
  split at k
  · rename_i e; rw [e]; simpa using k
  · rename_i j want e
    rw [e]
    simp only
    split at k
    · rename_i g hg
      split at k
      · rename_i d hd
        have hh := cond_some k; clear k; obtain ⟨hdn, k⟩ := hh
        rw [Nat.blt_eq] at hdn
        have hj : ops[j]? = some g := by simpa using hg
        have hr := h.2 d
        have hct : ct[d]? = some (ct.getD d undef) := by
          rw [Array.getElem?_eq_getElem (by rw [h.1]; exact hdn)]; simp [h.1, hdn]
        unfold yielded
        simp only [hj, Option.bind_some, hd, hct]
        split at k
        · rename_i b' e2
          rw [e2] at hr
          rw [hr.bool_inv]
          have k : (b' == want) = b := by simpa using k
          simpa using k
        · rename_i e2
          rw [e2] at hr
          obtain ⟨l', hc, hl⟩ := hr.tuple_inv
          rw [hc]
          have k : false = b := by simpa using k
          rw [← k]
          simp
        · cases k
      · cases k
    · cases k

/-! ### Whom a call calls -/
theorem acallee_fn (hC : CtxOk C P) {ev cev : Operand → Value} (hev : ∀ x, VRel σ (ev x) (cev x)) {c : Call} {f : FuncId} {args : List Value} (h : acallee C ev c = some (.fn f args)) (ty : TypeId) :
    ∃ cargs : List Value, VRelL σ args cargs ∧ ∃ d, (∀ w, (resolve cev c ty).run P w = .ok d w) ∧ (∃ fv cap, d.target = .fn fv cap) ∧ ∀ w, (Go.invoke d.target d.args).run P w = (callFunc f ⟨cargs⟩).run P w := by
  obtain ⟨callee, as, ats⟩ := c
  have hA : VRelL σ (as.toList.map ev) (as.toList.map cev) := VRelL.map (β := Unit) _ fun x _ => hev x
  have hmap : as.map cev = ⟨as.toList.map cev⟩ := map_toList cev as
  unfold acallee at h
  simp only at h
  split at h
  · rename_i x
    have hx := hev x
    split at h
    · rename_i g first cap e; rw [e] at hx
      simp only [Option.some.injEq, ATgt.fn.injEq] at h
      obtain ⟨rfl, rfl⟩ := h
      obtain ⟨xs', ys', hc, h1, h2⟩ := hx.func_inv
      refine ⟨(xs' ++ as.toList.map cev) ++ ys', (h1.append hA).append h2, { target := .fn (.func g) ⟨ys'⟩, args := (⟨xs'⟩ : Array Value) ++ as.map cev }, fun w => ?_, ⟨_, _, rfl⟩, fun w => ?_⟩
      · simp only [resolve, hc, Deferred.ofValue, Sem.run_pure]
      · simp only [Go.invoke]
        congr 2
        apply Array.ext'
        simp
    · cases h
    · cases h
  · rename_i r m
    have hr := hev r
    split at h
    · rename_i t v e; rw [e] at hr
      obtain ⟨v', hc, hv⟩ := hr.iface_inv
      split at h
      · cases h
      · rename_i i hi
        have T := hC.ty _ _ hi
        have hu := T.under
        generalize hd : i.desc = dd at h hu
        split at h
        · rename_i x hx
          obtain ⟨inf, q1, _, _, _, _, q2⟩ := T.info
          have hfind : inf.methods.find? (fun y => y.name == m) = some x := by rw [q2, ← hx, Array.find?_toList]
          have hsz : ∃ n, P.types.size + Made.depth = n + 1 := ⟨P.types.size + Made.depth - 1, by
            have : 0 < Made.depth := by decide
            omega⟩
          obtain ⟨n, hn⟩ := hsz
          have F : ∀ g ptr, x.path.toList = [] → x.func = some (g, ptr) → (ptr = true ∧ (∃ el, dd = .pointer el) ∨ ptr = false ∧ ∀ el, dd ≠ .pointer el) →
              ∀ w, (Go.invoke (.fn (.method m) #[]) (#[cev r] ++ as.map cev)).run P w = (callFunc g ⟨v' :: as.toList.map cev⟩).run P w := by
            intro g ptr hp hf hk w
            have hpe : x.path = #[] := by apply Array.ext'; simpa using hp
            have hm : (method (P.types.size + Made.depth) t v' m).run P w = .ok (g, v') w := by
              rw [hn]
              unfold method
              simp only [Sem.run_bind, typeInfo, run_program, Result.andThen_ok, q1, Sem.run_pure, hfind, hp, follow, hf]
              rcases hk with ⟨rfl, el, rfl⟩ | ⟨rfl, hk⟩
              · simp only [receiverAt, Sem.run_bind, run_underlying hu, Result.andThen_ok, Place.get, Sem.run_pure]
              · simp only [receiverAt, Sem.run_bind, run_underlying hu, Result.andThen_ok]
                cases dd <;> first | exact absurd rfl (hk _) | (simp only [Place.get, Sem.run_pure, Result.andThen_ok])
            have hex : (#[cev r] ++ as.map cev).extract 1 (#[cev r] ++ as.map cev).size = as.map cev := by
              apply Array.ext'
              simp
              exact List.take_of_length_le (by simp)
            have h0 : (#[cev r] ++ as.map cev)[0]? = some (.iface t v') := by rw [hc, Array.getElem?_append_left (by simp)]; rfl
            simp only [Go.invoke, h0, callMethod, Sem.run_bind, run_program, Result.andThen_ok, hm, hex]
            congr 2
            apply Array.ext'
            simp
          have G : ∀ g ptr, x.path.toList = [] → x.func = some (g, ptr) → (ptr = true ∧ (∃ el, dd = .pointer el) ∨ ptr = false ∧ ∀ el, dd ≠ .pointer el) → f = g → args = v :: as.toList.map ev →
              ∃ cargs : List Value, VRelL σ args cargs ∧ ∃ d, (∀ w, (resolve cev { callee := .invoke r m, args := as, argTypes := ats } ty).run P w = .ok d w) ∧ (∃ fv cap, d.target = .fn fv cap) ∧ ∀ w, (Go.invoke d.target d.args).run P w = (callFunc f ⟨cargs⟩).run P w := by
            intro g ptr h1 h2 h3 h4 h5
            subst h4; subst h5
            exact ⟨_, .cons hv hA, { target := .fn (.method m) #[], args := #[cev r] ++ as.map cev }, fun w => rfl, ⟨_, _, rfl⟩, F _ ptr h1 h2 h3⟩
          split at h
          · rename_i g el hp hf
            simp only [Option.some.injEq, ATgt.fn.injEq] at h
            exact G g true hp hf (.inl ⟨rfl, el, rfl⟩) h.1.symm h.2.symm
          · cases h
          · cases h
          · rename_i g hp hf hne
            simp only [Option.some.injEq, ATgt.fn.injEq] at h
            exact G g false hp hf (.inr ⟨rfl, fun el e => hne el e⟩) h.1.symm h.2.symm
          · cases h
        · cases h
    · cases h
  · cases h
theorem acallee_round (_hC : CtxOk C P) {ev cev : Operand → Value} (hev : ∀ x, VRel σ (ev x) (cev x)) {c : Call} {l : Nat} {args : List Value} (h : acallee C ev c = some (.round l args)) (ty : TypeId) :
    ∃ (cl : Nat) (cargs : List Value), VRelL σ args cargs ∧ VRel σ (.map (some l)) (.map (some cl)) ∧ ∀ w, (do let d ← resolve cev c ty; Go.invoke d.target d.args : Sem Next).run P w = (Instr.yield cl ⟨cargs⟩).run P w := by
  obtain ⟨callee, as, ats⟩ := c
  have hA : VRelL σ (as.toList.map ev) (as.toList.map cev) := VRelL.map (β := Unit) _ fun x _ => hev x
  have hmap : as.map cev = ⟨as.toList.map cev⟩ := map_toList cev as
  unfold acallee at h
  simp only at h
  split at h
  · rename_i x
    have hx := hev x
    split at h
    · cases h
    · rename_i l' e; rw [e] at hx
      simp only [Option.some.injEq, ATgt.round.injEq] at h
      obtain ⟨rfl, rfl⟩ := h
      have : ∃ cl, cev x = .func (.yield cl) #[] #[] ∧ VRel σ (.map (some l')) (.map (some cl)) := by
        generalize cev x = cx at hx
        cases hx with
        | yield _ cl δ e h => exact ⟨cl, rfl, .map _ _ _ _ h⟩
        | yieldDead _ cl h => exact ⟨cl, rfl, .mapDead _ _ h⟩
      obtain ⟨cl, hc, hv⟩ := this
      refine ⟨cl, _, hA, hv, fun w => ?_⟩
      simp only [resolve, hc, Deferred.ofValue, Sem.run_bind, Sem.run_pure, Result.andThen_ok, Go.invoke, hmap]
      congr 2
      apply Array.ext'
      simp
    · cases h
  · split at h
    · split at h
      · cases h
      · split at h
        · split at h <;> cases h
        · cases h
    · cases h
  · cases h
end
end Go.Eng
