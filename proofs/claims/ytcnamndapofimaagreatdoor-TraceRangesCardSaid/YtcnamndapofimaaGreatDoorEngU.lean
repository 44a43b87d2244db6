/- Operations whose order is open: whatever order is drawn, the end is one. -/
import Derived.Test.YtcnamndapofimaaGreatDoorEngT
namespace Go.Eng
open Go
section
variable {P : Program} {C : Ctx} {ih : Code → AFr → AH → Out} {n : Nat}

structure Env (P : Program) (C : Ctx) (ih : Code → AFr → AH → Out) (n : Nat) (ops : Array Oper) (rs : List Rec) (tm0 : T Value) (H0 : AH) (tm2 : T Value) (HF : AH) : Prop where
  run : Run C ih ops.toList n rs tm0 H0 tm2 HF
  nodup : (rs.map (·.i)).Nodup
  pairs : rs.Pairwise fun x y => (isEff x.o.op || conflict ops.toList x.o y.o) = true → ((bmasks ops.toList []).getD y.i 0).testBit x.i = true
  nodefer : ∀ x ∈ rs, hasDefer x.o.op = false
  stab : stabAll C (bmasks ops.toList []) HF rs = true
structure Inv [Base] (C : Ctx) (ih : Code → AFr → AH → Out) (n : Nat) (ops : Array Oper) (rs : List Rec) (tm0 : T Value) (H0 : AH) (tm2 : T Value) (HF : AH) (σ0 : Ren) (w0 : World) (L : Nat → Bool) (σ : Ren) (w : World) (ct : Array Value) (A B : List Rec) (tm1 : T Value) (G : AH) : Prop where
  parts : rs = A ++ B
  runA : Run C ih ops.toList n A tm0 H0 tm1 G
  runB : Run C ih ops.toList n B tm1 G tm2 HF
  effs : ∀ x ∈ A, x.kd.isEff = true → L x.i = true
  rest : ∀ x ∈ B, L x.i = false
  head : B = [] ∨ ∃ p B', B = p :: B' ∧ p.kd.isEff = true
  leads : Leads σ0 H0 w0 σ G w
  pend : ∀ x ∈ A, L x.i = false → ∀ obj nv, x.kd = .alloc obj nv → H0.next ≤ x.H.next ∧ x.H.next < G.next ∧ G.get x.H.next = some obj ∧ σ x.H.next = .unborn
  apart : A.Pairwise fun x y => L x.i = false → L y.i = false → x.kd.isAlloc = true → y.kd.isAlloc = true → x.H.next ≠ y.H.next
  tm : TRel σ (tmOf n L rs tm0) n ct
/-- Closed under what must come before. -/
def Closed (ops : Array Oper) (L : Nat → Bool) : Prop := ∀ i, L i = true → ∀ j, ((bmasks ops.toList []).getD i 0).testBit j = true → L j = true

theorem dev_rel {σ : Ren} {o : Oper} {tm tm' : T Value} {F : Frame} (h : TRel σ tm' n F.tmps) (he : ∀ t, inT (some t) (opTmps o.op.operands.toList) = true → tget tm t = tget tm' t) (x : Operand) : VRel σ (dev o tm x) (F.eval x) := by
  cases x with
  | tmp t =>
    show VRel σ (bif inT (some t) (opTmps o.op.operands.toList) then tget tm t else junk) _
    cases hi : inT (some t) (opTmps o.op.operands.toList) with
    | true => rw [cond_true, he t hi]; exact h.2 t
    | false => exact .any _
  | const v => exact aev_rel h (.const v)
  | global g => exact aev_rel h (.global g)
  | func f => exact aev_rel h (.func f)
theorem inT_mem {t : Tmp} {l : List Tmp} : inT (some t) l = true ↔ t ∈ l := by
  show (l.any fun x => Nat.beq x t) = true ↔ _
  rw [List.any_eq_true]
  exact ⟨fun ⟨x, h1, h2⟩ => Nat.eq_of_beq_eq_true h2 ▸ h1, fun h => ⟨t, h, Nat.beq_refl t⟩⟩
theorem awanted_congr {all : List Oper} {o : Oper} {tm tm' : T Value} (he : ∀ t, t ∈ readsOf all o → tget tm t = tget tm' t) : awanted all o n tm = awanted all o n tm' := by
  unfold awanted
  cases hg : o.guard with
  | none => rfl
  | some jw =>
    obtain ⟨j, want⟩ := jw
    simp only
    cases hj : all[j]? with
    | none => rfl
    | some g =>
      simp only
      cases hd : g.dst with
      | none => rfl
      | some d =>
        simp only
        rw [he d]
        unfold readsOf
        rw [hg]
        simp only [hj, hd]
        exact List.mem_append_right _ (by simp)
theorem conflict_dst [Base] {all : List Oper} {x y : Oper} {t : Tmp} (hx : x.dst = some t) (hy : t ∈ readsOf all y) : conflict all x y = true := by
  unfold conflict
  rw [hx, inT_mem.2 hy]; rfl
theorem conflict_dst' [Base] {all : List Oper} {x y : Oper} {t : Tmp} (hy : y.dst = some t) (hx : t ∈ readsOf all x) : conflict all x y = true := by
  unfold conflict
  rw [hy, inT_mem.2 hx]; simp
theorem conflict_same [Base] {all : List Oper} {x y : Oper} {t : Tmp} (hx : x.dst = some t) (hy : y.dst = some t) : conflict all x y = true := by
  unfold conflict
  rw [hx, hy, inT_mem.2 (show t ∈ (some t).toList by simp)]; simp

/-- What an operation does that lies ahead of the next that changes the heap, or is that one. -/
theorem quietOp [Base] (hC : CtxOk C P) {ops : Array Oper} {cs : List Frame} {k : List Item} {F : Frame} {σ : Ren} {G : AH} {w : World} {i : Nat} {rest : List Nat} {r : Rec} {tm' : T Value} {H1 : AH}
    (hH : HRel σ G w) (hm : F.mode = .run) (ht : F.todo = .inRegion ops (i :: rest) :: k) (ho : ops[i]? = some r.o) (hd : hasDefer r.o.op = false)
    (htm : TRel σ tm' n F.tmps) (he : ∀ t, t ∈ readsOf ops.toList r.o → tget r.tm t = tget tm' t)
    (hop : adrawOp C ih ops.toList r.o n r.tm r.H = some (r.v, H1, r.kd)) (hk : r.kd.isEff = false) (hread : r.kd.isRead = true → tellsSame C r G = true)
    (hpend : ∀ obj nv, r.kd = .alloc obj nv → r.H.next < G.next ∧ G.get r.H.next = some obj ∧ σ r.H.next = .unborn) :
    ∃ cv w' σ', Steps P (lone F cs w) (lone (F.finish cv) cs w') ∧ VRel σ' r.v cv ∧ HRel σ' G w' ∧ Ext σ σ' ∧
      (∀ b, (∀ obj nv, r.kd = .alloc obj nv → b ≠ r.H.next) → σ' b = σ b) ∧ w.heap.size ≤ w'.heap.size ∧ (∀ cb, cb < w.heap.size → w'.heap[cb]? = w.heap[cb]?) ∧
      (∀ b cb δ e, σ' b = .to cb δ e → σ b = .to cb δ e ∨ w.heap.size ≤ cb) ∧ w'.os = w.os ∧ w'.output = w.output ∧ w'.tape = w.tape ∧ ∀ a, w'.frozen? a = w.frozen? a := by
  have hnd : ∀ c, r.o.op ≠ .defer c := fun c e => by rw [e] at hd; cases hd
  have hev : ∀ x, VRel σ (dev r.o r.tm x) (F.eval x) := dev_rel htm fun t ht => he t (List.mem_append_left _ (inT_mem.1 ht))
  have stay : ∀ cv, Steps P (lone F cs w) (lone (F.finish cv) cs w) → VRel σ r.v cv → r.kd.isAlloc = false → ∃ cv w' σ', Steps P (lone F cs w) (lone (F.finish cv) cs w') ∧ VRel σ' r.v cv ∧ HRel σ' G w' ∧ Ext σ σ' ∧
      (∀ b, (∀ obj nv, r.kd = .alloc obj nv → b ≠ r.H.next) → σ' b = σ b) ∧ w.heap.size ≤ w'.heap.size ∧ (∀ cb, cb < w.heap.size → w'.heap[cb]? = w.heap[cb]?) ∧
      (∀ b cb δ e, σ' b = .to cb δ e → σ b = .to cb δ e ∨ w.heap.size ≤ cb) ∧ w'.os = w.os ∧ w'.output = w.output ∧ w'.tape = w.tape ∧ ∀ a, w'.frozen? a = w.frozen? a := fun cv h1 h2 _ =>
    ⟨cv, w, σ, h1, h2, hH, Ext.refl σ, fun _ _ => rfl, Nat.le_refl _, fun _ _ => rfl, fun _ _ _ _ h => .inl h, rfl, rfl, rfl, fun _ => rfl⟩
  have haw := awanted_congr (n := n) he
  unfold adrawOp at hop
  split at hop
  · cases hop
  · rename_i hwt
    have hw := awanted_ok htm (haw ▸ hwt)
    injection hop with hop; injection hop with e1 e2; injection e2 with e2 e3
    refine stay undef (.one (st_skipOp hm ht ho hw)) (e1 ▸ VRel.undef) (by rw [← e3]; rfl)
  · rename_i hwt
    have hw := awanted_ok htm (haw ▸ hwt)
    cases hE : isEff r.o.op with
    | true =>
      rw [hE, cond_true] at hop
      split at hop
      · injection hop with hop; injection hop with e1 e2; injection e2 with e2 e3; rw [← e3] at hk; cases hk
      · split at hop
        · split at hop
          · injection hop with hop; injection hop with e1 e2; injection e2 with e2 e3; rw [← e3] at hk; cases hk
          · cases hop
        · cases hop
    | false =>
      rw [hE, cond_false] at hop
      split at hop
      · rename_i v hv
        injection hop with hop; injection hop with e1 e2; injection e2 with e2 e3
        obtain ⟨cv, h1, h2⟩ := apure_ok hC hev hv w
        exact stay cv (.one (st_value hm ht ho hw (.inr hnd) h1)) (e1 ▸ h2) (by rw [← e3]; rfl)
      · split at hop
        · rename_i v hv
          injection hop with hop; injection hop with e1 e2; injection e2 with e2 e3
          have hs := hread (by rw [← e3]; rfl)
          unfold tellsSame at hs
          split at hs
          · rename_i v' hv'
            have := vsame_eq _ _ _ hs
            obtain ⟨cv, h1, h2⟩ := aread_ok hC hH hev hv'
            exact stay cv (.one (st_value hm ht ho hw (.inr hnd) h1)) (this ▸ h2) (by rw [← e3]; rfl)
          · cases hs
        · split at hop
          · rename_i obj nv hv
            injection hop with hop; injection hop with e1 e2; injection e2 with e2 e3
            obtain ⟨cobj, h1, h2⟩ := aalloc_ok hC hev hv
            obtain ⟨p1, p2, p3⟩ := hpend obj nv e3.symm
            refine ⟨_, _, _, .one (st_value hm ht ho hw (.inr hnd) (h2 w)), e1 ▸ NewV.val_rel (upd_self _ _ _), hH.born p3 p2 (fun _ _ _ => rfl) p1 (Nat.le_refl _) h1, Ext.upd p3 _, ?_, by simp, fun cb hc => heap_alloc_lt w cobj hc, ?_, rfl, rfl, rfl, ((ORel.of_mk h1 (heap_alloc_new w cobj)).froz_alloc h1.rw)⟩
            · intro b hb
              exact upd_ne _ _ (hb obj nv e3.symm)
            · intro b cb δ e h
              by_cases hb : b = r.H.next
              · rw [hb, upd_self] at h; cases h; exact .inr (Nat.le_refl _)
              · rw [upd_ne _ _ hb] at h; exact .inl h
          · cases hop
theorem loudOp [Base] (hC : CtxOk C P) (hcall : CallOk P C ih) (hround : RoundOk P C ih) {ops : Array Oper} {cs : List Frame} {k : List Item} {F : Frame} {σ : Ren} {w : World} {i : Nat} {rest : List Nat} {r : Rec} {tm' : T Value} {H1 : AH}
    (hH : HRel σ r.H w) (hm : F.mode = .run) (ht : F.todo = .inRegion ops (i :: rest) :: k) (ho : ops[i]? = some r.o) (hd : hasDefer r.o.op = false)
    (htm : TRel σ tm' n F.tmps) (he : ∀ t, t ∈ readsOf ops.toList r.o → tget r.tm t = tget tm' t)
    (hop : adrawOp C ih ops.toList r.o n r.tm r.H = some (r.v, H1, r.kd)) (hk : r.kd.isEff = true) :
    ∃ cv w' σ', Steps P (lone F cs w) (lone (F.finish cv) cs w') ∧ VRel σ' r.v cv ∧ Leads σ r.H w σ' H1 w' := by
  have hnd : ∀ c, r.o.op ≠ .defer c := fun c e => by rw [e] at hd; cases hd
  have hev : ∀ x, VRel σ (dev r.o r.tm x) (F.eval x) := dev_rel htm fun t ht => he t (List.mem_append_left _ (inT_mem.1 ht))
  have haw := awanted_congr (n := n) he
  unfold adrawOp at hop
  split at hop
  · cases hop
  · injection hop with hop; injection hop with e1 e2; injection e2 with e2 e3; rw [← e3] at hk; cases hk
  · rename_i hwt
    have hw := awanted_ok htm (haw ▸ hwt)
    cases hE : isEff r.o.op with
    | true =>
      rw [hE, cond_true] at hop
      split at hop
      · rename_i v H' hv
        injection hop with hop; injection hop with e1 e2; injection e2 with e2 e3
        subst e2
        obtain ⟨nx, cv, w', σ', h1, h2, h3, h4⟩ := aeff_ok hC hH hev hv
        rcases h2 with rfl | ⟨rfl, rfl⟩
        · exact ⟨cv, w', σ', .one (st_value hm ht ho hw (.inr hnd) h1), e1 ▸ h3, h4⟩
        · exact ⟨undef, w', σ', .one (st_skipV hm ht ho hw (.inr hnd) h1), e1 ▸ h3, h4⟩
      · split at hop
        · rename_i c hc
          split at hop
          · rename_i v H' hv
            injection hop with hop; injection hop with e1 e2; injection e2 with e2 e3
            subst e2
            rw [← e1]
            exact acall_ok hC hcall hround hH hev hc hm ht ho hw hv
          · cases hop
        · cases hop
    | false =>
      rw [hE, cond_false] at hop
      split at hop
      · injection hop with hop; injection hop with e1 e2; injection e2 with e2 e3; rw [← e3] at hk; cases hk
      · split at hop
        · injection hop with hop; injection hop with e1 e2; injection e2 with e2 e3; rw [← e3] at hk; cases hk
        · split at hop
          · injection hop with hop; injection hop with e1 e2; injection e2 with e2 e3; rw [← e3] at hk; cases hk
          · cases hop
end
end Go.Eng
