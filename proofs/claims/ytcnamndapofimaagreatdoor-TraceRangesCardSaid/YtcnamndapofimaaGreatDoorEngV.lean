/- Operations whose order is open: one step of it, and all. -/
import Derived.Test.YtcnamndapofimaaGreatDoorEngU
import Derived.Orders
namespace Go.Eng
open Go
section
variable {P : Program} {C : Ctx} {ih : Code → AFr → AH → Out} {n : Nat} {ops : Array Oper} {rs : List Rec} {tm0 tm2 : T Value} {H0 HF : AH} {σ0 : Ren} {w0 : World}

theorem stabAll_at {bf : List Nat} : ∀ (X : List Rec) {q : Rec} {Y : List Rec}, stabAll C bf HF (X ++ q :: Y) = true → q.kd.isRead = true → stab C bf HF q Y = true
  | [], q, Y, h, hq => by
    have h : ((bif q.kd.isRead then stab C bf HF q Y else true) && stabAll C bf HF Y) = true := h
    rw [hq, cond_true, Bool.and_eq_true] at h
    exact h.1
  | x :: X, q, Y, h, hq => by
    have h : ((bif x.kd.isRead then stab C bf HF x (X ++ q :: Y) else true) && stabAll C bf HF (X ++ q :: Y)) = true := h
    rw [Bool.and_eq_true] at h
    exact stabAll_at X h.2 hq
theorem stab_cons (bf : List Nat) (q r : Rec) (l : List Rec) : stab C bf HF q (r :: l) = bif r.kd.isEff then (tellsSame C q r.H && (bif (bf.getD r.i 0).testBit q.i then true else stab C bf HF q l)) else stab C bf HF q l := rfl
theorem stab_pass [Base] {bf : List Nat} {q : Rec} : ∀ (A : List Rec) {B : List Rec}, stab C bf HF q (A ++ B) = true → (∀ x ∈ A, x.kd.isEff = true → (bf.getD x.i 0).testBit q.i = false) → stab C bf HF q B = true
  | [], B, h, _ => h
  | x :: A, B, h, hA => by
    rw [List.cons_append, stab_cons] at h
    have hA' := fun y hy => hA y (List.mem_cons_of_mem x hy)
    cases hx : x.kd.isEff with
    | true =>
      rw [hx, cond_true, Bool.and_eq_true, hA x List.mem_cons_self hx, cond_false] at h
      exact stab_pass A h.2 hA'
    | false => rw [hx, cond_false] at h; exact stab_pass A h hA'
theorem nodup_split {X Y : List Rec} {r : Rec} (hnd : ((X ++ r :: Y).map (·.i)).Nodup) : (∀ x ∈ X, x.i ≠ r.i) ∧ (∀ y ∈ Y, y.i ≠ r.i) := by
  constructor
  · intro x hx e
    rw [List.map_append, List.nodup_append] at hnd
    exact hnd.2.2 _ (List.mem_map_of_mem hx) _ (List.mem_map_of_mem (List.mem_cons_self (a := r) (l := Y))) e
  · intro y hy e
    rw [List.map_append, List.nodup_append, List.map_cons, List.nodup_cons] at hnd
    exact hnd.2.1.1 (e ▸ List.mem_map_of_mem hy)
theorem TRel.same {σ : Ren} {tm tm' : T Value} {ct : Array Value} (h : TRel σ tm n ct) (he : ∀ t, tget tm' t = tget tm t) : TRel σ tm' n ct := ⟨h.1, fun i => by rw [he i]; exact h.2 i⟩
theorem alloc_of {kd : Kd} (h : kd.isAlloc = true) : ∃ obj nv, kd = .alloc obj nv := by
  cases kd with
  | alloc obj nv => exact ⟨obj, nv, rfl⟩
  | _ => cases h

structure Facts (ops : Array Oper) (L : Nat → Bool) (n : Nat) (tm : T Value) (X Y : List Rec) (r : Rec) : Prop where
  see : ∀ t, t ∈ readsOf ops.toList r.o → tget r.tm t = tget tm t
  same : ∀ y ∈ Y, ∀ d, r.o.dst = some d → y.o.dst = some d → L y.i = false
  op : ops[r.i]? = some r.o
theorem facts [Base] (E : Env P C ih n ops rs tm0 H0 tm2 HF) {L : Nat → Bool} (hL : Closed ops L) {X Y : List Rec} {r : Rec} (hrs : rs = X ++ r :: Y) (hi : L r.i = false)
    (hready : ∀ j, ((bmasks ops.toList []).getD r.i 0).testBit j = true → L j = true) : Facts ops L n (tmOf n L rs tm0) X Y r ∧ ∃ H1, adrawOp C ih ops.toList r.o n r.tm r.H = some (r.v, H1, r.kd) ∧
      ∃ tmX, Run C ih ops.toList n X tm0 H0 tmX r.H ∧ Run C ih ops.toList n Y (tset n r.tm r.o.dst r.v) H1 tm2 HF ∧ r.tm = tmX := by
  have hp := E.pairs
  rw [hrs, List.pairwise_append, List.pairwise_cons] at hp
  obtain ⟨_, ⟨hY, _⟩, hX⟩ := hp
  have no : ∀ y, L y = true → ((bmasks ops.toList []).getD y 0).testBit r.i = true → False := fun y h1 h2 => by
    have := hL y h1 r.i h2
    rw [hi] at this; cases this
  have hrun := E.run
  rw [hrs] at hrun
  obtain ⟨tmX, HX, r1, r2⟩ := Run.split X hrun
  obtain ⟨e1, e2, e3, H1, e4, e5⟩ := r2
  refine ⟨⟨fun t ht => ?_, fun y hy d h1 h2 => ?_, by simpa using e3⟩, H1, by rw [e1, e2]; exact e4, tmX, by rw [e2]; exact r1, by rw [e1]; exact e5, e1⟩
  · rw [hrs, e1]
    refine (tm_at (Run.tm X r1) hi (fun x hx hd => ?_) (fun y hy hd => ?_)).symm
    · exact hready _ (hX x hx r List.mem_cons_self (by rw [conflict_dst hd ht]; simp))
    · cases hy2 : L y.i with
      | false => rfl
      | true => exact (no _ hy2 (hY y hy (by rw [conflict_dst' hd ht]; simp))).elim
  · cases hy2 : L y.i with
    | false => rfl
    | true => exact (no _ hy2 (hY y hy (by rw [conflict_same h1 h2]; simp))).elim
theorem finish_of {F0 : Frame} {ct : Array Value} {i : Nat} {rest : List Nat} {k : List Item} {o : Oper} (ho : ops[i]? = some o) (cv : Value) :
    ({ F0 with tmps := ct, todo := .inRegion ops (i :: rest) :: k } : Frame).finish cv = { F0 with tmps := (match o.dst with | some d => ct.setIfInBounds d cv | none => ct), todo := .inRegion ops rest :: k } := by
  rw [finish_region (F := { F0 with tmps := ct, todo := .inRegion ops (i :: rest) :: k }) rfl ho]
  cases o.dst <;> rfl
theorem drawStep [Base] (hC : CtxOk C P) (hcall : CallOk P C ih) (hround : RoundOk P C ih) (E : Env P C ih n ops rs tm0 H0 tm2 HF) {L : Nat → Bool} {σ : Ren} {w : World} {ct : Array Value} {A B : List Rec} {tm1 : T Value} {G : AH}
    (I : Inv C ih n ops rs tm0 H0 tm2 HF σ0 w0 L σ w ct A B tm1 G) (hL : Closed ops L) {r : Rec} (hr : r ∈ rs) (hi : L r.i = false)
    (hready : ∀ j, ((bmasks ops.toList []).getD r.i 0).testBit j = true → L j = true) {F0 : Frame} {cs : List Frame} {k : List Item} {rest : List Nat} (hm : F0.mode = .run) :
    ∃ ct' w' σ' A' B' tm1' G', Steps P (lone { F0 with tmps := ct, todo := .inRegion ops (r.i :: rest) :: k } cs w) (lone { F0 with tmps := ct', todo := .inRegion ops rest :: k } cs w') ∧
      Inv C ih n ops rs tm0 H0 tm2 HF σ0 w0 (up L r.i) σ' w' ct' A' B' tm1' G' := by
  have hr' := hr
  rw [I.parts] at hr'
  have bitNo : ∀ x, L x = true → ((bmasks ops.toList []).getD x 0).testBit r.i = false := fun x hx => by
    cases hb : ((bmasks ops.toList []).getD x 0).testBit r.i with
    | false => rfl
    | true => have := hL x hx r.i hb; rw [hi] at this; cases this
  rcases List.mem_append.1 hr' with hA | hB
  · -- what leaves the heap, or lays a block that was still to be laid
    obtain ⟨A1, A2, hAs⟩ := List.append_of_mem hA
    have hrs : rs = A1 ++ r :: (A2 ++ B) := by rw [I.parts, hAs]; simp
    obtain ⟨f, H1, hop, tmX, _, _, _⟩ := facts E hL hrs hi hready
    have hk : r.kd.isEff = false := by
      cases hk : r.kd.isEff with
      | false => rfl
      | true => have := I.effs r hA hk; rw [hi] at this; cases this
    have hread : r.kd.isRead = true → tellsSame C r G = true := by
      intro hq
      have h1 := E.stab
      rw [hrs] at h1
      have h2 := stab_pass A2 (stabAll_at A1 h1 hq) (fun x hx hx2 => bitNo _ (I.effs x (by rw [hAs]; simp [hx]) hx2))
      have hb := I.runB
      rcases I.head with hB | ⟨p, B', hB, hp⟩
      · subst hB
        obtain ⟨_, rfl⟩ := hb
        exact h2
      · subst hB
        obtain ⟨_, e2, _⟩ := hb
        rw [stab_cons, hp, cond_true, Bool.and_eq_true, e2] at h2
        exact h2.1
    obtain ⟨cv, w', σ', s1, s2, s3, s4, s5, s6, s7, s8, s9, s10, s11, s12⟩ := quietOp (tm' := tmOf n L rs tm0) (cs := cs) (k := k) (rest := rest) (F := { F0 with tmps := ct, todo := .inRegion ops (r.i :: rest) :: k }) hC I.leads.rel hm rfl f.op (E.nodefer r hr) I.tm f.see hop hk hread
      (fun obj nv e => (I.pend r hA hi obj nv e).2)
    rw [finish_of f.op] at s1
    have hnd := E.nodup
    rw [hrs] at hnd
    obtain ⟨nd1, nd2⟩ := nodup_split hnd
    refine ⟨_, w', σ', A, B, tm1, G, s1, I.parts, I.runA, I.runB, fun x hx he => up_mono (I.effs x hx he), fun x hx => ?_, I.head, ?_, fun x hx hxL obj nv e => ?_, ?_, ?_⟩
    · rw [up_ne L (nd2 x (by simp [hx]))]; exact I.rest x hx
    · refine ⟨s3, I.leads.ext.trans s4, I.leads.next, fun b hb hu => ?_, Nat.le_trans I.leads.size s6, fun cb hc hn => ?_, ⟨s9.trans I.leads.os.1, s10.trans I.leads.os.2.1, s11.trans I.leads.os.2.2⟩, fun a => (s12 a).trans (I.leads.froz a)⟩
      · obtain ⟨h1, h2⟩ := I.leads.stay b hb hu
        refine ⟨?_, h2⟩
        rw [s5 b (fun obj nv e => ?_)]
        · exact h1
        · have := (I.pend r hA hi obj nv e).1
          omega
      · obtain ⟨h1, h2⟩ := I.leads.frame cb hc hn
        have hlt : cb < w.heap.size := Nat.lt_of_lt_of_le hc I.leads.size
        refine ⟨(s7 cb hlt).trans h1, fun b δ e h => ?_⟩
        rcases s8 b cb δ e h with h | h
        · exact h2 b δ e h
        · omega
    · obtain ⟨hne, hxL⟩ := up_false hxL
      obtain ⟨p1, p2, p3, p4⟩ := I.pend x hx hxL obj nv e
      refine ⟨p1, p2, p3, ?_⟩
      rw [s5 _ (fun obj' nv' e' => ?_)]
      · exact p4
      · have hap := I.apart
        rw [hAs, List.pairwise_append, List.pairwise_cons] at hap
        obtain ⟨_, ⟨h2, _⟩, h1⟩ := hap
        have hx' := hx
        rw [hAs] at hx'
        rcases List.mem_append.1 hx' with hx1 | hx1
        · exact h1 x hx1 r List.mem_cons_self hxL hi (by rw [e]; rfl) (by rw [e']; rfl)
        · rcases List.mem_cons.1 hx1 with rfl | hx1
          · exact absurd rfl hne
          · exact Ne.symm (h2 x hx1 hi hxL (by rw [e']; rfl) (by rw [e]; rfl))
    · exact I.apart.imp fun h a b c d => h (up_false a).2 (up_false b).2 c d
    · have h1 : TRel σ' (tmOf n L rs tm0) n ct := ⟨I.tm.1, fun i => (I.tm.2 i).ext s4⟩
      refine (tset_rel h1 r.o.dst s2).same fun t => ?_
      rw [hrs]
      exact tmOf_up hnd hi tm0 f.same t
  · -- what changes the heap, the next of them
    rcases I.head with hB0 | ⟨p, B', hB0, hp⟩
    · rw [hB0] at hB; cases hB
    · have hpB : p ∈ B := by rw [hB0]; exact List.mem_cons_self
      have hpL := I.rest p hpB
      have hrp : r = p := by
        rw [hB0] at hB
        rcases List.mem_cons.1 hB with rfl | hB
        · rfl
        · exfalso
          obtain ⟨B1, B2, hB'⟩ := List.append_of_mem hB
          have hpr := E.pairs
          rw [I.parts, hB0, List.pairwise_append, List.pairwise_cons] at hpr
          have hb := I.runB
          rw [hB0] at hb
          obtain ⟨_, _, _, _, hop, _⟩ := hb
          have := hready _ (hpr.2.1.1 r hB (by rw [adrawOp_eff hop hp]; rfl))
          rw [hpL] at this; cases this
      subst hrp
      have hrs : rs = A ++ r :: B' := by rw [I.parts, hB0]
      obtain ⟨f, H1, hop, tmX, u1, u2, u3⟩ := facts E hL hrs hi hready
      have hb := I.runB
      rw [hB0] at hb
      obtain ⟨e1, e2, e3, H1', e4, e5⟩ := hb
      have hG : HRel σ r.H w := by rw [e2]; exact I.leads.rel
      obtain ⟨cv, w', σ', s1, s2, s3⟩ := loudOp (tm' := tmOf n L rs tm0) (cs := cs) (k := k) (rest := rest) (F := { F0 with tmps := ct, todo := .inRegion ops (r.i :: rest) :: k }) hC hcall hround hG hm rfl f.op (E.nodefer r hr) I.tm f.see hop hp
      rw [finish_of f.op] at s1
      have hnd := E.nodup
      rw [hrs] at hnd
      obtain ⟨nd1, nd2⟩ := nodup_split hnd
      obtain ⟨B1, B2, tm1', G1, q1, q2, q3, q4, q5, q6⟩ := Run.seg B' u2
      rw [e2] at s3
      have L1 : Leads σ' H1 w' σ' G1 w' := ⟨q6.rel _ _ s3.rel, Ext.refl _, q6.next, fun b hb hu => ⟨hu, q6.get b hb⟩, Nat.le_refl _, fun _ _ h => ⟨rfl, h⟩, ⟨rfl, rfl, rfl⟩, fun _ => rfl⟩
      refine ⟨_, w', σ', A ++ r :: B1, B2, tm1', G1, s1, by rw [hrs, q1]; simp, ?_, q3, fun x hx he => ?_, fun x hx => ?_, q5, (I.leads.trans s3).trans L1, fun x hx hxL obj nv e => ?_, ?_, ?_⟩
      · refine Run.join A I.runA ⟨e1, e2, e3, H1, ?_, ?_⟩
        · rw [← e1, ← e2]; exact hop
        · rw [← e1]; exact q2
      · rcases List.mem_append.1 hx with hx | hx
        · exact up_mono (I.effs x hx he)
        · rcases List.mem_cons.1 hx with rfl | hx
          · exact up_self _ _
          · rw [q4 x hx] at he; cases he
      · rw [up_ne L (nd2 x (by rw [q1]; simp [hx]))]
        exact I.rest x (by rw [hB0, q1]; simp [hx])
      · obtain ⟨hne, hxL⟩ := up_false hxL
        rcases List.mem_append.1 hx with hx | hx
        · obtain ⟨p1, p2, p3, p4⟩ := I.pend x hx hxL obj nv e
          obtain ⟨t1, t2⟩ := s3.stay _ p2 p4
          have := s3.next
          have := q6.next
          exact ⟨p1, by omega, by rw [q6.get _ (by omega), t2]; exact p3, t1⟩
        · rcases List.mem_cons.1 hx with rfl | hx
          · exact absurd rfl hne
          · obtain ⟨t1, t2, t3⟩ := q6.born x hx obj nv e
            have := s3.next
            have := I.leads.next
            exact ⟨by omega, t2, t3, s3.rel.fresh _ t1⟩
      · rw [List.pairwise_append, List.pairwise_cons]
        have hp2 : r.kd.isAlloc = false := by cases hkd : r.kd <;> rw [hkd] at hp <;> first | rfl | cases hp
        refine ⟨I.apart.imp fun h a b c d => h (up_false a).2 (up_false b).2 c d, ⟨fun y hy _ _ c _ => (by rw [hp2] at c; cases c), q6.row.imp fun h _ _ c d => Nat.ne_of_lt (h c d)⟩, fun x hx y hy a b c d => ?_⟩
        rcases List.mem_cons.1 hy with rfl | hy
        · rw [hp2] at d; cases d
        · obtain ⟨obj, nv, e⟩ := alloc_of c
          obtain ⟨obj', nv', e'⟩ := alloc_of d
          have h1 := (I.pend x hx (up_false a).2 obj nv e).2.1
          have h2 := (q6.born y hy obj' nv' e').1
          have := s3.next
          omega
      · have h1 : TRel σ' (tmOf n L rs tm0) n ct := ⟨I.tm.1, fun i => (I.tm.2 i).ext s3.ext⟩
        refine (tset_rel h1 r.o.dst s2).same fun t => ?_
        rw [hrs]
        exact tmOf_up hnd hi tm0 f.same t

/-! ### All of it -/
theorem countP_lt {p q : Nat → Bool} (hpq : ∀ x, q x = true → p x = true) {i : Nat} (hp : p i = true) (hq : q i = false) : ∀ l : List Nat, i ∈ l → l.countP q < l.countP p
  | [], h => by cases h
  | a :: l, h => by
    rw [List.countP_cons, List.countP_cons]
    by_cases ha : a = i
    · subst ha
      rw [hp, hq]
      have := List.countP_mono_left (l := l) (p := q) (q := p) (fun x _ hx => hpq x hx)
      simp
      omega
    · have h1 := countP_lt hpq hp hq l ((List.mem_cons.1 h).resolve_left (Ne.symm ha))
      have h2 : (if q a = true then 1 else 0) ≤ (if p a = true then 1 else 0) := by
        by_cases hqa : q a = true
        · simp [hqa, hpq a hqa]
        · simp [hqa]
      omega
theorem edgesOk_spec : ∀ (l : List Oper) (i0 : Nat), edgesOk l i0 = true → ∀ k o, l[k]? = some o → ∀ e ∈ o.after.toList, Region.binds .any e = true → e.on < i0 + k
  | [], i0, _, k, o, hk, _, _, _ => by simp at hk
  | x :: l, i0, h, k, o, hk, e, he, hb => by
    have h : ((x.after.toList.all fun e => !Region.binds .any e || Nat.blt e.on i0) && edgesOk l (Nat.succ i0)) = true := h
    rw [Bool.and_eq_true, List.all_eq_true] at h
    cases k with
    | zero =>
      simp at hk
      subst hk
      have := h.1 e he
      rw [hb, Bool.not_true, Bool.false_or, Nat.blt_eq] at this
      exact this
    | succ k =>
      have := edgesOk_spec l (i0 + 1) h.2 k o (by simpa using hk) e he hb
      omega
theorem inv_end [Base] (E : Env P C ih n ops rs tm0 H0 tm2 HF) {L : Nat → Bool} {σ : Ren} {w : World} {ct : Array Value} {A B : List Rec} {tm1 : T Value} {G : AH}
    (I : Inv C ih n ops rs tm0 H0 tm2 HF σ0 w0 L σ w ct A B tm1 G) (hall : ∀ x ∈ rs, L x.i = true) : TRel σ tm2 n ct ∧ Leads σ0 H0 w0 σ HF w := by
  have hB : B = [] := by
    cases hB : B with
    | nil => rfl
    | cons p B' =>
      have h1 := I.rest p (by rw [hB]; exact List.mem_cons_self)
      have h2 := hall p (by rw [I.parts, hB]; simp)
      rw [h1] at h2; cases h2
  have hb := I.runB
  rw [hB] at hb
  obtain ⟨_, rfl⟩ := hb
  refine ⟨?_, I.leads⟩
  rw [Run.tm rs E.run, ← tmOf_congr rs tm0 fun x hx => hall x hx]
  exact I.tm
theorem mem_of_run : ∀ (A : List Rec) {tm tm1 : T Value} {H H1 : AH}, Run C ih ops.toList n A tm H tm1 H1 → ∀ x ∈ A, ops[x.i]? = some x.o
  | [], tm, tm1, H, H1, h, x, hx => by cases hx
  | r :: A, tm, tm1, H, H1, h, x, hx => by
    obtain ⟨h1, h2, h3, H1, h4, h5⟩ := h
    rcases List.mem_cons.1 hx with rfl | hx
    · simpa using h3
    · exact mem_of_run A h5 x hx
theorem draw_go [Base] (hC : CtxOk C P) (hcall : CallOk P C ih) (hround : RoundOk P C ih) (E : Env P C ih n ops rs tm0 H0 tm2 HF) (hedges : edgesOk ops.toList 0 = true) (hmem : ∀ i, i < ops.size → ∃ r ∈ rs, r.i = i) {F0 : Frame} {cs : List Frame} {k : List Item} (hm : F0.mode = .run) :
    ∀ (fuel t : Nat) (listed : Array Bool) (σ : Ren) (w : World) (ct : Array Value) (A B : List Rec) (tm1 : T Value) (G : AH), listed.size = ops.size →
      Inv C ih n ops rs tm0 H0 tm2 HF σ0 w0 (fun j => listed.getD j false) σ w ct A B tm1 G → Closed ops (fun j => listed.getD j false) → (List.range ops.size).countP (fun j => !listed.getD j true) ≤ fuel →
      ∃ ct' w' σ', Steps P (lone { F0 with tmps := ct, todo := .inRegion ops (Region.linearise.go .any ops fuel t listed []) :: k } cs w) (lone { F0 with tmps := ct', todo := .inRegion ops [] :: k } cs w') ∧ TRel σ' tm2 n ct' ∧ Leads σ0 H0 w0 σ' HF w' := by
  have getD_tf : ∀ (l : Array Bool) j, j < l.size → l.getD j true = l.getD j false := fun l j hj => by simp [hj]
  have hin : ∀ x ∈ rs, x.i < ops.size := fun x hx => (Array.getElem?_eq_some_iff.1 (mem_of_run rs E.run x hx)).1
  intro fuel
  induction fuel with
  | zero =>
    intro t listed σ w ct A B tm1 G hsz I hcl hct
    have hall : ∀ x ∈ rs, listed.getD x.i false = true := by
      intro x hx
      have h0 : (List.range ops.size).countP (fun j => !listed.getD j true) = 0 := by omega
      rw [List.countP_eq_zero] at h0
      have := h0 x.i (List.mem_range.2 (hin x hx))
      rw [← getD_tf listed x.i (by rw [hsz]; exact hin x hx)]
      simpa using this
    obtain ⟨h1, h2⟩ := inv_end E I hall
    exact ⟨ct, w, σ, Steps.refl P _, h1, h2⟩
  | succ fuel ihf =>
    intro t listed σ w ct A B tm1 G hsz I hcl hct
    have hgo : Region.linearise.go .any ops (fuel + 1) t listed [] = (match (Region.ready .any ops listed)[t % (Region.ready .any ops listed).length]? with
      | some i => i :: Region.linearise.go .any ops fuel (t / (Region.ready .any ops listed).length) (listed.setIfInBounds i true) []
      | none => []) := by
      simp only [Region.linearise.go]
      change (match (Region.ready .any ops listed)[t % (Region.ready .any ops listed).length]? with
        | some i => Region.linearise.go .any ops fuel (t / (Region.ready .any ops listed).length) (listed.setIfInBounds i true) [i]
        | none => [].reverse) = _
      cases (Region.ready .any ops listed)[t % (Region.ready .any ops listed).length]? with
      | none => rfl
      | some i => simp only []; rw [linearise_go_acc, List.reverse_singleton, List.singleton_append]
    rw [hgo]
    cases hi : (Region.ready .any ops listed)[t % (Region.ready .any ops listed).length]? with
    | none =>
      have hnil : Region.ready .any ops listed = [] := by
        cases hr : Region.ready .any ops listed with
        | nil => rfl
        | cons x xs =>
          rw [hr] at hi
          have hlt : t % (x :: xs).length < (x :: xs).length := Nat.mod_lt _ (by simp)
          simp at hi
          simp at hlt
          omega
      have hall : ∀ i, i < ops.size → listed.getD i false = true := by
        intro i
        induction i using Nat.strongRecOn with
        | _ i ihi =>
          intro hlt
          cases hb : listed.getD i false with
          | true => rfl
          | false =>
            exfalso
            have : i ∈ Region.ready .any ops listed := by
              rw [mem_ready]
              refine ⟨by rw [getD_tf listed i (by rw [hsz]; exact hlt)]; exact hb, ops[i], by simp [hlt], fun e he hbd => ?_⟩
              have h1 := edgesOk_spec ops.toList 0 hedges i ops[i] (by simp [hlt]) e (by simpa using he) hbd
              rw [Nat.zero_add] at h1
              exact ihi e.on h1 (Nat.lt_trans h1 hlt)
            rw [hnil] at this; cases this
      obtain ⟨h1, h2⟩ := inv_end E I (fun x hx => hall x.i (hin x hx))
      exact ⟨ct, w, σ, Steps.refl P _, h1, h2⟩
    | some i =>
      simp only
      have hmi := mem_ready.1 (List.mem_of_getElem? hi)
      obtain ⟨hun, o, ho, hedge⟩ := hmi
      have hlt : i < ops.size := (Array.getElem?_eq_some_iff.1 ho).1
      obtain ⟨r, hr, rfl⟩ := hmem i hlt
      have hiL : listed.getD r.i false = false := by rw [← getD_tf listed r.i (by rw [hsz]; exact hlt)]; exact hun
      have hready : ∀ j, ((bmasks ops.toList []).getD r.i 0).testBit j = true → listed.getD j false = true := by
        intro j hj
        rcases bmasks_bit ops.toList [] r.i j hj with h | ⟨o', h1, h2, e, he, hb, h3⟩
        · simp at h
        · have ho' : o' = o := by
            have : ops[r.i]? = some o' := by simpa using h2
            rw [ho] at this; exact (Option.some.inj this).symm
          subst ho'
          have hl := hedge e (by simpa using he) hb
          rcases h3 with rfl | h3
          · exact hl
          · exact hcl e.on hl j h3
      obtain ⟨ct', w', σ', A', B', tm1', G', s1, s2⟩ := drawStep hC hcall hround E I hcl hr hiL hready (cs := cs) (k := k) (rest := Region.linearise.go .any ops fuel (t / (Region.ready .any ops listed).length) (listed.setIfInBounds r.i true) []) hm
      have hupL : up (fun j => listed.getD j false) r.i = fun j => (listed.setIfInBounds r.i true).getD j false := by
        funext j
        by_cases hj : j = r.i
        · subst hj
          rw [up_self]
          simp [hsz, hlt]
        · rw [up_ne _ hj, getD_set_ne false (Ne.symm hj)]
      rw [hupL] at s2
      obtain ⟨ct2, w2, σ2, q1, q2, q3⟩ := ihf (t / (Region.ready .any ops listed).length) (listed.setIfInBounds r.i true) σ' w' ct' A' B' tm1' G' (by simp [hsz]) s2 (by
        intro x hx j hj
        rw [← hupL] at hx ⊢
        by_cases hxr : x = r.i
        · subst hxr
          exact up_mono (hready j hj)
        · rw [up_ne _ hxr] at hx
          exact up_mono (hcl x hx j hj)) (by
        have := countP_lt (p := fun j => !listed.getD j true) (q := fun j => !(listed.setIfInBounds r.i true).getD j true) (i := r.i) (fun x hx => by
          by_cases hxr : x = r.i
          · subst hxr
            simp [hsz, hlt] at hx
          · simp only [getD_set_ne true (Ne.symm hxr)] at hx
            exact hx) (by simp only [hun]; rfl) (by simp [hsz, hlt]) (List.range ops.size) (List.mem_range.2 hlt)
        omega)
      exact ⟨ct2, w2, σ2, s1.trans q1, q2, q3⟩
theorem filterMap_run : ∀ (A : List Rec), (∀ x ∈ A, ops[x.i]? = some x.o) → (A.map (·.i)).filterMap (fun i => (ops.toList[i]?).map fun o => (i, o)) = A.map fun r => (r.i, r.o)
  | [], _ => rfl
  | r :: A, h => by
    have h1 : ops.toList[r.i]? = some r.o := by simpa using h r List.mem_cons_self
    rw [List.map_cons, List.filterMap_cons, h1]
    simp only [Option.map_some]
    rw [filterMap_run A fun x hx => h x (List.mem_cons_of_mem _ hx)]
    rfl
theorem drawOk_ok [Base] (hC : CtxOk C P) (hfol : P.follows .mixedOrders = true) (hcall : CallOk P C ih) (hround : RoundOk P C ih) : DrawOk P C ih := by
  intro id ops fr H e fr' H' h σ w F cs k hf hH hk ht
  unfold adraw at h
  have hh := cond_out h; clear h; obtain ⟨hd, h⟩ := hh
  split at h
  · cases h
  · rename_i rs tm2 H2 hrun
    have hh := cond_out h; clear h; obtain ⟨hst, h⟩ := hh
    cases h
    obtain ⟨r1, r2⟩ := run_of_adrawRun _ _ _ _ _ _ hrun
    unfold drawOk at hd
    rw [Bool.and_eq_true, Bool.and_eq_true] at hd
    obtain ⟨⟨hedges, hperm⟩, hpairs⟩ := hd
    unfold permOk at hperm
    rw [Bool.and_eq_true, List.all_eq_true] at hperm
    rw [← r2, filterMap_run rs (mem_of_run rs r1)] at hpairs
    obtain ⟨p1, p2⟩ := pairsOk_spec _ _ _ hpairs
    rw [List.pairwise_map] at p1
    have E : Env P C ih fr.n ops rs fr.tm H tm2 H' := ⟨r1, by rw [r2]; exact distinct_spec _ hperm.1, p1, fun x hx => p2 (x.i, x.o) (List.mem_map.2 ⟨x, hx, rfl⟩), hst⟩
    have hmem : ∀ i, i < ops.size → ∃ r ∈ rs, r.i = i := by
      intro i hi
      have := hperm.2 i (List.mem_range.2 (by simpa using hi))
      rw [List.any_eq_true] at this
      obtain ⟨j, hj, hji⟩ := this
      have hji := Nat.eq_of_beq_eq_true hji
      subst hji
      rw [← r2] at hj
      obtain ⟨r, hr, e⟩ := List.mem_map.1 hj
      exact ⟨r, hr, e⟩
    obtain ⟨A, B, tm1, G1, q1, q2, q3, q4, q5, q6⟩ := Run.seg rs r1
    have hH' := hH.drew
    have hL0 : ∀ j, (Array.replicate ops.size false).getD j false = false := fun j => by
      by_cases hj : j < ops.size <;> simp [hj]
    have I : Inv C ih fr.n ops rs fr.tm H tm2 H' σ w.drew (fun j => (Array.replicate ops.size false).getD j false) σ w.drew F.tmps A B tm1 G1 := by
      refine ⟨q1, q2, q3, fun x hx he => ?_, fun x hx => hL0 _, q5, ⟨q6.rel _ _ hH', Ext.refl _, q6.next, fun b hb hu => ⟨hu, q6.get b hb⟩, Nat.le_refl _, fun _ _ h => ⟨rfl, h⟩, ⟨rfl, rfl, rfl⟩, fun _ => rfl⟩, fun x hx _ obj nv e => ?_, q6.row.imp fun h _ _ c d => Nat.ne_of_lt (h c d), ?_⟩
      · rw [q4 x hx] at he; cases he
      · obtain ⟨t1, t2, t3⟩ := q6.born x hx obj nv e
        exact ⟨t1, t2, t3, hH.fresh _ t1⟩
      · exact hf.tm.same fun t => tmOf_skip rs fr.tm (fun x hx _ => hL0 _)
    obtain ⟨ct', w', σ', s1, s2, s3⟩ := draw_go hC hcall hround E hedges hmem (F0 := F) (cs := cs) (k := k) hf.mode ops.size (w.tape w.drawn (.order F.fn id)) (Array.replicate ops.size false) σ w.drew F.tmps A B tm1 G1 (by simp) I
      (fun i hi => by have hi : (Array.replicate ops.size false).getD i false = true := hi; rw [hL0] at hi; cases hi) (by
        have := List.countP_le_length (p := fun j => !(Array.replicate ops.size false).getD j true) (l := List.range ops.size)
        simpa using this)
    have hs := st_draw (P := P) (cs := cs) (w := w) hf.mode ht
    have hsch : Region.schedule (P.follows .mixedOrders) ops (w.tape w.drawn (.order F.fn id)) = Region.linearise.go .any ops ops.size (w.tape w.drawn (.order F.fn id)) (Array.replicate ops.size false) [] := by
      simp only [Region.schedule, hfol, Bool.true_or, if_true]
      rfl
    rw [hsch] at hs
    have L := (Leads.drew hH).trans s3
    refine ⟨{ F with tmps := ct', todo := k }, w', σ', (Steps.head hs s1).trans (.one (st_regionEnd (F := { F with tmps := ct', todo := .inRegion ops [] :: k }) hf.mode rfl)), rfl, ?_, L, rfl, rfl, rfl⟩
    have hf' := hf.ext L.ext
    exact ⟨s2, hf'.ds, hf'.rnd, hf.mode⟩
end
end Go.Eng
