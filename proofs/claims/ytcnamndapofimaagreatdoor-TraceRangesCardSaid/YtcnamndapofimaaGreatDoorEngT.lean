/- Operations whose order is open: runs of records. -/
import Derived.Test.YtcnamndapofimaaGreatDoorEngR
namespace Go.Eng
open Go
section
variable {P : Program} {C : Ctx} {ih : Code → AFr → AH → Out} {all : List Oper} {n : Nat}

def Run (C : Ctx) (ih : Code → AFr → AH → Out) (all : List Oper) (n : Nat) : List Rec → T Value → AH → T Value → AH → Prop
  | [], tm, H, tm2, H2 => tm = tm2 ∧ H = H2
  | r :: rs, tm, H, tm2, H2 => r.tm = tm ∧ r.H = H ∧ all[r.i]? = some r.o ∧ ∃ H1, adrawOp C ih all r.o n tm H = some (r.v, H1, r.kd) ∧ Run C ih all n rs (tset n tm r.o.dst r.v) H1 tm2 H2
theorem adrawRun_cons (i : Nat) (π : List Nat) (tm : T Value) (H : AH) : adrawRun C ih all n (i :: π) tm H = match all[i]? with
      | none => none
      | some o => match adrawOp C ih all o n tm H with
        | none => none
        | some (v, H1, kd) => match adrawRun C ih all n π (tset n tm o.dst v) H1 with
          | some (rs, tm2, H2) => some ({ i := i, o := o, tm := tm, H := H, v := v, kd := kd } :: rs, tm2, H2)
          | none => none := rfl
theorem run_of_adrawRun [Base] : ∀ (π : List Nat) (tm : T Value) (H : AH) (rs : List Rec) (tm2 : T Value) (H2 : AH), adrawRun C ih all n π tm H = some (rs, tm2, H2) → Run C ih all n rs tm H tm2 H2 ∧ rs.map (·.i) = π
  | [], tm, H, rs, tm2, H2, h => by
    have h : some ([], tm, H) = some (rs, tm2, H2) := h
    cases h
    exact ⟨⟨rfl, rfl⟩, rfl⟩
  | i :: π, tm, H, rs, tm2, H2, h => by
    rw [adrawRun_cons] at h
    split at h
    · cases h
    · rename_i o ho
      split at h
      · cases h
      · rename_i v H1 kd hop
        split at h
        · rename_i rs' tm2' H2' hr
          cases h
          obtain ⟨q1, q2⟩ := run_of_adrawRun π _ _ _ _ _ hr
          exact ⟨⟨rfl, rfl, ho, H1, hop, q1⟩, by simp [q2]⟩
        · cases h
theorem Run.split : ∀ (A : List Rec) {B : List Rec} {tm : T Value} {H : AH} {tm2 : T Value} {H2 : AH}, Run C ih all n (A ++ B) tm H tm2 H2 → ∃ tm1 H1, Run C ih all n A tm H tm1 H1 ∧ Run C ih all n B tm1 H1 tm2 H2
  | [], B, tm, H, tm2, H2, h => ⟨tm, H, ⟨rfl, rfl⟩, h⟩
  | r :: A, B, tm, H, tm2, H2, h => by
    obtain ⟨h1, h2, h3, H1, h4, h5⟩ := h
    obtain ⟨tm1, H1', q1, q2⟩ := Run.split A h5
    exact ⟨tm1, H1', ⟨h1, h2, h3, H1, h4, q1⟩, q2⟩
theorem Run.join : ∀ (A : List Rec) {B : List Rec} {tm tm1 : T Value} {H H1 : AH} {tm2 : T Value} {H2 : AH}, Run C ih all n A tm H tm1 H1 → Run C ih all n B tm1 H1 tm2 H2 → Run C ih all n (A ++ B) tm H tm2 H2
  | [], B, tm, tm1, H, H1, tm2, H2, h, k => by obtain ⟨rfl, rfl⟩ := h; exact k
  | r :: A, B, tm, tm1, H, H1, tm2, H2, h, k => by
    obtain ⟨h1, h2, h3, H1, h4, h5⟩ := h
    exact ⟨h1, h2, h3, H1, h4, Run.join A h5 k⟩

/-! ### Temporaries -/
noncomputable def tmOf (n : Nat) (L : Nat → Bool) : List Rec → T Value → T Value
  | [], tm => tm
  | r :: rs, tm => tmOf n L rs (bif L r.i then tset n tm r.o.dst r.v else tm)
theorem tget_tset (n : Nat) (tm : T Value) (d : Option Tmp) (v : Value) (t : Nat) : tget (tset n tm d v) t = if d = some t ∧ t < n then v else tget tm t := by
  cases d with
  | none => simp [tset]
  | some d =>
    show tget (bif Nat.blt d n then tm.set d v else tm) t = _
    cases hb : Nat.blt d n with
    | true =>
      rw [Nat.blt_eq] at hb
      rw [cond_true, tget_set]
      by_cases h : t = d
      · subst h; simp [hb]
      · rw [if_neg h, if_neg (fun e => h (Option.some.inj e.1).symm)]
    | false =>
      have hb' : ¬ d < n := fun hh => by rw [← Nat.blt_eq, hb] at hh; cases hh
      rw [cond_false, if_neg]
      intro e
      have := Option.some.inj e.1
      subst this
      exact hb' e.2
theorem tmOf_append (L : Nat → Bool) : ∀ (A B : List Rec) (tm : T Value), tmOf n L (A ++ B) tm = tmOf n L B (tmOf n L A tm)
  | [], _B, _tm => rfl
  | _r :: A, B, _tm => tmOf_append L A B _
theorem tmOf_same [Base] {L : Nat → Bool} {t : Nat} : ∀ (A : List Rec) (tm tm' : T Value), tget tm t = tget tm' t → tget (tmOf n L A tm) t = tget (tmOf n L A tm') t
  | [], tm, tm', h => h
  | r :: A, tm, tm', h => by
    refine tmOf_same A _ _ ?_
    cases L r.i with
    | true => simp only [cond_true, tget_tset, h]
    | false => exact h
theorem tmOf_skip [Base] {L : Nat → Bool} {t : Nat} : ∀ (A : List Rec) (tm : T Value), (∀ x ∈ A, x.o.dst = some t → L x.i = false) → tget (tmOf n L A tm) t = tget tm t
  | [], tm, h => rfl
  | r :: A, tm, h => by
    show tget (tmOf n L A _) t = _
    rw [tmOf_skip A _ (fun x hx => h x (List.mem_cons_of_mem _ hx))]
    cases hL : L r.i with
    | false => rfl
    | true =>
      rw [cond_true, tget_tset, if_neg]
      intro e
      have := h r List.mem_cons_self e.1
      rw [hL] at this; cases this
theorem tmOf_all [Base] {L : Nat → Bool} {t : Nat} : ∀ (A : List Rec) (tm : T Value), (∀ x ∈ A, x.o.dst = some t → L x.i = true) → tget (tmOf n L A tm) t = tget (tmOf n (fun _ => true) A tm) t
  | [], tm, h => rfl
  | r :: A, tm, h => by
    show tget (tmOf n L A _) t = tget (tmOf n (fun _ => true) A (tset n tm r.o.dst r.v)) t
    rw [← tmOf_all A _ (fun x hx => h x (List.mem_cons_of_mem _ hx))]
    refine tmOf_same A _ _ ?_
    cases hL : L r.i with
    | true => rfl
    | false =>
      rw [cond_false, tget_tset, if_neg]
      intro e
      have := h r List.mem_cons_self e.1
      rw [hL] at this; cases this
theorem tmOf_congr {L L' : Nat → Bool} : ∀ (A : List Rec) (tm : T Value), (∀ x ∈ A, L x.i = L' x.i) → tmOf n L A tm = tmOf n L' A tm
  | [], tm, h => rfl
  | r :: A, tm, h => by
    show tmOf n L A _ = tmOf n L' A _
    rw [h r List.mem_cons_self, tmOf_congr A _ fun x hx => h x (List.mem_cons_of_mem _ hx)]
theorem Run.tm : ∀ (A : List Rec) {tm tm1 : T Value} {H H1 : AH}, Run C ih all n A tm H tm1 H1 → tm1 = tmOf n (fun _ => true) A tm
  | [], tm, tm1, H, H1, h => h.1.symm
  | r :: A, tm, tm1, H, H1, h => by
    obtain ⟨h1, h2, h3, H1, h4, h5⟩ := h
    exact Run.tm A h5
def up (L : Nat → Bool) (i : Nat) : Nat → Bool := fun j => decide (j = i) || L j
theorem up_self (L : Nat → Bool) (i : Nat) : up L i i = true := by simp [up]
theorem up_ne (L : Nat → Bool) {i j : Nat} (h : j ≠ i) : up L i j = L j := by simp [up, h]
theorem up_false {L : Nat → Bool} {i j : Nat} (h : up L i j = false) : j ≠ i ∧ L j = false := by
  unfold up at h
  simp only [Bool.or_eq_false_iff, decide_eq_false_iff_not] at h
  exact h
theorem up_mono {L : Nat → Bool} {i j : Nat} (h : L j = true) : up L i j = true := by simp [up, h]
theorem tmOf_up [Base] {L : Nat → Bool} {X Y : List Rec} {r : Rec} (hnd : ((X ++ r :: Y).map (·.i)).Nodup) (hr : L r.i = false) (tm : T Value)
    (hY : ∀ y ∈ Y, ∀ d, r.o.dst = some d → y.o.dst = some d → L y.i = false) (t : Nat) :
    tget (tmOf n (up L r.i) (X ++ r :: Y) tm) t = tget (tset n (tmOf n L (X ++ r :: Y) tm) r.o.dst r.v) t := by
  have hX1 : ∀ x ∈ X, x.i ≠ r.i := by
    intro x hx e
    rw [List.map_append, List.nodup_append] at hnd
    exact hnd.2.2 _ (List.mem_map_of_mem hx) _ (List.mem_map_of_mem (List.mem_cons_self (a := r) (l := Y))) e
  have hY1 : ∀ y ∈ Y, y.i ≠ r.i := by
    intro y hy e
    rw [List.map_append, List.nodup_append, List.map_cons, List.nodup_cons] at hnd
    exact hnd.2.1.1 (e ▸ List.mem_map_of_mem hy)
  rw [tmOf_append, tmOf_append]
  show tget (tmOf n (up L r.i) Y (bif up L r.i r.i then _ else _)) t = tget (tset n (tmOf n L Y (bif L r.i then _ else _)) r.o.dst r.v) t
  rw [up_self, hr, cond_true, cond_false, tmOf_congr X tm (fun x hx => up_ne L (hX1 x hx)), tmOf_congr Y _ (fun x hx => up_ne L (hY1 x hx)), tget_tset]
  by_cases hd : r.o.dst = some t ∧ t < n
  · rw [if_pos hd, tmOf_skip Y _ (fun y hy e => hY y hy t hd.1 e), tget_tset, if_pos hd]
  · rw [if_neg hd]
    exact tmOf_same Y _ _ (by rw [tget_tset, if_neg hd])
/-- What is seen at r's place in the row is what is seen now. -/
theorem tm_at [Base] {L : Nat → Bool} {X Y : List Rec} {r : Rec} {tm0 tmX : T Value} {t : Nat} (hX : tmX = tmOf n (fun _ => true) X tm0) (hr : L r.i = false)
    (h1 : ∀ x ∈ X, x.o.dst = some t → L x.i = true) (h2 : ∀ y ∈ Y, y.o.dst = some t → L y.i = false) : tget (tmOf n L (X ++ r :: Y) tm0) t = tget tmX t := by
  rw [tmOf_append, tmOf_skip (r :: Y) _ (fun y hy e => by
    rcases List.mem_cons.1 hy with rfl | hy
    · exact hr
    · exact h2 y hy e), tmOf_all X tm0 h1, hX]

/-! ### Heaps -/
def Kd.isAlloc : Kd → Bool
  | .alloc _ _ => true
  | _ => false
theorem adrawOp_quiet {o : Oper} {tm : T Value} {H H1 : AH} {v : Value} {kd : Kd} (h : adrawOp C ih all o n tm H = some (v, H1, kd)) (hk : kd.isEff = false) :
    (∃ obj nv, kd = .alloc obj nv ∧ H1 = H.push obj) ∨ (kd.isAlloc = false ∧ H1 = H) := by
  unfold adrawOp at h
  split at h
  · cases h
  · cases h; exact .inr ⟨rfl, rfl⟩
  · cases he : isEff o.op with
    | true =>
      rw [he, cond_true] at h
      split at h
      · cases h; cases hk
      · split at h
        · split at h
          · cases h; cases hk
          · cases h
        · cases h
    | false =>
      rw [he, cond_false] at h
      split at h
      · cases h; exact .inr ⟨rfl, rfl⟩
      · split at h
        · cases h; exact .inr ⟨rfl, rfl⟩
        · split at h
          · cases h; exact .inl ⟨_, _, rfl, rfl⟩
          · cases h
theorem adrawOp_eff {o : Oper} {tm : T Value} {H H1 : AH} {v : Value} {kd : Kd} (h : adrawOp C ih all o n tm H = some (v, H1, kd)) (hk : kd.isEff = true) : isEff o.op = true := by
  unfold adrawOp at h
  split at h
  · cases h
  · cases h; cases hk
  · cases he : isEff o.op with
    | true => rfl
    | false =>
      rw [he, cond_false] at h
      split at h
      · cases h; cases hk
      · split at h
        · cases h; cases hk
        · split at h
          · cases h; cases hk
          · cases h
theorem HRel.laid [Base] {σ : Ren} {H : AH} {w : World} {obj : AObj} (hH : HRel σ H w) : HRel σ (H.push obj) w where
  obj b cb δ e h := by
    obtain ⟨o, h1, h2⟩ := hH.obj b cb δ e h
    have : b ≠ H.next := fun e => by rw [e, hH.fresh _ (Nat.le_refl _)] at h; cases h
    exact ⟨o, by rw [AH.get_push, if_neg this]; exact h1, h2⟩
  inj := hH.inj
  dead b h := by
    have : b ≠ H.next := fun e => by rw [e, hH.fresh _ (Nat.le_refl _)] at h; cases h
    rw [AH.get_push, if_neg this]; exact hH.dead b h
  nil := hH.nil
  fresh b h := hH.fresh b (by simp at h; omega)
  base q hq := ⟨(hH.base q hq).1, fun b δ e h => by
    have : b ≠ H.next := fun e => by rw [e, hH.fresh _ (Nat.le_refl _)] at h; cases h
    rw [AH.get_push, if_neg this]; exact (hH.base q hq).2 b δ e h⟩
structure Seg [Base] (B : List Rec) (G G1 : AH) : Prop where
  next : G.next ≤ G1.next
  get : ∀ b, b < G.next → G1.get b = G.get b
  rel : ∀ σ w, HRel σ G w → HRel σ G1 w
  born : ∀ x ∈ B, ∀ obj nv, x.kd = .alloc obj nv → G.next ≤ x.H.next ∧ x.H.next < G1.next ∧ G1.get x.H.next = some obj
  row : B.Pairwise fun x y => x.kd.isAlloc = true → y.kd.isAlloc = true → x.H.next < y.H.next
theorem Run.seg [Base] : ∀ (B : List Rec) {tm tm2 : T Value} {G G2 : AH}, Run C ih all n B tm G tm2 G2 → ∃ B1 B2 tm1 G1, B = B1 ++ B2 ∧ Run C ih all n B1 tm G tm1 G1 ∧ Run C ih all n B2 tm1 G1 tm2 G2 ∧
    (∀ x ∈ B1, x.kd.isEff = false) ∧ (B2 = [] ∨ ∃ p B', B2 = p :: B' ∧ p.kd.isEff = true) ∧ Seg B1 G G1
  | [], tm, tm2, G, G2, h => ⟨[], [], tm, G, rfl, ⟨rfl, rfl⟩, h, (fun x hx => by cases hx), .inl rfl, Nat.le_refl _, fun _ _ => rfl, fun _ _ h => h, (fun x hx => by cases hx), .nil⟩
  | r :: B, tm, tm2, G, G2, h => by
    cases hk : r.kd.isEff with
    | true => exact ⟨[], r :: B, tm, G, rfl, ⟨rfl, rfl⟩, h, (fun x hx => by cases hx), .inr ⟨r, B, rfl, hk⟩, Nat.le_refl _, fun _ _ => rfl, fun _ _ h => h, (fun x hx => by cases hx), .nil⟩
    | false =>
      obtain ⟨h1, h2, h3, H1, h4, h5⟩ := h
      obtain ⟨B1, B2, tm1, G1, q1, q2, q3, q4, q5, q6⟩ := Run.seg B h5
      refine ⟨r :: B1, B2, tm1, G1, by rw [q1]; rfl, ⟨h1, h2, h3, H1, h4, q2⟩, q3, fun x hx => ?_, q5, ?_⟩
      · rcases List.mem_cons.1 hx with rfl | hx
        · exact hk
        · exact q4 x hx
      · rcases adrawOp_quiet h4 hk with ⟨obj, nv, e1, e2⟩ | ⟨e1, e2⟩
        · subst e2
          refine ⟨Nat.le_trans (by simp) q6.next, fun b hb => ?_, fun σ w hH => q6.rel σ w hH.laid, fun x hx => ?_, .cons (fun y hy _ hy2 => ?_) q6.row⟩
          · rw [q6.get b (by simp; omega), AH.get_push, if_neg (by omega)]
          · rcases List.mem_cons.1 hx with rfl | hx
            · intro obj' nv' e
              rw [e1] at e; cases e
              have hn := q6.next
              simp only [AH.next_push] at hn
              refine ⟨by rw [h2]; exact Nat.le_refl _, by rw [h2]; omega, ?_⟩
              rw [h2, q6.get _ (by simp), AH.get_push, if_pos rfl]
            · intro obj' nv' e
              obtain ⟨a1, a2, a3⟩ := q6.born x hx obj' nv' e
              simp only [AH.next_push] at a1
              exact ⟨by omega, a2, a3⟩
          · cases hyk : y.kd with
            | alloc obj' nv' =>
              have := (q6.born y hy obj' nv' hyk).1
              simp only [AH.next_push] at this
              rw [h2]; omega
            | _ => rw [hyk] at hy2; cases hy2
        · subst e2
          refine ⟨q6.next, q6.get, q6.rel, fun x hx => ?_, .cons (fun y hy hx2 _ => ?_) q6.row⟩
          · rcases List.mem_cons.1 hx with rfl | hx
            · intro obj nv e; rw [e] at e1; cases e1
            · exact q6.born x hx
          · rw [e1] at hx2; cases hx2
end
end Go.Eng
