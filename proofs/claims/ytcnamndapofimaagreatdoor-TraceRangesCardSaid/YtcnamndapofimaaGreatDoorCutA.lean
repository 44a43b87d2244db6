/- Long closed runs in pieces: a call of a function answers by what was found for it before, laid over the heap that it finds. -/
import Derived.Test.YtcnamndapofimaaGreatDoorEngX
namespace Go.Eng
open Go

/-! ### Values and objects, renamed: an id that has no new name makes the value unknown -/
noncomputable def renL (g : Value → Value) (l : List Value) : List Value := List.rec (motive := fun _ => List Value) [] (fun v _ ih => g v :: ih) l
theorem renL_eq (g : Value → Value) : ∀ l, renL g l = l.map g
  | [] => rfl
  | v :: l => by show g v :: renL g l = _; rw [renL_eq g l]; rfl
def renV (ρ : Nat → Option Nat) : Nat → Value → Value
  | _, .bool b => .bool b
  | _, .int k n => .int k n
  | _, .string s => .string s
  | _, .pointer none => .pointer none
  | _, .pointer (some ⟨b, o, none⟩) => match ρ b with
    | some c => .pointer (some ⟨c, o, none⟩)
    | none => junk
  | _, .slice none n c => .slice none n c
  | _, .slice (some ⟨b, o, sp⟩) n k => match ρ b with
    | some c => .slice (some ⟨c, o, sp⟩) n k
    | none => junk
  | _, .map none => .map none
  | _, .map (some b) => match ρ b with
    | some c => .map (some c)
    | none => junk
  | _, .nilFunc => .nilFunc
  | _, .nilIface => .nilIface
  | d + 1, .iface t v => .iface t (renV ρ d v)
  | d + 1, .agg ⟨l⟩ => .agg ⟨l.map (renV ρ d)⟩
  | d + 1, .tuple ⟨l⟩ => .tuple ⟨l.map (renV ρ d)⟩
  | d + 1, .func (.func f) ⟨xs⟩ ⟨ys⟩ => .func (.func f) ⟨xs.map (renV ρ d)⟩ ⟨ys.map (renV ρ d)⟩
  | _, _ => junk
/-- What a renaming keeps. -/
def Compat (ρ : Nat → Option Nat) (σ σ' : Ren) : Prop := ∀ b c, ρ b = some c → match σ b with
  | .to cb δ e => σ' c = .to cb δ e
  | .dead => σ' c = .dead
  | .unborn => True
theorem VRelL.ren {σ σ' : Ren} {g : Value → Value} (h : ∀ v c, VRel σ v c → VRel σ' (g v) c) : ∀ {l cl : List Value}, VRelL σ l cl → VRelL σ' (l.map g) cl
  | _, _, .nil => .nil
  | _, _, .cons h1 h2 => .cons (h _ _ h1) (VRelL.ren h h2)
theorem VRel.ren {ρ : Nat → Option Nat} {σ σ' : Ren} (hρ : Compat ρ σ σ') : ∀ (d : Nat) (v c : Value), VRel σ v c → VRel σ' (renV ρ d v) c := by
  intro d
  induction d with
  | zero =>
    intro v c h
    cases h with
    | bool => exact .bool _
    | int => exact .int _ _
    | string => exact .string _
    | nilPtr => exact .nilPtr
    | nilSlice => exact .nilSlice _ _
    | nilMap => exact .nilMap
    | nilFunc => exact .nilFunc
    | nilIface => exact .nilIface
    | ptr b o cb δ e hb =>
      unfold renV
      cases hr : ρ b with
      | none => exact .any _
      | some c => have := hρ b c hr; rw [hb] at this; exact .ptr _ _ _ _ _ this
    | ptrDead b o ca hb =>
      unfold renV
      cases hr : ρ b with
      | none => exact .any _
      | some c => have := hρ b c hr; rw [hb] at this; exact .ptrDead _ _ _ this
    | slice b o sp n c cb δ e hb =>
      unfold renV
      cases hr : ρ b with
      | none => exact .any _
      | some c => have := hρ b c hr; rw [hb] at this; exact .slice _ _ _ _ _ _ _ _ this
    | sliceDead b o sp n c ca c' hb =>
      unfold renV
      cases hr : ρ b with
      | none => exact .any _
      | some c => have := hρ b c hr; rw [hb] at this; exact .sliceDead _ _ _ _ _ _ _ this
    | map r cr δ e hb =>
      unfold renV
      cases hr : ρ r with
      | none => exact .any _
      | some c => have := hρ r c hr; rw [hb] at this; exact .map _ _ _ _ this
    | mapDead r cr hb =>
      unfold renV
      cases hr : ρ r with
      | none => exact .any _
      | some c => have := hρ r c hr; rw [hb] at this; exact .mapDead _ _ this
    | _ => exact .any _
  | succ d ih =>
    intro v c h
    cases h with
    | bool => exact .bool _
    | int => exact .int _ _
    | string => exact .string _
    | nilPtr => exact .nilPtr
    | nilSlice => exact .nilSlice _ _
    | nilMap => exact .nilMap
    | nilFunc => exact .nilFunc
    | nilIface => exact .nilIface
    | ptr b o cb δ e hb =>
      unfold renV
      cases hr : ρ b with
      | none => exact .any _
      | some c => have := hρ b c hr; rw [hb] at this; exact .ptr _ _ _ _ _ this
    | ptrDead b o ca hb =>
      unfold renV
      cases hr : ρ b with
      | none => exact .any _
      | some c => have := hρ b c hr; rw [hb] at this; exact .ptrDead _ _ _ this
    | slice b o sp n c cb δ e hb =>
      unfold renV
      cases hr : ρ b with
      | none => exact .any _
      | some c => have := hρ b c hr; rw [hb] at this; exact .slice _ _ _ _ _ _ _ _ this
    | sliceDead b o sp n c ca c' hb =>
      unfold renV
      cases hr : ρ b with
      | none => exact .any _
      | some c => have := hρ b c hr; rw [hb] at this; exact .sliceDead _ _ _ _ _ _ _ this
    | map r cr δ e hb =>
      unfold renV
      cases hr : ρ r with
      | none => exact .any _
      | some c => have := hρ r c hr; rw [hb] at this; exact .map _ _ _ _ this
    | mapDead r cr hb =>
      unfold renV
      cases hr : ρ r with
      | none => exact .any _
      | some c => have := hρ r c hr; rw [hb] at this; exact .mapDead _ _ this
    | iface t v v' h => exact .iface _ _ _ (ih _ _ h)
    | agg xs xs' h => exact .agg _ _ (VRelL.ren ih h)
    | tuple xs xs' h => exact .tuple _ _ (VRelL.ren ih h)
    | func f xs ys xs' ys' h1 h2 => exact .func _ _ _ _ _ (VRelL.ren ih h1) (VRelL.ren ih h2)
    | any v => exact .any _
    | yield => exact .any _
    | yieldDead => exact .any _
noncomputable def T.map {α β : Type} (g : α → β) (t : T α) : T β := T.rec (motive := fun _ => T β) .leaf (fun v _ _ l r => .node (match v with | some x => some (g x) | none => none) l r) t
theorem T.get_map {α β : Type} (g : α → β) : ∀ (t : T α) (k : Nat), (t.map g).get k = (t.get k).map g := by
  intro t
  induction t with
  | leaf => intro k; rfl
  | node v l r ihl ihr =>
    intro k
    show (T.node (match v with | some x => some (g x) | none => none) (l.map g) (r.map g)).get k = _
    cases k with
    | zero => rw [T.get_zero, T.get_zero]; cases v <;> rfl
    | succ k =>
      rw [T.get_succ, T.get_succ]
      split
      · exact ihr _
      · exact ihl _
noncomputable def renO (ρ : Nat → Option Nat) (o : AObj) : AObj := match o with
  | .cells b => .cells { b with tr := b.tr.map (renV ρ 8), zero := b.zero.map (renV ρ 8) }
  | .map es => .map (es.map fun p => (renV ρ 8 p.1, renV ρ 8 p.2))
  | o => o
def plainO : AObj → Bool
  | .cells _ => true
  | .map _ => true
  | _ => false
theorem renV_undef (ρ : Nat → Option Nat) (d : Nat) : renV ρ (d + 1) undef = undef := rfl
theorem ORel.ren {ρ : Nat → Option Nat} {σ σ' : Ren} {w : World} {cb δ e : Nat} {o : AObj} (hρ : Compat ρ σ σ') (hp : plainO o = true) (h : ORel σ w cb δ e o) : ORel σ' w cb δ e (renO ρ o) := by
  cases o with
  | cells b =>
    obtain ⟨cs, t, fz, h1, h2, h3, h4⟩ := h
    refine ⟨cs, t, fz, h1, h2, fun i hi => ?_, h4⟩
    have := VRel.ren hρ 8 _ _ (h3 i hi)
    rw [Blk.cell_eq] at this ⊢
    show VRel σ' (((b.tr.map (renV ρ 8)).get i).getD ((b.zero.map (renV ρ 8)).getD (i % (b.zero.map (renV ρ 8)).length) undef)) _
    rw [T.get_map]
    cases hg : b.tr.get i with
    | some v => rw [hg] at this; exact this
    | none =>
      rw [hg] at this
      simp only [Option.map_none, Option.getD_none, List.length_map] at this ⊢
      simp only [List.getD_eq_getElem?_getD, List.getElem?_map] at this ⊢
      cases hz : b.zero[i % b.zero.length]? with
      | some v => rw [hz] at this; exact this
      | none => rw [hz] at this; exact this
  | map es =>
    obtain ⟨ces, clock, h1, h2, h3, h4, h5⟩ := h
    refine ⟨ces, clock, h1, h2, h3, ?_, ?_⟩
    · have := VRelL.ren (VRel.ren hρ 8) h4
      simpa [List.map_map, Function.comp_def] using this
    · have := VRelL.ren (VRel.ren hρ 8) h5
      simpa [List.map_map, Function.comp_def] using this
  | loop l => cases hp
  | deferred o => cases hp

/-! ### Are two objects the same? -/
def vosame : Option Value → Option Value → Bool
  | none, none => true
  | some x, some y => vsame 8 x y
  | _, _ => false
theorem vosame_eq : ∀ {a b : Option Value}, vosame a b = true → a = b
  | none, none, _ => rfl
  | none, some _, h => by cases h
  | some _, none, h => by cases h
  | some x, some y, h => by rw [vsame_eq _ _ _ h]
noncomputable def teq (t u : T Value) : Bool :=
  T.rec (motive := fun _ => T Value → Bool) (fun u => match u with | .leaf => true | _ => false)
    (fun v _ _ gl gr u => match u with
      | .node v' l' r' => vosame v v' && gl l' && gr r'
      | _ => false) t u
theorem teq_eq : ∀ (t u : T Value), teq t u = true → t = u := by
  intro t
  induction t with
  | leaf => intro u h; cases u with
    | leaf => rfl
    | node => cases h
  | node v l r ihl ihr =>
    intro u h
    cases u with
    | leaf => cases h
    | node v' l' r' =>
      have h : (vosame v v' && teq l l' && teq r r') = true := h
      simp only [Bool.and_eq_true] at h
      obtain ⟨⟨h1, h2⟩, h3⟩ := h
      rw [ihl _ h2, ihr _ h3, vosame_eq h1]
def lsame : List Value → List Value → Bool
  | [], [] => true
  | x :: l, y :: m => vsame 8 x y && lsame l m
  | _, _ => false
theorem lsame_eq : ∀ l m, lsame l m = true → l = m
  | [], [], _ => rfl
  | [], _ :: _, h => by cases h
  | _ :: _, [], h => by cases h
  | x :: l, y :: m, h => by
    simp only [lsame, Bool.and_eq_true] at h
    rw [vsame_eq _ _ _ h.1, lsame_eq l m h.2]
def psame : List (Value × Value) → List (Value × Value) → Bool
  | [], [] => true
  | x :: l, y :: m => vsame 8 x.1 y.1 && vsame 8 x.2 y.2 && psame l m
  | _, _ => false
theorem psame_eq : ∀ l m, psame l m = true → l = m
  | [], [], _ => rfl
  | [], _ :: _, h => by cases h
  | _ :: _, [], h => by cases h
  | (a, b) :: l, (c, d) :: m, h => by
    simp only [psame, Bool.and_eq_true] at h
    rw [vsame_eq _ _ _ h.1.1, vsame_eq _ _ _ h.1.2, psame_eq l m h.2]
noncomputable def osame (a b : AObj) : Bool := match a, b with
  | .cells k, .cells j => Nat.beq k.n j.n && Nat.beq k.sz j.sz && (k.ro == j.ro) && lsame k.zero j.zero && teq k.tr j.tr
  | .map l, .map m => psame l m
  | _, _ => false
theorem osame_eq {a b : AObj} (h : osame a b = true) : a = b ∧ plainO a = true := by
  unfold osame at h
  split at h
  · rename_i k j
    simp only [Bool.and_eq_true, Nat.beq_eq, beq_iff_eq] at h
    obtain ⟨⟨⟨⟨h1, h2⟩, h3⟩, h4⟩, h5⟩ := h
    cases k; cases j
    simp only at h1 h2 h3 h4 h5
    rw [h1, h2, h3, lsame_eq _ _ h4, teq_eq _ _ h5]
    exact ⟨rfl, rfl⟩
  · rw [psame_eq _ _ h]; exact ⟨rfl, rfl⟩
  · cases h

/-! ### Lists of blocks -/
noncomputable def lkp (l : List (Nat × AObj)) (b : Nat) : Option AObj := List.rec (motive := fun _ => Option AObj) none (fun p _ ih => bif Nat.beq p.1 b then some p.2 else ih) l
theorem lkp_cons (p : Nat × AObj) (l : List (Nat × AObj)) (b : Nat) : lkp (p :: l) b = if p.1 = b then some p.2 else lkp l b := by
  show (bif Nat.beq p.1 b then some p.2 else lkp l b) = _
  by_cases h : p.1 = b
  · rw [if_pos h, h]; simp
  · rw [if_neg h]
    have : Nat.beq p.1 b = false := by
      cases hq : Nat.beq p.1 b with
      | false => rfl
      | true => exact absurd (Nat.eq_of_beq_eq_true hq) h
    rw [this]; rfl
noncomputable def layO (l : List (Nat × AObj)) (t : T (Option AObj)) : T (Option AObj) := List.rec (motive := fun _ => T (Option AObj)) t (fun p _ ih => ih.set p.1 (some p.2)) l
theorem layO_get (t : T (Option AObj)) : ∀ (l : List (Nat × AObj)) (b : Nat), (layO l t).get b = match lkp l b with
    | some o => some (some o)
    | none => t.get b := by
  intro l
  induction l with
  | nil => intro b; rfl
  | cons p l ih =>
    intro b
    show ((layO l t).set p.1 (some p.2)).get b = _
    rw [T.get_set, lkp_cons, ih]
    by_cases h : b = p.1
    · subst h; simp
    · rw [if_neg h, if_neg (fun e => h e.symm)]
theorem AH.get_layO {l : List (Nat × AObj)} {t : T (Option AObj)} {n b : Nat} : ({ next := n, tr := layO l t } : AH).get b = match lkp l b with
    | some o => some o
    | none => ({ next := n, tr := t } : AH).get b := by
  unfold AH.get
  simp only [layO_get]
  cases lkp l b <;> rfl
theorem lkp_mem {l : List (Nat × AObj)} {b : Nat} {o : AObj} (h : lkp l b = some o) : (b, o) ∈ l := by
  induction l with
  | nil => cases h
  | cons p l ih =>
    rw [lkp_cons] at h
    split at h
    · rename_i h1; cases h; subst h1; exact List.mem_cons_self ..
    · exact List.mem_cons_of_mem _ (ih h)
theorem lkp_some_of_mem {l : List (Nat × AObj)} {p : Nat × AObj} (h : p ∈ l) : ∃ o, lkp l p.1 = some o := by
  induction l with
  | nil => cases h
  | cons q l ih =>
    rw [lkp_cons]
    split
    · exact ⟨_, rfl⟩
    · rename_i h1
      rcases List.mem_cons.1 h with rfl | h
      · exact absurd rfl h1
      · exact ih h
theorem lkp_append (l m : List (Nat × AObj)) (b : Nat) : lkp (l ++ m) b = match lkp l b with
    | some o => some o
    | none => lkp m b := by
  induction l with
  | nil => rfl
  | cons p l ih =>
    rw [List.cons_append, lkp_cons, lkp_cons, ih]
    split <;> rfl
/-! ### What was found for a call: with which arguments and over which blocks; its value, and the blocks behind it -/
structure Ent where
  f : FuncId
  args : List Value
  N : Nat
  hin : List (Nat × AObj)
  v : Value
  M : Nat
  out : List (Nat × AObj)
  kills : List Nat := []
noncomputable def inL (l : List Nat) (b : Nat) : Bool := List.rec (motive := fun _ => Bool) false (fun x _ ih => bif Nat.beq x b then true else ih) l
theorem inL_cons (x : Nat) (l : List Nat) (b : Nat) : inL (x :: l) b = if x = b then true else inL l b := by
  show (bif Nat.beq x b then true else inL l b) = _
  by_cases h : x = b
  · rw [if_pos h, h]; simp
  · rw [if_neg h]
    have : Nat.beq x b = false := by rw [Bool.eq_false_iff, Ne, Nat.beq_eq]; exact h
    rw [this]; rfl
noncomputable def dropK (ks : List Nat) (l : List (Nat × AObj)) : List (Nat × AObj) := List.rec (motive := fun _ => List (Nat × AObj)) [] (fun p _ ih => bif inL ks p.1 then ih else p :: ih) l
theorem lkp_dropK (ks : List Nat) (l : List (Nat × AObj)) (b : Nat) : lkp (dropK ks l) b = if inL ks b = true then none else lkp l b := by
  induction l with
  | nil => cases inL ks b <;> rfl
  | cons p l ih =>
    show lkp (bif inL ks p.1 then dropK ks l else p :: dropK ks l) b = _
    cases hp : inL ks p.1 with
    | true =>
      rw [cond_true, ih, lkp_cons]
      by_cases h : p.1 = b
      · rw [← h, hp]; simp
      · rw [if_neg h]
    | false =>
      rw [cond_false, lkp_cons, ih, lkp_cons]
      by_cases h : p.1 = b
      · rw [if_pos h, if_pos h, ← h, hp]; simp
      · rw [if_neg h, if_neg h]
noncomputable def killO (ks : List Nat) (t : T (Option AObj)) : T (Option AObj) := List.rec (motive := fun _ => T (Option AObj)) t (fun b _ ih => ih.set b none) ks
theorem killO_get (t : T (Option AObj)) : ∀ (ks : List Nat) (b : Nat), (killO ks t).get b = if inL ks b = true then some none else t.get b := by
  intro ks
  induction ks with
  | nil => intro b; rfl
  | cons x ks ih =>
    intro b
    show ((killO ks t).set x none).get b = _
    rw [T.get_set, inL_cons, ih]
    by_cases h : b = x
    · subst h; simp
    · rw [if_neg h, if_neg (show ¬ x = b from fun e => h e.symm)]
noncomputable def Ent.all (e : Ent) : List (Nat × AObj) := e.out ++ dropK e.kills e.hin
noncomputable def Ent.start (e : Ent) : AH := { next := e.N, tr := layO e.hin .leaf }
def newId (N K b : Nat) : Nat := bif Nat.blt b N then b else K + (b - N)
/-- The new name of a block of the entry, where the heap has K for N. -/
noncomputable def Ent.ρ (e : Ent) (K : Nat) (b : Nat) : Option Nat := match lkp (Ent.all e) b with
  | some _ => some (newId e.N K b)
  | none => bif Nat.beq b 0 then some 0 else bif inL e.kills b then some b else none
noncomputable def Ent.laid (e : Ent) (H : AH) : AH := { next := H.next + (e.M - e.N), tr := layO (e.all.map fun p => (newId e.N H.next p.1, renO (e.ρ H.next) p.2)) (killO e.kills H.tr) }
def argsSame : List Value → List Value → Bool := lsame
def isNil {α : Type} : List α → Bool
  | [] => true
  | _ => false
noncomputable def Ent.fits (e : Ent) (H : AH) : Bool :=
  (Nat.beq H.next e.N || (isNil e.hin && Nat.ble e.N H.next && lsame (e.args.map (renV (fun _ => none) 8)) e.args)) && e.hin.all fun p => match H.get p.1 with
    | some o => osame o p.2
    | none => false
noncomputable def hookE (es : List Ent) (f : FuncId) (args : List Value) (H : AH) : Option HRes :=
  List.rec (motive := fun _ => Option HRes) none (fun e _ ih => bif Nat.beq f e.f && lsame args e.args && e.fits H then some (.ret (renV (e.ρ H.next) 8 e.v) (e.laid H)) else ih) es
/-- The checks of an entry: of its own form, and of what the engine finds. -/
noncomputable def Ent.form (e : Ent) : Bool := Nat.blt 0 e.N && Nat.ble e.N e.M && (e.hin.all fun p => Nat.blt p.1 e.N) &&
  (e.out.all fun p => Nat.blt p.1 e.M && (Nat.ble e.N p.1 || (match lkp e.hin p.1 with | some _ => true | none => false)) && !inL e.kills p.1) &&
  (e.kills.all fun b => match lkp e.hin b with | some _ => true | none => false)
noncomputable def Ent.found (e : Ent) (H2 : AH) : Bool := (e.all.all fun p => match H2.get p.1, lkp e.all p.1 with
    | some o, some o' => osame o o'
    | _, _ => false) && (e.hin.all fun p => match lkp e.all p.1 with
    | some o => osame (renO (e.ρ e.N) o) o
    | none => inL e.kills p.1) && e.kills.all fun b => match H2.get b with
    | some _ => false
    | none => true
noncomputable def Ent.holds (C : Ctx) (e : Ent) (n : Nat) : Bool := e.form && match afunB C (eng C n) e.f e.args e.start with
  | .ok v H2 => vsame 8 v e.v && e.found H2
  | .bad _ => false
/-- What stands behind an entry. -/
structure EntOk [Base] (P : Program) (e : Ent) : Prop where
  fn : ∃ fn, P.funcs[e.f]? = some fn ∧ fn.body.isSome = true ∧ (fn.name == "runtime.NumGoroutine") = false
  form : e.form = true
  calls : ∃ H2, e.found H2 = true ∧ ∀ σ w cargs, HRel σ e.start w → VRelL σ e.args cargs → Calls P e.f ⟨cargs⟩ w fun ev w' => ∃ cv σ', ev = .returned cv ∧ VRel σ' e.v cv ∧ Leads σ e.start w σ' H2 w'
theorem afunB_fn {C : Ctx} {ih : Code → AFr → AH → Out} {f : FuncId} {args : List Value} {H H1 : AH} {v : Value} (h : afunB C ih f args H = .ok v H1) : ∃ fn, C.fn f = some fn ∧ fn.body.isSome = true := by
  unfold afunB at h
  cases hb : abody C ih f args H with
  | bad l => rw [hb] at h; cases h
  | ok e fr H2 =>
    unfold abody at hb
    split at hb
    · cases hb
    · rename_i fn hfn
      split at hb
      · cases hb
      · rename_i c hc
        exact ⟨fn, hfn, by rw [hc]; rfl⟩
theorem Ent.ok [Base] {P : Program} {C : Ctx} (hC : CtxOk C P) (hN : NamesOk P C) (hK : HookOk P C) (hfol : P.follows .mixedOrders = true) {e : Ent} {n : Nat} (h : e.holds C n = true) : EntOk P e := by
  unfold Ent.holds at h
  rw [Bool.and_eq_true] at h
  obtain ⟨h1, h2⟩ := h
  split at h2
  · rename_i v H2 hr
    rw [Bool.and_eq_true] at h2
    obtain rfl := vsame_eq _ _ _ h2.1
    obtain ⟨fn, f1, f2⟩ := afunB_fn hr
    exact ⟨⟨fn, hC.fn _ _ f1, f2, hN.named _ _ f1 f2⟩, h1, H2, h2.2, fun σ w cargs hH ha => (afunB_ok hC hN (eng_ok hC hN hK hfol n) hr hH ha).2⟩
  · cases h2
end Go.Eng
