/- The engine's ground: tries, abstract values and heaps, and how they stand to the model's worlds. Nothing of a program is named here. -/
import Derived.Laws.Entries
import Derived.Laws.Cells
import Derived.KernelRfl
namespace Go.Eng
open Go

/-! ### Tries over numbers -/
inductive T (α : Type) : Type where
  | leaf : T α
  | node (v : Option α) (l r : T α) : T α

namespace T
variable {α : Type}
noncomputable def get (t : T α) : Nat → Option α :=
  T.rec (motive := fun _ => Nat → Option α) (fun _ => none)
    (fun v _ _ gl gr k => Nat.rec (motive := fun _ => Option α) v (fun _ _ => Bool.rec (gl (Nat.div k 2)) (gr (Nat.div k 2)) (Nat.beq (Nat.mod k 2) 1)) k) t
noncomputable def sing (x : α) (f : Nat) : Nat → T α :=
  Nat.rec (motive := fun _ => Nat → T α) (fun _ => .node (some x) .leaf .leaf)
    (fun _ ih k => Nat.rec (motive := fun _ => T α) (.node (some x) .leaf .leaf)
      (fun _ _ => Bool.rec (.node none (ih (Nat.div k 2)) .leaf) (.node none .leaf (ih (Nat.div k 2))) (Nat.beq (Nat.mod k 2) 1)) k) f
noncomputable def set (t : T α) : Nat → α → T α :=
  T.rec (motive := fun _ => Nat → α → T α) (fun k x => sing x k k)
    (fun v l r gl gr k x => Nat.rec (motive := fun _ => T α) (.node (some x) l r)
      (fun _ _ => Bool.rec (.node v (gl (Nat.div k 2) x) r) (.node v l (gr (Nat.div k 2) x)) (Nat.beq (Nat.mod k 2) 1)) k) t

@[simp] theorem get_leaf (k : Nat) : (leaf : T α).get k = none := rfl
theorem get_zero (v : Option α) (l r : T α) : (node v l r).get 0 = v := rfl
theorem bool_rec {β : Type} (a b : β) (c : Bool) : (Bool.rec a b c : β) = if c = true then b else a := by cases c <;> rfl
theorem get_succ (v : Option α) (l r : T α) (k : Nat) : (node v l r).get (k + 1) = if (k + 1) % 2 = 1 then r.get ((k + 1) / 2) else l.get ((k + 1) / 2) := by
  show (Bool.rec (l.get ((k + 1) / 2)) (r.get ((k + 1) / 2)) (Nat.beq ((k + 1) % 2) 1) : Option α) = _
  rw [bool_rec]; simp
theorem sing_succ (x : α) (f k : Nat) : sing x (f + 1) (k + 1) = if (k + 1) % 2 = 1 then .node none .leaf (sing x f ((k + 1) / 2)) else .node none (sing x f ((k + 1) / 2)) .leaf := by
  show (Bool.rec (.node none (sing x f ((k + 1) / 2)) .leaf) (.node none .leaf (sing x f ((k + 1) / 2))) (Nat.beq ((k + 1) % 2) 1) : T α) = _
  rw [bool_rec]; simp
theorem sing_zero (x : α) (f : Nat) : sing x f 0 = .node (some x) .leaf .leaf := by cases f <;> rfl
theorem get_sing (x : α) : ∀ (f k j : Nat), k ≤ f → (sing x f k).get j = if j = k then some x else none := by
  intro f
  induction f with
  | zero =>
    intro k j hk
    obtain rfl : k = 0 := by omega
    rw [sing_zero]
    cases j with
    | zero => rfl
    | succ j => rw [get_succ]; simp
  | succ f ih =>
    intro k j hk
    cases k with
    | zero =>
      rw [sing_zero]
      cases j with
      | zero => rfl
      | succ j => rw [get_succ]; simp
    | succ k =>
      rw [sing_succ]
      cases j with
      | zero => split <;> simp [get_zero]
      | succ j =>
        split <;> rw [get_succ] <;> split
        · rw [ih _ _ (by omega)]; by_cases h : j = k
          · subst h; simp
          · rw [if_neg (by omega), if_neg (by omega)]
        · rw [if_neg (by omega)]; rfl
        · rw [if_neg (by omega)]; rfl
        · rw [ih _ _ (by omega)]; by_cases h : j = k
          · subst h; simp
          · rw [if_neg (by omega), if_neg (by omega)]
theorem set_leaf (k : Nat) (x : α) : (leaf : T α).set k x = sing x k k := rfl
theorem set_zero (v : Option α) (l r : T α) (x : α) : (node v l r).set 0 x = .node (some x) l r := rfl
theorem set_succ (v : Option α) (l r : T α) (k : Nat) (x : α) : (node v l r).set (k + 1) x = if (k + 1) % 2 = 1 then .node v l (r.set ((k + 1) / 2) x) else .node v (l.set ((k + 1) / 2) x) r := by
  show (Bool.rec (.node v (l.set ((k + 1) / 2) x) r) (.node v l (r.set ((k + 1) / 2) x)) (Nat.beq ((k + 1) % 2) 1) : T α) = _
  rw [bool_rec]; simp
theorem get_set (t : T α) : ∀ (k j : Nat) (x : α), (t.set k x).get j = if j = k then some x else t.get j := by
  induction t with
  | leaf => intro k j x; rw [set_leaf, get_sing _ _ _ _ (Nat.le_refl _)]; rfl
  | node v l r ihl ihr =>
    intro k j x
    cases k with
    | zero => rw [set_zero]; cases j <;> simp [get_zero, get_succ]
    | succ k =>
      rw [set_succ]
      cases j with
      | zero => split <;> simp [get_zero]
      | succ j =>
        split <;> rw [get_succ, get_succ] <;> split
        · rw [ihr]; by_cases h : j = k
          · subst h; simp
          · rw [if_neg (by omega), if_neg (by omega)]
        · rw [if_neg (by omega)]
        · rw [if_neg (by omega)]
        · rw [ihl]; by_cases h : j = k
          · subst h; simp
          · rw [if_neg (by omega), if_neg (by omega)]
@[simp] theorem get_set_self (t : T α) (k : Nat) (x : α) : (t.set k x).get k = some x := by rw [get_set]; simp
theorem get_set_ne (t : T α) {k j : Nat} (x : α) (h : j ≠ k) : (t.set k x).get j = t.get j := by rw [get_set, if_neg h]

/-- A list laid from a number on. -/
noncomputable def lay (l : List α) : T α → Nat → T α :=
  List.rec (motive := fun _ => T α → Nat → T α) (fun t _ => t) (fun x _ ih t k => ih (t.set k x) (Nat.succ k)) l
@[simp] theorem lay_nil (t : T α) (k : Nat) : lay [] t k = t := rfl
@[simp] theorem lay_cons (x : α) (l : List α) (t : T α) (k : Nat) : lay (x :: l) t k = lay l (t.set k x) (k + 1) := rfl
theorem get_lay : ∀ (l : List α) (t : T α) (k j : Nat), (lay l t k).get j = if k ≤ j ∧ j < k + l.length then l[j - k]? else t.get j := by
  intro l
  induction l with
  | nil => intro t k j; rw [if_neg (by simp)]; rfl
  | cons x l ih =>
    intro t k j
    rw [lay_cons, ih, get_set]
    by_cases h1 : j = k
    · subst h1; rw [if_neg (by omega), if_pos rfl, if_pos (by simp)]; simp
    · by_cases h2 : k + 1 ≤ j ∧ j < k + 1 + l.length
      · rw [if_pos h2, if_pos (by simp; omega)]
        obtain ⟨d, rfl⟩ : ∃ d, j = k + 1 + d := ⟨j - (k + 1), by omega⟩
        rw [show k + 1 + d - (k + 1) = d by omega, show k + 1 + d - k = d + 1 by omega]; simp
      · rw [if_neg h2, if_neg h1, if_neg (by simp; omega)]
end T

/-! ### Abstract values: the model's own, with three readings: a slice's address may bear 'spot' (its capacity is at least what is written); '.chan (some 0)' is whatever value; a block may be dead. -/
@[reducible] def junk : Value := .chan (some 0)

inductive Slot : Type where
  | unborn
  | dead
  | to (cb δ e : Nat)
abbrev Ren := Nat → Slot

mutual
inductive VRel (σ : Ren) : Value → Value → Prop
  | bool (b : Bool) : VRel σ (.bool b) (.bool b)
  | int (k : IntKind) (n : Int) : VRel σ (.int k n) (.int k n)
  | string (s : ByteArray) : VRel σ (.string s) (.string s)
  | nilPtr : VRel σ (.pointer none) (.pointer none)
  | ptr (b o cb δ e : Nat) : σ b = .to cb δ e → VRel σ (.pointer (some ⟨b, o, none⟩)) (.pointer (some ⟨cb, o + δ, none⟩))
  | ptrDead (b o : Nat) (ca : Addr) : σ b = .dead → VRel σ (.pointer (some ⟨b, o, none⟩)) (.pointer (some ca))
  | nilSlice (n c : Nat) : VRel σ (.slice none n c) (.slice none n c)
  | slice (b o : Nat) (sp : Option Nat) (n c cb δ e : Nat) : σ b = .to cb δ e →
      VRel σ (.slice (some ⟨b, o, sp⟩) n c) (.slice (some ⟨cb, o + δ, none⟩) n (if sp.isSome then c + e else c))
  | sliceDead (b o : Nat) (sp : Option Nat) (n c : Nat) (ca : Addr) (c' : Nat) : σ b = .dead → VRel σ (.slice (some ⟨b, o, sp⟩) n c) (.slice (some ca) n c')
  | nilMap : VRel σ (.map none) (.map none)
  | map (r cr δ e : Nat) : σ r = .to cr δ e → VRel σ (.map (some r)) (.map (some cr))
  | mapDead (r cr : Nat) : σ r = .dead → VRel σ (.map (some r)) (.map (some cr))
  | nilFunc : VRel σ .nilFunc .nilFunc
  | func (f : FuncId) (xs ys xs' ys' : List Value) : VRelL σ xs xs' → VRelL σ ys ys' → VRel σ (.func (.func f) ⟨xs⟩ ⟨ys⟩) (.func (.func f) ⟨xs'⟩ ⟨ys'⟩)
  | yield (l cl δ e : Nat) : σ l = .to cl δ e → VRel σ (.func (.yield l) #[] #[]) (.func (.yield cl) #[] #[])
  | yieldDead (l cl : Nat) : σ l = .dead → VRel σ (.func (.yield l) #[] #[]) (.func (.yield cl) #[] #[])
  | nilIface : VRel σ .nilIface .nilIface
  | iface (t : TypeId) (v v' : Value) : VRel σ v v' → VRel σ (.iface t v) (.iface t v')
  | agg (xs xs' : List Value) : VRelL σ xs xs' → VRel σ (.agg ⟨xs⟩) (.agg ⟨xs'⟩)
  | tuple (xs xs' : List Value) : VRelL σ xs xs' → VRel σ (.tuple ⟨xs⟩) (.tuple ⟨xs'⟩)
  | any (v : Value) : VRel σ junk v
inductive VRelL (σ : Ren) : List Value → List Value → Prop
  | nil : VRelL σ [] []
  | cons {v v' : Value} {vs vs' : List Value} : VRel σ v v' → VRelL σ vs vs' → VRelL σ (v :: vs) (v' :: vs')
end

/-- A later renaming: what stands stays, or is dead; the dead stay dead. -/
def Ext (σ σ' : Ren) : Prop := ∀ b, match σ b with
  | .to cb δ e => σ' b = .to cb δ e ∨ σ' b = .dead
  | .dead => σ' b = .dead
  | .unborn => True
theorem Ext.refl (σ : Ren) : Ext σ σ := by intro b; cases σ b <;> simp
theorem Ext.trans {σ σ' σ'' : Ren} (h : Ext σ σ') (k : Ext σ' σ'') : Ext σ σ'' := by
  intro b
  have h := h b; have k := k b
  cases e : σ b with
  | unborn => trivial
  | dead => simp only [e] at h; simp only [h] at k; exact k
  | to cb δ x =>
    simp only [e] at h
    rcases h with h | h
    · simp only [h] at k; exact k
    · simp only [h] at k; exact .inr k

mutual
theorem VRel.ext {σ σ' : Ren} (h : Ext σ σ') {v w : Value} (r : VRel σ v w) : VRel σ' v w := by
  cases r with
  | bool b => exact .bool b
  | int k n => exact .int k n
  | string s => exact .string s
  | nilPtr => exact .nilPtr
  | ptr b o cb δ e hb =>
    have := h b; simp only [hb] at this
    rcases this with this | this
    · exact .ptr _ _ _ _ _ this
    · exact .ptrDead _ _ _ this
  | ptrDead b o ca hb => have := h b; simp only [hb] at this; exact .ptrDead _ _ _ this
  | nilSlice n c => exact .nilSlice n c
  | slice b o sp n c cb δ e hb =>
    have := h b; simp only [hb] at this
    rcases this with this | this
    · exact .slice _ _ _ _ _ _ _ _ this
    · exact .sliceDead _ _ _ _ _ _ _ this
  | sliceDead b o sp n c ca c' hb => have := h b; simp only [hb] at this; exact .sliceDead _ _ _ _ _ _ _ this
  | nilMap => exact .nilMap
  | map r cr δ e hb =>
    have := h r; simp only [hb] at this
    rcases this with this | this
    · exact .map _ _ _ _ this
    · exact .mapDead _ _ this
  | mapDead r cr hb => have := h r; simp only [hb] at this; exact .mapDead _ _ this
  | nilFunc => exact .nilFunc
  | func f xs ys xs' ys' h1 h2 => exact .func _ _ _ _ _ (VRelL.ext h h1) (VRelL.ext h h2)
  | yield l cl δ e hb =>
    have := h l; simp only [hb] at this
    rcases this with this | this
    · exact .yield _ _ _ _ this
    · exact .yieldDead _ _ this
  | yieldDead l cl hb => have := h l; simp only [hb] at this; exact .yieldDead _ _ this
  | nilIface => exact .nilIface
  | iface t v v' h1 => exact .iface _ _ _ (VRel.ext h h1)
  | agg xs xs' h1 => exact .agg _ _ (VRelL.ext h h1)
  | tuple xs xs' h1 => exact .tuple _ _ (VRelL.ext h h1)
  | any => exact .any _
theorem VRelL.ext {σ σ' : Ren} (h : Ext σ σ') {v w : List Value} (r : VRelL σ v w) : VRelL σ' v w := by
  cases r with
  | nil => exact .nil
  | cons h1 h2 => exact .cons (VRel.ext h h1) (VRelL.ext h h2)
end

theorem VRelL.length {σ : Ren} : ∀ {v w : List Value}, VRelL σ v w → v.length = w.length
  | _, _, .nil => rfl
  | _, _, .cons _ h => by simp [h.length]
theorem VRelL.get {σ : Ren} : ∀ {v w : List Value}, VRelL σ v w → ∀ (i : Nat) (x : Value), v[i]? = some x → ∃ y, w[i]? = some y ∧ VRel σ x y
  | _, _, .nil, i, x, h => by simp at h
  | _, _, .cons h1 _, 0, x, h => by simp at h; subst h; exact ⟨_, rfl, h1⟩
  | _, _, .cons _ h2, i + 1, x, h => by simpa using h2.get i x (by simpa using h)
theorem VRelL.of {σ : Ren} : ∀ {v w : List Value}, v.length = w.length → (∀ (i : Nat) (x y : Value), v[i]? = some x → w[i]? = some y → VRel σ x y) → VRelL σ v w
  | [], [], _, _ => .nil
  | [], _ :: _, h, _ => by simp at h
  | _ :: _, [], h, _ => by simp at h
  | x :: v, y :: w, h, k => .cons (k 0 x y rfl rfl) (VRelL.of (by simpa using h) fun i a b ha hb => k (i + 1) a b (by simpa using ha) (by simpa using hb))
theorem VRelL.append {σ : Ren} : ∀ {v w v' w' : List Value}, VRelL σ v w → VRelL σ v' w' → VRelL σ (v ++ v') (w ++ w')
  | _, _, _, _, .nil, h => h
  | _, _, _, _, .cons h1 h2, h => .cons h1 (h2.append h)
theorem VRelL.map {σ : Ren} {α β : Type} {f : α → Value} {g : α → Value} : ∀ (l : List α), (∀ x ∈ l, VRel σ (f x) (g x)) → VRelL σ (l.map f) (l.map g)
  | [], _ => .nil
  | x :: l, h => .cons (h x (by simp)) (VRelL.map (β := β) l fun y hy => h y (by simp [hy]))
theorem VRelL.drop {σ : Ren} : ∀ {v w : List Value} (n : Nat), VRelL σ v w → VRelL σ (v.drop n) (w.drop n)
  | _, _, 0, h => h
  | _, _, _ + 1, .nil => .nil
  | _, _, n + 1, .cons _ h => by simpa using h.drop n
theorem VRelL.take {σ : Ren} : ∀ {v w : List Value} (n : Nat), VRelL σ v w → VRelL σ (v.take n) (w.take n)
  | _, _, 0, h => by simpa using .nil
  | _, _, _ + 1, .nil => .nil
  | _, _, n + 1, .cons h1 h => by simpa using .cons h1 (h.take n)
@[simp] theorem VRel.undef {σ : Ren} : VRel σ undef undef := .tuple [] [] .nil

/-- A value that leads to no memory: it stands for itself. -/
def closedV : Nat → Value → Bool
  | _, .bool _ | _, .int _ _ | _, .string _ | _, .pointer none | _, .slice none _ _ | _, .map none | _, .nilFunc | _, .nilIface => true
  | n + 1, .agg ⟨xs⟩ => xs.all (closedV n)
  | n + 1, .tuple ⟨xs⟩ => xs.all (closedV n)
  | n + 1, .iface _ v => closedV n v
  | n + 1, .func (.func _) ⟨xs⟩ ⟨ys⟩ => xs.all (closedV n) && ys.all (closedV n)
  | _, _ => false
theorem closedV_rel {σ : Ren} : ∀ (n : Nat) (v : Value), closedV n v = true → VRel σ v v := by
  intro n
  induction n with
  | zero =>
    intro v h
    cases v with
    | bool => exact .bool _
    | int => exact .int _ _
    | string => exact .string _
    | pointer a => cases a with | none => exact .nilPtr | some a => simp [closedV] at h
    | slice a => cases a with | none => exact .nilSlice _ _ | some a => simp [closedV] at h
    | map a => cases a with | none => exact .nilMap | some a => simp [closedV] at h
    | nilFunc => exact .nilFunc
    | nilIface => exact .nilIface
    | _ => simp [closedV] at h
  | succ n ih =>
    have L : ∀ l : List Value, l.all (closedV n) = true → VRelL σ l l := fun l h => by
      refine VRelL.of rfl fun i x y hx hy => ?_
      obtain rfl : x = y := by simpa [hx] using hy
      exact ih x (List.all_eq_true.1 h x (List.mem_of_getElem? hx))
    intro v h
    cases v with
    | bool => exact .bool _
    | int => exact .int _ _
    | string => exact .string _
    | pointer a => cases a with | none => exact .nilPtr | some a => simp [closedV] at h
    | slice a => cases a with | none => exact .nilSlice _ _ | some a => simp [closedV] at h
    | map a => cases a with | none => exact .nilMap | some a => simp [closedV] at h
    | nilFunc => exact .nilFunc
    | nilIface => exact .nilIface
    | agg xs => exact .agg _ _ (L _ (by simpa [closedV] using h))
    | tuple xs => exact .tuple _ _ (L _ (by simpa [closedV] using h))
    | iface t v => exact .iface _ _ _ (ih v (by simpa [closedV] using h))
    | func fn xs ys =>
      cases fn with
      | func f =>
        simp only [closedV, Bool.and_eq_true] at h
        exact .func _ _ _ _ _ (L _ h.1) (L _ h.2)
      | _ => simp [closedV] at h
    | _ => simp [closedV] at h

/-! ### Abstract heaps -/
structure Blk where
  n : Nat
  sz : Nat
  tr : T Value
  zero : List Value
  ro : Bool := false
noncomputable def nthD (l : List Value) : Nat → Value :=
  List.rec (motive := fun _ => Nat → Value) (fun _ => undef) (fun x _ ih k => Nat.rec (motive := fun _ => Value) x (fun k' _ => ih k') k) l
theorem nthD_eq : ∀ (l : List Value) (k : Nat), nthD l k = l.getD k undef
  | [], k => by cases k <;> rfl
  | x :: l, 0 => rfl
  | x :: l, k + 1 => by
    show nthD l k = _
    rw [nthD_eq l k]; simp [List.getD]
noncomputable def Blk.cell (b : Blk) (i : Nat) : Value := match b.tr.get i with
  | some v => v
  | none => nthD b.zero (Nat.mod i b.zero.length)
theorem Blk.cell_eq (b : Blk) (i : Nat) : b.cell i = (b.tr.get i).getD (b.zero.getD (i % b.zero.length) undef) := by
  unfold Blk.cell
  cases b.tr.get i with
  | some v => rfl
  | none => exact nthD_eq _ _

structure ALoop where
  st : LoopState
  pending : Option Code
  tm : T Value
  n : Nat
  params : Array Tmp
  assign : Code
  body : Code

inductive AObj where
  | cells (b : Blk)
  | map (es : List (Value × Value))
  | loop (l : ALoop)
  | deferred (open_ : Bool)

structure AH where
  next : Nat
  tr : T (Option AObj)
noncomputable def AH.get (H : AH) (b : Nat) : Option AObj := match H.tr.get b with
  | some o => o
  | none => none
noncomputable def AH.set (H : AH) (b : Nat) (o : AObj) : AH := { H with tr := H.tr.set b (some o) }
noncomputable def AH.kill (H : AH) (b : Nat) : AH := { H with tr := H.tr.set b none }
noncomputable def AH.push (H : AH) (o : AObj) : AH := { next := Nat.succ H.next, tr := H.tr.set H.next (some o) }
theorem AH.get_set (H : AH) (b c : Nat) (o : AObj) : (H.set b o).get c = if c = b then some o else H.get c := by
  unfold AH.get AH.set; simp only [T.get_set]; by_cases h : c = b <;> simp [h]
theorem AH.get_kill (H : AH) (b c : Nat) : (H.kill b).get c = if c = b then none else H.get c := by
  unfold AH.get AH.kill; simp only [T.get_set]; by_cases h : c = b <;> simp [h]
theorem AH.get_push (H : AH) (c : Nat) (o : AObj) : (H.push o).get c = if c = H.next then some o else H.get c := by
  unfold AH.get AH.push; simp only [T.get_set]; by_cases h : c = H.next <;> simp [h]
@[simp] theorem AH.next_set (H : AH) (b : Nat) (o : AObj) : (H.set b o).next = H.next := rfl
@[simp] theorem AH.next_kill (H : AH) (b : Nat) : (H.kill b).next = H.next := rfl
@[simp] theorem AH.next_push (H : AH) (o : AObj) : (H.push o).next = H.next + 1 := rfl

/-- Temporaries: those that were not set are undefined in both. -/
noncomputable def tget (tm : T Value) (i : Nat) : Value := match tm.get i with
  | some v => v
  | none => undef
def TRel (σ : Ren) (tm : T Value) (n : Nat) (ct : Array Value) : Prop := ct.size = n ∧ ∀ i, VRel σ (tget tm i) (ct.getD i undef)

/-- What a block of the abstract heap says of the model's block. -/
def ORel (σ : Ren) (w : World) (cb δ e : Nat) : AObj → Prop
  | .cells b => ∃ (cs : Array Value) (t : TypeId) (fz : Nat × Nat), w.heap[cb]? = some (.cells cs t fz) ∧ cs.size = δ + b.n + e * b.sz ∧ (∀ i, i < b.n → VRel σ (b.cell i) (cs.getD (δ + i) undef)) ∧ (b.ro = false → fz = (0, 0))
  | .map es => ∃ (ces : Array MapEntry) (clock : Nat), w.heap[cb]? = some (.map ces clock) ∧ δ = 0 ∧ e = 0 ∧
      VRelL σ (es.map (·.1)) (ces.toList.map (·.key)) ∧ VRelL σ (es.map (·.2)) (ces.toList.map (·.val))
  | .loop l => ∃ (ct : Array Value) (cd : Nat) (cf : FuncId), w.heap[cb]? = some (.loop { state := l.st, pending := l.pending, fn := cf, tmps := ct, params := l.params, assign := l.assign, body := l.body, defers := cd }) ∧
      TRel σ l.tm l.n ct
  | .deferred o => w.heap[cb]? = some (.deferred (if o then some [] else none))

/-- The world at the start: of what it held nothing is the engine's. -/
class Base where
  W0 : World
structure HRel [Base] (σ : Ren) (H : AH) (w : World) : Prop where
  obj : ∀ b cb δ e, σ b = .to cb δ e → ∃ o, H.get b = some o ∧ ORel σ w cb δ e o
  inj : ∀ b b' cb δ e δ' e', σ b = .to cb δ e → σ b' = .to cb δ' e' → b = b'
  dead : ∀ b, σ b = .dead → H.get b = none
  nil : σ 0 = .dead
  fresh : ∀ b, H.next ≤ b → σ b = .unborn
  base : ∀ k, k < Base.W0.heap.size → w.heap[k]? = Base.W0.heap[k]? ∧ ∀ b δ e, σ b = .to k δ e → ∃ q, H.get b = some (.cells q) ∧ q.ro = true
theorem HRel.base_lt [Base] {σ : Ren} {H : AH} {w : World} (hH : HRel σ H w) {k : Nat} (hk : k < Base.W0.heap.size) : k < w.heap.size := by
  have h1 := (hH.base k hk).1
  rw [Array.getElem?_eq_getElem hk] at h1
  exact (Array.getElem?_eq_some_iff.1 h1).1

/-- From one pair of heaps to a later one. -/
structure Leads [Base] (σ : Ren) (H : AH) (w : World) (σ' : Ren) (H' : AH) (w' : World) : Prop where
  rel : HRel σ' H' w'
  ext : Ext σ σ'
  next : H.next ≤ H'.next
  stay : ∀ b, b < H.next → σ b = .unborn → σ' b = .unborn ∧ H'.get b = H.get b
  size : w.heap.size ≤ w'.heap.size
  frame : ∀ cb, cb < w.heap.size → (∀ b δ e, σ b ≠ .to cb δ e) → w'.heap[cb]? = w.heap[cb]? ∧ ∀ b δ e, σ' b ≠ .to cb δ e
  os : w'.os = w.os ∧ w'.output = w.output ∧ w'.tape = w.tape
  froz : ∀ a, w'.frozen? a = w.frozen? a
theorem Leads.refl [Base] {σ : Ren} {H : AH} {w : World} (h : HRel σ H w) : Leads σ H w σ H w :=
  ⟨h, Ext.refl σ, Nat.le_refl _, fun _ _ h => ⟨h, rfl⟩, Nat.le_refl _, fun _ _ h => ⟨rfl, h⟩, ⟨rfl, rfl, rfl⟩, fun _ => rfl⟩
theorem Leads.trans [Base] {σ σ' σ'' : Ren} {H H' H'' : AH} {w w' w'' : World} (h : Leads σ H w σ' H' w') (k : Leads σ' H' w' σ'' H'' w'') : Leads σ H w σ'' H'' w'' where
  rel := k.rel
  ext := h.ext.trans k.ext
  next := Nat.le_trans h.next k.next
  stay b hb hu := by
    obtain ⟨h1, h2⟩ := h.stay b hb hu
    obtain ⟨k1, k2⟩ := k.stay b (Nat.lt_of_lt_of_le hb h.next) h1
    exact ⟨k1, k2.trans h2⟩
  size := Nat.le_trans h.size k.size
  frame cb hc hn := by
    obtain ⟨h1, h2⟩ := h.frame cb hc hn
    obtain ⟨k1, k2⟩ := k.frame cb (Nat.lt_of_lt_of_le hc h.size) h2
    exact ⟨k1.trans h1, k2⟩
  os := ⟨k.os.1.trans h.os.1, k.os.2.1.trans h.os.2.1, k.os.2.2.trans h.os.2.2⟩
  froz a := (k.froz a).trans (h.froz a)
theorem ORel.ext {σ σ' : Ren} {w : World} {cb δ e : Nat} {o : AObj} (hx : Ext σ σ') (h : ORel σ w cb δ e o) : ORel σ' w cb δ e o := by
  cases o with
  | cells b => obtain ⟨cs, t, fz, h1, h2, h3, h4⟩ := h; exact ⟨cs, t, fz, h1, h2, fun i hi => (h3 i hi).ext hx, h4⟩
  | map es => obtain ⟨ces, clock, h1, h2, h3, h4, h5⟩ := h; exact ⟨ces, clock, h1, h2, h3, h4.ext hx, h5.ext hx⟩
  | loop l => obtain ⟨ct, cd, cf, h1, h2⟩ := h; exact ⟨ct, cd, cf, h1, ⟨h2.1, fun i => (h2.2 i).ext hx⟩⟩
  | deferred o => exact h
theorem ORel.world {σ : Ren} {w w' : World} {cb δ e : Nat} {o : AObj} (hw : w'.heap[cb]? = w.heap[cb]?) (h : ORel σ w cb δ e o) : ORel σ w' cb δ e o := by
  cases o with
  | cells b => obtain ⟨cs, t, fz, h1, h2, h3⟩ := h; exact ⟨cs, t, fz, hw.trans h1, h2, h3⟩
  | map es => obtain ⟨ces, clock, h1, h2, h3, h4, h5⟩ := h; exact ⟨ces, clock, hw.trans h1, h2, h3, h4, h5⟩
  | loop l => obtain ⟨ct, cd, cf, h1, h2⟩ := h; exact ⟨ct, cd, cf, hw.trans h1, h2⟩
  | deferred o => exact hw.trans h
theorem ORel.lt {σ : Ren} {w : World} {cb δ e : Nat} {o : AObj} (h : ORel σ w cb δ e o) : cb < w.heap.size := by
  have L : ∀ x, w.heap[cb]? = some x → cb < w.heap.size := fun x hx => (Array.getElem?_eq_some_iff.1 hx).1
  cases o with
  | cells b => obtain ⟨cs, t, fz, h1, _⟩ := h; exact L _ h1
  | map es => obtain ⟨ces, clock, h1, _⟩ := h; exact L _ h1
  | loop l => obtain ⟨ct, cd, cf, h1, _⟩ := h; exact L _ h1
  | deferred o => exact L _ h
theorem frozen_of {w w' : World} {a : Addr} (h : w'.heap[a.block]? = w.heap[a.block]?) : w'.frozen? a = w.frozen? a := by
  unfold World.frozen?; rw [h]
/-- What may be written. -/
def AObj.rw : AObj → Bool
  | .cells b => !b.ro
  | _ => true
theorem ORel.unfrozen {σ : Ren} {w : World} {cb δ e : Nat} {o : AObj} (h : ORel σ w cb δ e o) (hrw : o.rw = true) {a : Addr} (ha : a.block = cb) : w.frozen? a = false := by
  unfold World.frozen?
  rw [ha]
  cases o with
  | cells b => obtain ⟨cs, t, fz, h1, h2, h3, h4⟩ := h; rw [h1, h4 (by simpa [AObj.rw] using hrw)]; simp
  | map es => obtain ⟨ces, clock, h1, _⟩ := h; rw [h1]
  | loop l => obtain ⟨ct, cd, cf, h1, h2⟩ := h; rw [h1]
  | deferred o => have h : w.heap[cb]? = _ := h; rw [h]
end Go.Eng
