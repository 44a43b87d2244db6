/- What contracts of single functions need. -/
import Derived.Test.YtcnamndapofimaaGreatDoorEngW
import Derived.WalkKit
namespace Go.Eng
open Go
section
variable {P : Program} {σ : Ren} {H H' : AH} {w : World}
theorem Leads.untracked [Base] (hH : HRel σ H w) (cs : Array Value) (t : TypeId) : Leads σ H w σ H (w.alloc (.cells cs t)) where
  rel := {
    obj := fun b cb δ e h => by obtain ⟨o, h1, h2⟩ := hH.obj b cb δ e h; exact ⟨o, h1, h2.world (heap_alloc_lt w _ h2.lt)⟩
    inj := hH.inj
    dead := hH.dead
    nil := hH.nil
    fresh := hH.fresh
    base := fun k hk => ⟨(heap_alloc_lt w _ (hH.base_lt hk)).trans (hH.base k hk).1, (hH.base k hk).2⟩ }
  ext := Ext.refl σ
  next := Nat.le_refl _
  stay _ _ h := ⟨h, rfl⟩
  size := by simp
  frame cb hc hn := ⟨heap_alloc_lt w _ hc, hn⟩
  os := ⟨rfl, rfl, rfl⟩
  froz a := Go.RowKit.frozen?_alloc_cells _ _ _ a
theorem VRel.nilIface_inv {c : Value} (h : VRel σ .nilIface c) : c = .nilIface := by cases h; rfl
theorem VRelL.two {a b : Value} {l : List Value} (h : VRelL σ [a, b] l) : ∃ x y, l = [x, y] ∧ VRel σ a x ∧ VRel σ b y := by
  cases h with
  | cons h1 h2 =>
    cases h2 with
    | cons h2 h3 => cases h3; exact ⟨_, _, rfl, h1, h2⟩
/-- A cell of the world at the start is what it was. -/
theorem HRel.start_cell [Base] (hH : HRel σ H w) {a : Addr} {v : Value} (h : Base.W0.cell? a = some v) : w.cell? a = some v := by
  have hlt : a.block < Base.W0.heap.size := by
    rcases Nat.lt_or_ge a.block Base.W0.heap.size with h1 | h1
    · exact h1
    · simp [World.cell?, Array.getElem?_eq_none h1] at h
  unfold World.cell? at h ⊢
  rw [(hH.base _ hlt).1]
  exact h
/-- A variable of the engine's: its cell. -/
theorem target_ok [Base] (hH : HRel σ H w) {b o : Nat} {a : Addr} {k : Blk} (hp : VRel σ (.pointer (some ⟨b, o, none⟩)) (.pointer (some a))) (hk : H.get b = some (.cells k)) (hro : k.ro = false) (ho : o < k.n) :
    ∃ old, w.cell? a = some old ∧ w.frozen? a = false := by
  rcases hp.ptr_inv with ⟨cb, δ, e, hs, hc⟩ | ⟨ca, hs, hc⟩
  · cases hc
    obtain ⟨cs, t, fz, q1, q2, q3, q4⟩ := hH.cells hk hs
    rw [q4 hro] at q1
    refine ⟨cs[o + δ]'(by omega), ?_, ?_⟩
    · simp [World.cell?, q1, show o + δ < cs.size by omega]
    · simp [World.frozen?, q1]
  · exact absurd hs (hH.alive hk)
theorem run_store1 {a : Addr} {v old : Value} (h1 : w.cell? a = some old) (h2 : w.frozen? a = false) (hv : v.oneCell' = true) : (storeCells a [v]).run P w = .ok () (w.setCell a v) := by
  simp [storeCells, Addr.add]
  rw [run_store P w a _ _ hv]
  simp [h1, h2]
/-- A value of one cell is put into a variable of the engine's. -/
theorem put_ok [Base] (hH : HRel σ H w) {b o : Nat} {a : Addr} {v cv : Value} (hp : VRel σ (.pointer (some ⟨b, o, none⟩)) (.pointer (some a))) (hv : VRel σ v cv) (h : astoreAt H b o [v] = some H') (hone : cv.oneCell' = true) :
    (∃ old, w.cell? a = some old ∧ w.frozen? a = false) ∧ Leads σ H w σ H' (w.setCell a cv) := by
  have ht : ∃ old, w.cell? a = some old ∧ w.frozen? a = false := by
    unfold astoreAt at h
    split at h
    · rename_i k hk
      have hh := cond_some h; clear h; obtain ⟨hb, h⟩ := hh
      simp only [Bool.and_eq_true, Nat.ble_eq, List.length_cons, List.length_nil, Bool.not_eq_true'] at hb
      exact target_ok hH hp hk hb.2 (by omega)
    · cases h
  refine ⟨ht, ?_⟩
  obtain ⟨old, h1, h2⟩ := ht
  obtain ⟨w', r1, r2⟩ := astoreAt_ok (P := default) hH hp (.cons hv .nil) h
  rw [run_store1 h1 h2 hone] at r1
  cases r1
  exact r2
end
end Go.Eng
