/- The engine whole: what it says a function answers, the function answers. -/
import Derived.Test.YtcnamndapofimaaGreatDoorEngV
namespace Go.Eng
open Go
section
variable {P : Program} {C : Ctx}
theorem eng_ok [Base] (hC : CtxOk C P) (hN : NamesOk P C) (hK : HookOk P C) (hfol : P.follows .mixedOrders = true) : ∀ n, CodeOk P C (eng C n)
  | 0 => fun c fr H e fr' H' h => by cases h
  | n + 1 => engStep_ok hC hN hK (drawOk_ok hC hfol (callOk hC hN hK (eng_ok hC hN hK hfol n)) (roundOk (eng_ok hC hN hK hfol n))) (eng_ok hC hN hK hfol n)
def startR : Ren := fun b => match b with
  | 0 => .dead
  | _ => .unborn
theorem startR_to {b cb δ e : Nat} : startR b ≠ .to cb δ e := by cases b <;> exact fun h => by cases h
theorem HRel.start [Base] (w : World) (hw : w = Base.W0) (n : Nat) : HRel startR { next := Nat.succ n, tr := .leaf } w where
  obj b cb δ e h := absurd h startR_to
  inj b b' cb δ e δ' e' h := absurd h startR_to
  dead b h := rfl
  nil := rfl
  fresh b h := by
    cases b with
    | zero => exact absurd h (Nat.not_succ_le_zero _)
    | succ b => rfl
  base k hk := ⟨by rw [hw], fun b δ e h => absurd h startR_to⟩
theorem Leads.start [Base] {w w' : World} {n : Nat} {σ' : Ren} {H' : AH} (h : Leads startR { next := Nat.succ n, tr := .leaf } w σ' H' w') :
    w.heap.size ≤ w'.heap.size ∧ (∀ cb, cb < w.heap.size → w'.heap[cb]? = w.heap[cb]?) ∧ (w'.os = w.os ∧ w'.output = w.output ∧ w'.tape = w.tape) ∧ ∀ a, w'.frozen? a = w.frozen? a :=
  ⟨h.size, fun cb hc => (h.frame cb hc (fun b δ e h => absurd h startR_to)).1, h.os, h.froz⟩
theorem eng_calls [Base] (hC : CtxOk C P) (hN : NamesOk P C) (hK : HookOk P C) (hfol : P.follows .mixedOrders = true) {n m : Nat} {f : FuncId} {args : List Value} {b : Bool} {H' : AH} (h : afunB C (eng C n) f args { next := Nat.succ m, tr := .leaf } = .ok (.bool b) H')
    (ha : ∀ σ, VRelL σ args args) (w : World) (hw : w = Base.W0) :
    Calls P f ⟨args⟩ w fun e w' => e = .returned (.bool b) ∧ w.heap.size ≤ w'.heap.size ∧ (∀ cb, cb < w.heap.size → w'.heap[cb]? = w.heap[cb]?) ∧ (w'.os = w.os ∧ w'.output = w.output ∧ w'.tape = w.tape) ∧ ∀ a, w'.frozen? a = w.frozen? a :=
  (afunB_ok hC hN (eng_ok hC hN hK hfol n) h (HRel.start w hw m) (ha _)).2.mono fun e w' ⟨cv, σ', e1, e2, e3⟩ => ⟨by rw [e1, e2.bool_inv], Leads.start e3⟩
end
end Go.Eng
