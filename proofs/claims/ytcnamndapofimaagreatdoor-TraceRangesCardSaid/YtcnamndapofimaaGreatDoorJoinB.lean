/- What the closings of the seat's laws have in common. -/
import Derived.Test.YtcnamndapofimaaGreatDoorCards
import Derived.Test.YtcnamndapofimaaGreatDoorTie
import Derived.WalkKit
import Derived.ProofKit
import Derived.OpenShut
import Derived.Deep.DeepHandedRow
import Derived.Lib.LaidTab
import Derived.LaidHandle
import Derived.LaidLaws
import Derived.Test.YtcnamndapofimaaGreatDoorHookB
import Derived.Test.YtcnamndapofimaaGreatDoorCutC
namespace Go.Proofs.YtcnamndapofimaaGreatDoor
open Go Go.ChangeShapes Go.WideShapes Go.ChangeAt Go.RowKit

theorem own : ownKnob Tryz.prog.godebug = none := by kernel_rfl
theorem et : Tryz.prog.globalNamed "errors.errorType" = some 0 := by kernel_rfl
theorem rt : (Tryz.prog.cutTypes.find? (·.1 == "internal/reflectlite.rtype")).map (·.2) = some 290 := by kernel_rfl
theorem oneRow : ((List.range 546).filter fun t => Tryz.prog.rowNamed t [101, 114, 114, 111, 114]) = [30] := by kernel_rfl
theorem size : Tryz.prog.types.size = 546 := by kernel_rfl
theorem grown_of {w w' : World} (h : w.heap.size ≤ w'.heap.size ∧ (∀ cb, cb < w.heap.size → w'.heap[cb]? = w.heap[cb]?) ∧ (w'.os = w.os ∧ w'.output = w.output ∧ w'.tape = w.tape) ∧ ∀ a, w'.frozen? a = w.frozen? a) : Grown w w' := by
  obtain ⟨h1, h2, ⟨h3, h4, _⟩, h5⟩ := h
  refine ⟨⟨h3, h4, fun i hi => ?_⟩, h5, h1⟩
  rw [h2 i hi]
  cases w.heap[i]? with
  | none => rfl
  | some o =>
    cases o with
    | cells c t fr => exact ⟨rfl, rfl, rfl, fun _ _ => rfl⟩
    | map es c => exact .inr ⟨rfl, rfl⟩
    | _ => rfl
theorem noName : (Tryz.prog.funcs.toList.all fun fn => !(fn.name == "runtime.NumGoroutine")) = true := by kernel_rfl
theorem namesOk : ∀ h, Eng.NamesOk Tryz.prog (Eng.ctxOf Tryz.prog h) := fun _ => ⟨fun f fn hf _ => by
  have hf : Tryz.prog.funcs[f]? = some fn := hf
  have h := List.all_eq_true.1 noName fn (by
    have := Array.mem_of_getElem? hf
    simpa using this)
  simpa using h⟩
theorem follows : Tryz.prog.follows .mixedOrders = true := by kernel_rfl
theorem laidOut : laidOutB Tryz.prog = true := by kernel_rfl
theorem rowed : mapsRowed Tryz.prog = true := by kernel_rfl
theorem keys : Tryz.prog.plainKeys = true := by kernel_rfl
theorem heard : Tryz.prog.stopsHeard = true := by kernel_rfl
theorem enter : Tryz.prog.mayEnter = true := by kernel_rfl
theorem lifts : Tryz.prog.liftsFinal = false := by kernel_rfl
theorem and_t {a b : Bool} (h : a = true) (k : b = true) : (a && b) = true := by rw [h, k]; rfl
theorem and_e {a b : Bool} (h : (a && b) = true) : a = true ∧ b = true := by rw [Bool.and_eq_true] at h; exact h
theorem joined_of {P : Program} {f : FuncId} {fn : Func} {s : ChangeSpec} {c : OpenClaim} (a1 : c.wf (OpenSpec.ofChange s) = true) (a2 : laidOutB P = true) (a3 : mapsRowed P = true)
    (a4 : (fn.params.all (P.readableRec ·) && namedTie P c.named s.vars && (c.stops == []) && (P.stops == []) && (c.knobs == []) && (P.stopKnobs == [])) = true)
    (a5 : (c.inPlace == P.inPlace f) = true) (a6 : (c.unfollowed == P.unfollowed f) = true) (a7 : (c.recurses == P.recurses f) = true) (a8 : (c.named == P.varsNamed f) = true)
    (a9 : ((c.maps == (fn.params.toList ++ s.plain.varTypes P).any (P.mapsRec ·)) && (c.ifaces == (fn.params.toList ++ s.plain.varTypes P).any (P.ifacesRec ·)) && (c.mapsOut == P.mapsAmong fn.resultTypes.toList)) = true)
    (a10 : ((c.loops == (fn.params.toList ++ s.plain.varTypes P).any (P.loopsFrom ·)) && (c.wideKeys == (fn.params.toList ++ s.plain.varTypes P ++ fn.resultTypes.toList).any (P.wideKeysFrom ·))) = true)
    (a11 : (s.vars.all (P.varReadable ·) && fn.resultTypes.all (fun t => P.readableRec t && decide (t < P.types.size)) && (c.ifacesOut == fn.resultTypes.toList.any (P.ifacesRec ·)) && (c.loopsOut == fn.resultTypes.toList.any (P.loopsFrom ·))) = true)
    {pk lf : Bool} (a12 : P.plainKeys = pk) (a12' : c.plainKeys = pk) (a13 : P.stopsHeard = true) (a14 : P.mayEnter = true) (a15 : P.liftsFinal = lf) (a15' : c.lifted = lf)
    (a16 : (c.shortTexts.isNone && (P.make == some c.make) && (c.kinds == (if c.domain.isEmpty then [] else fn.params.toList.map fun t => match P.underlying t with | some (.int k) => some k | _ => none)) && (c.pinned == c.pinnedBy)) = true)
    (a17 : ((c.veiled == (fn.params.toList ++ s.plain.varTypes P ++ fn.resultTypes.toList).any (P.veiledRec ·)) && c.veiledFits P fn.params.toList (fn.params.toList ++ s.plain.varTypes P ++ fn.resultTypes.toList)) = true) :
    joinedFacts P f fn s c = true := by
  have b12 : (c.plainKeys == P.plainKeys) = true := by rw [a12, a12']; exact beq_self_eq_true _
  have b15 : (c.lifted == P.liftsFinal) = true := by rw [a15, a15']; exact beq_self_eq_true _
  obtain ⟨a4, a46⟩ := and_e a4
  obtain ⟨a4, a45⟩ := and_e a4
  obtain ⟨a4, a44⟩ := and_e a4
  obtain ⟨a4, a43⟩ := and_e a4
  obtain ⟨a41, a42⟩ := and_e a4
  obtain ⟨a9, a93⟩ := and_e a9
  obtain ⟨a91, a92⟩ := and_e a9
  obtain ⟨a101, a102⟩ := and_e a10
  obtain ⟨a11, a114⟩ := and_e a11
  obtain ⟨a11, a113⟩ := and_e a11
  obtain ⟨a111, a112⟩ := and_e a11
  obtain ⟨a16, a164⟩ := and_e a16
  obtain ⟨a16, a163⟩ := and_e a16
  obtain ⟨a161, a162⟩ := and_e a16
  obtain ⟨a171, a172⟩ := and_e a17
  unfold joinedFacts
  exact and_t (and_t (and_t (and_t (and_t (and_t (and_t (and_t (and_t (and_t (and_t (and_t (and_t (and_t (and_t (and_t (and_t (and_t (and_t (and_t (and_t (and_t (and_t (and_t (and_t (and_t (and_t (and_t (and_t (and_t (and_t (a1) a2) a3) a41) a42) a43) a44) a45) a46) a5) a6) a7) a8) a91) a92) a93) a101) a102) a111) a112) a113) a114) b12) a161) a13) a14) b15) a162) a163) a164) a171) a172
end Go.Proofs.YtcnamndapofimaaGreatDoor
