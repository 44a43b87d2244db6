/- Machines that are not there, reckoned by the kernel. -/
import Derived.Test.YtcnamndapofimaaGreatDoorHookB
import Derived.Test.YtcnamndapofimaaGreatDoorCutC
import Derived.Test.YtcnamndapofimaaGreatDoorMnG
import Derived.Test.YtcnamndapofimaaGreatDoorMnH
import Derived.KernelRfl
namespace Go.Eng.B
open Go Go.Eng Go.Eng.Lit Go.Proofs
def yes : CRes → Bool
  | .ok (.bool true) _ => true
  | _ => false
theorem yes_ok {r : CRes} (h : yes r = true) : ∃ H, r = .ok (.bool true) H := by
  unfold yes at h
  split at h
  · exact ⟨_, rfl⟩
  · cases h
noncomputable def esMNone : List Ent := [e12_1, e73_8843]
theorem esMNone_ok [Base] (G : Given Tryz.prog hook) : AllOk Tryz.prog esMNone := .cons (e12_1_ok G) ( .cons (e73_8843_ok G) ( .nil))
theorem evMNone : yes (afunB (ctxOf Tryz.prog (hookT hook esMNone)) (eng (ctxOf Tryz.prog (hookT hook esMNone)) 1000000) 4 [] { next := 1, tr := .leaf }) = true := by kernel_rfl
end Go.Eng.B
