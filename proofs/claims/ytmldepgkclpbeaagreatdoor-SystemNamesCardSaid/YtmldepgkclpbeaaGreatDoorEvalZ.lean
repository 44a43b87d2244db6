/- SystemNames, reckoned by the kernel. -/
import Derived.Test.YtmldepgkclpbeaaGreatDoorHookZ
import Derived.KernelRfl
namespace Go.Eng.Z
open Go Go.Proofs Go.Eng
def yes : CRes → Bool
  | .ok (.bool true) _ => true
  | _ => false
theorem yes_ok {r : CRes} (h : yes r = true) : ∃ H, r = .ok (.bool true) H := by
  unfold yes at h
  split at h
  · exact ⟨_, rfl⟩
  · cases h
theorem names : yes (afunB C (eng C 1000000) 5 [] { next := 0, tr := .leaf }) = true := by kernel_rfl
end Go.Eng.Z
