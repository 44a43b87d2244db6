/- SystemNil, reckoned by the kernel: what is not known of the arguments is not looked at. -/
import Derived.Test.YtmldepgkclpbeaaGreatDoorHookZ
import Derived.KernelRfl
namespace Go.Eng.Z.Nil
open Go Go.Eng.Z Go.Proofs Go.Eng
def yes : CRes → Bool
  | .ok (.bool true) _ => true
  | _ => false
theorem yes_ok {r : CRes} (h : yes r = true) : ∃ H, r = .ok (.bool true) H := by
  unfold yes at h
  split at h
  · exact ⟨_, rfl⟩
  · cases h
theorem names : yes (afunB C (eng C 1000000) 8 [junk, junk, junk] { next := 0, tr := .leaf }) = true := by kernel_rfl
end Go.Eng.Z.Nil
