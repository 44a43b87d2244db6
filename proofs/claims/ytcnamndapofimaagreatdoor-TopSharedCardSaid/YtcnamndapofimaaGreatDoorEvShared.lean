/- The shared case, reckoned by the kernel. -/
import Derived.Test.YtcnamndapofimaaGreatDoorHookB
import Derived.Test.YtcnamndapofimaaGreatDoorCutC
import Derived.Test.YtcnamndapofimaaGreatDoorTsA
import Derived.Test.YtcnamndapofimaaGreatDoorTsB
import Derived.KernelRfl
namespace Go.Eng.B
open Go Go.Eng Go.Eng.Lit Go.Proofs
def yes : CRes → Bool
  | .ok (.bool true) _ => true
  | _ => false
theorem yes_ok {r : CRes} (h : yes r = true) : ∃ H, r = .ok (.bool true) H := by
  unfold yes at h
  split at h
  · exact ⟨_, rfl⟩
  · cases h
noncomputable def esShared : List Ent := [e54_1024, e55_2396, e51_42]
theorem esShared_ok [Base] (G : Given Tryz.prog hook) : AllOk Tryz.prog esShared := .cons (e54_1024_ok G) ( .cons (e55_2396_ok G) ( .cons (e51_42_ok G) ( .nil)))
theorem evShared : yes (afunB (ctxOf Tryz.prog (hookT hook esShared)) (eng (ctxOf Tryz.prog (hookT hook esShared)) 1000000) 3 [] { next := 1, tr := .leaf }) = true := by kernel_rfl
end Go.Eng.B
