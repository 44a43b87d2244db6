/- The awakening of layer 17, whole: it answers true and leaves nothing behind. -/
import Derived.Test.YtcnamndapofimaaGreatDoorAwG
import Derived.Test.YtcnamndapofimaaGreatDoorAwH
import Derived.Test.YtcnamndapofimaaGreatDoorAwI
import Derived.KernelRfl
namespace Go.Eng.B
open Go Go.Eng Go.Eng.Lit Go.Proofs
noncomputable def eAwake : Ent where
  f := 30
  args := []
  N := 1
  hin := []
  v := b true
  M := 10056
  out := []
theorem eAwake_holds : eAwake.holds (ctxOf Tryz.prog (hookT hook [e73_11, e44_7883, e44_9168])) 1000000 = true := by kernel_rfl
theorem eAwake_ok [Base] (G : Given Tryz.prog hook) : EntOk Tryz.prog eAwake := G.entT (.cons (e73_11_ok G) (.cons (e44_7883_ok G) (.cons (e44_9168_ok G) .nil))) eAwake_holds
end Go.Eng.B
