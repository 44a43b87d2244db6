/- The awakening of layer 15: it answers true and leaves nothing behind. -/
import Derived.Test.YtcnamndapofimaaGreatDoorAwG
import Derived.KernelRfl
namespace Go.Eng.B
open Go Go.Eng Go.Eng.Lit Go.Proofs
noncomputable def e12_1 : Ent where
  f := 12
  args := []
  N := 1
  hin := []
  v := b true
  M := 8821
  out := []
theorem e12_1_holds : e12_1.holds (ctxOf Tryz.prog (hookT hook [e73_11])) 1000000 = true := by kernel_rfl
theorem e12_1_ok [Base] (G : Given Tryz.prog hook) : EntOk Tryz.prog e12_1 := G.entT (.cons (e73_11_ok G) .nil) e12_1_holds
end Go.Eng.B
