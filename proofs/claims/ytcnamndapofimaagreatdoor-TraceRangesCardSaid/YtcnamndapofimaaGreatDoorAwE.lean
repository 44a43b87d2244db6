/- Parts of the awakening: the document's store, the fourth, its comparisons. -/
import Derived.Test.YtcnamndapofimaaGreatDoorHookB
import Derived.Test.YtcnamndapofimaaGreatDoorCutC
import Derived.KernelRfl
namespace Go.Eng.B
open Go Go.Eng Go.Eng.Lit Go.Proofs
noncomputable def e270_5120 : Ent where
  f := 270
  args := [(.slice (some ⟨174, 0, some 0⟩) 6 6), (c 8 0 4 4), (.slice (some ⟨405, 0, some 0⟩) 2 2)]
  N := 5120
  hin := [(8, B 4 1 (N (i 5) (O L (N (.int .i64 (.negSucc 0)) L L)) (N (i 1) L (N (.int .i64 (.negSucc 1)) L L))) [(i 0)]),
    (174, B 18 3 (N (s [122]) (O (O (O (O L (N (i 2) L L)) (N (b false) L L)) (N (i 1) L (N (s [114]) L L))) (N (b false) (O L (N (i 1) L L)) (N (s [112]) L (N (b true) L L)))) (N (i 0) (O (O (O L (N (b true) L L)) (N (s [100]) L L)) (N (b false) L (N (i 0) L L))) (N (s [115]) (O L (N (b true) L L)) (N (i 2) L (N (s [97, 100, 100]) L L))))) [(s []),
    (i 0),
    (b false)]),
    (405, B 2 1 (N (i 3) L (N (.int .i64 (.negSucc 0)) L L)) [(i 0)])]
  v := (b true)
  M := 5979
  out := []
  kills := []
theorem e270_5120_holds : e270_5120.holds (ctxOf Tryz.prog (hook)) 1000000 = true := by kernel_rfl
theorem e270_5120_ok [Base] (G : Given Tryz.prog hook) : EntOk Tryz.prog e270_5120 := G.ent e270_5120_holds
noncomputable def e270_5979 : Ent where
  f := 270
  args := [(.slice (some ⟨174, 0, some 0⟩) 6 6), (c 8 0 4 4), (.slice (some ⟨1588, 0, some 0⟩) 1 1)]
  N := 5979
  hin := [(8, B 4 1 (N (i 5) (O L (N (.int .i64 (.negSucc 0)) L L)) (N (i 1) L (N (.int .i64 (.negSucc 1)) L L))) [(i 0)]),
    (174, B 18 3 (N (s [122]) (O (O (O (O L (N (i 2) L L)) (N (b false) L L)) (N (i 1) L (N (s [114]) L L))) (N (b false) (O L (N (i 1) L L)) (N (s [112]) L (N (b true) L L)))) (N (i 0) (O (O (O L (N (b true) L L)) (N (s [100]) L L)) (N (b false) L (N (i 0) L L))) (N (s [115]) (O L (N (b true) L L)) (N (i 2) L (N (s [97, 100, 100]) L L))))) [(s []),
    (i 0),
    (b false)]),
    (1588, B 1 1 (N (i 4) L L) [(i 0)])]
  v := (b true)
  M := 6828
  out := []
  kills := []
theorem e270_5979_holds : e270_5979.holds (ctxOf Tryz.prog (hook)) 1000000 = true := by kernel_rfl
theorem e270_5979_ok [Base] (G : Given Tryz.prog hook) : EntOk Tryz.prog e270_5979 := G.ent e270_5979_holds
noncomputable def e270_6828 : Ent where
  f := 270
  args := [(.slice (some ⟨174, 0, some 0⟩) 6 6), (c 8 0 4 4), (.slice (some ⟨3966, 0, some 0⟩) 3 3)]
  N := 6828
  hin := [(8, B 4 1 (N (i 5) (O L (N (.int .i64 (.negSucc 0)) L L)) (N (i 1) L (N (.int .i64 (.negSucc 1)) L L))) [(i 0)]),
    (174, B 18 3 (N (s [122]) (O (O (O (O L (N (i 2) L L)) (N (b false) L L)) (N (i 1) L (N (s [114]) L L))) (N (b false) (O L (N (i 1) L L)) (N (s [112]) L (N (b true) L L)))) (N (i 0) (O (O (O L (N (b true) L L)) (N (s [100]) L L)) (N (b false) L (N (i 0) L L))) (N (s [115]) (O L (N (b true) L L)) (N (i 2) L (N (s [97, 100, 100]) L L))))) [(s []),
    (i 0),
    (b false)]),
    (3966, B 3 1 (N (i 5) (O L (N (.int .i64 (.negSucc 0)) L L)) (N (i 0) L L)) [(i 0)])]
  v := (b true)
  M := 7700
  out := []
  kills := []
theorem e270_6828_holds : e270_6828.holds (ctxOf Tryz.prog (hook)) 1000000 = true := by kernel_rfl
theorem e270_6828_ok [Base] (G : Given Tryz.prog hook) : EntOk Tryz.prog e270_6828 := G.ent e270_6828_holds
end Go.Eng.B
