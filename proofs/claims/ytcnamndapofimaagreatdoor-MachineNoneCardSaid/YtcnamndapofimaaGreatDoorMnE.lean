/- Parts of the second Made: the document's store, the fourth, its comparisons. -/
import Derived.Test.YtcnamndapofimaaGreatDoorHookB
import Derived.Test.YtcnamndapofimaaGreatDoorCutC
import Derived.KernelRfl
namespace Go.Eng.B
open Go Go.Eng Go.Eng.Lit Go.Proofs
noncomputable def e270_13952 : Ent where
  f := 270
  args := [(.slice (some ⟨9006, 0, some 0⟩) 6 6), (c 8840 0 4 4), (.slice (some ⟨9237, 0, some 0⟩) 2 2)]
  N := 13952
  hin := [(8840, B 4 1 (N (i 5) (O L (N (.int .i64 (.negSucc 0)) L L)) (N (i 1) L (N (.int .i64 (.negSucc 1)) L L))) [(i 0)]),
    (9006, B 18 3 (N (s [122]) (O (O (O (O L (N (i 2) L L)) (N (b false) L L)) (N (i 1) L (N (s [114]) L L))) (N (b false) (O L (N (i 1) L L)) (N (s [112]) L (N (b true) L L)))) (N (i 0) (O (O (O L (N (b true) L L)) (N (s [100]) L L)) (N (b false) L (N (i 0) L L))) (N (s [115]) (O L (N (b true) L L)) (N (i 2) L (N (s [97, 100, 100]) L L))))) [(s []),
    (i 0),
    (b false)]),
    (9237, B 2 1 (N (i 3) L (N (.int .i64 (.negSucc 0)) L L)) [(i 0)])]
  v := (b true)
  M := 14811
  out := []
  kills := []
theorem e270_13952_holds : e270_13952.holds (ctxOf Tryz.prog (hook)) 1000000 = true := by kernel_rfl
theorem e270_13952_ok [Base] (G : Given Tryz.prog hook) : EntOk Tryz.prog e270_13952 := G.ent e270_13952_holds
noncomputable def e270_14811 : Ent where
  f := 270
  args := [(.slice (some ⟨9006, 0, some 0⟩) 6 6), (c 8840 0 4 4), (.slice (some ⟨10420, 0, some 0⟩) 1 1)]
  N := 14811
  hin := [(8840, B 4 1 (N (i 5) (O L (N (.int .i64 (.negSucc 0)) L L)) (N (i 1) L (N (.int .i64 (.negSucc 1)) L L))) [(i 0)]),
    (9006, B 18 3 (N (s [122]) (O (O (O (O L (N (i 2) L L)) (N (b false) L L)) (N (i 1) L (N (s [114]) L L))) (N (b false) (O L (N (i 1) L L)) (N (s [112]) L (N (b true) L L)))) (N (i 0) (O (O (O L (N (b true) L L)) (N (s [100]) L L)) (N (b false) L (N (i 0) L L))) (N (s [115]) (O L (N (b true) L L)) (N (i 2) L (N (s [97, 100, 100]) L L))))) [(s []),
    (i 0),
    (b false)]),
    (10420, B 1 1 (N (i 4) L L) [(i 0)])]
  v := (b true)
  M := 15660
  out := []
  kills := []
theorem e270_14811_holds : e270_14811.holds (ctxOf Tryz.prog (hook)) 1000000 = true := by kernel_rfl
theorem e270_14811_ok [Base] (G : Given Tryz.prog hook) : EntOk Tryz.prog e270_14811 := G.ent e270_14811_holds
noncomputable def e270_15660 : Ent where
  f := 270
  args := [(.slice (some ⟨9006, 0, some 0⟩) 6 6), (c 8840 0 4 4), (.slice (some ⟨12798, 0, some 0⟩) 3 3)]
  N := 15660
  hin := [(8840, B 4 1 (N (i 5) (O L (N (.int .i64 (.negSucc 0)) L L)) (N (i 1) L (N (.int .i64 (.negSucc 1)) L L))) [(i 0)]),
    (9006, B 18 3 (N (s [122]) (O (O (O (O L (N (i 2) L L)) (N (b false) L L)) (N (i 1) L (N (s [114]) L L))) (N (b false) (O L (N (i 1) L L)) (N (s [112]) L (N (b true) L L)))) (N (i 0) (O (O (O L (N (b true) L L)) (N (s [100]) L L)) (N (b false) L (N (i 0) L L))) (N (s [115]) (O L (N (b true) L L)) (N (i 2) L (N (s [97, 100, 100]) L L))))) [(s []),
    (i 0),
    (b false)]),
    (12798, B 3 1 (N (i 5) (O L (N (.int .i64 (.negSucc 0)) L L)) (N (i 0) L L)) [(i 0)])]
  v := (b true)
  M := 16532
  out := []
  kills := []
theorem e270_15660_holds : e270_15660.holds (ctxOf Tryz.prog (hook)) 1000000 = true := by kernel_rfl
theorem e270_15660_ok [Base] (G : Given Tryz.prog hook) : EntOk Tryz.prog e270_15660 := G.ent e270_15660_holds
end Go.Eng.B
