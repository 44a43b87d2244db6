/- Parts of the shared case: Reduce. -/
import Derived.Test.YtcnamndapofimaaGreatDoorHookB
import Derived.Test.YtcnamndapofimaaGreatDoorCutC
import Derived.KernelRfl
namespace Go.Eng.B
open Go Go.Eng Go.Eng.Lit Go.Proofs
noncomputable def e54_1024 : Ent where
  f := 54
  args := [(p 7 0), (c 1023 0 2 2), (i 100)]
  N := 1024
  hin := [(1, M []),
    (2, B 2 1 L [(.slice none 0 0),
    (m 1)]),
    (3, B 2 1 (O L (N (.slice none 0 0) L L)) [(p 2 0),
    (.slice none 0 0)]),
    (7, B 3 1 (N (p 10 0) (O L (N (i 1) L L)) (N (p 32 0) L L)) [(p 2 0),
    (p 3 0),
    (i 0)]),
    (9, M [((s [118]),
    (i 0)),
    ((s [112]),
    (i 1)),
    ((s [100]),
    (i 2)),
    ((s [114]),
    (i 3))]),
    (10, B 2 1 (N (.slice (some ⟨26, 0, some 0⟩) 4 4) L L) [(.slice none 0 0),
    (m 9)]),
    (26, B 12 3 (N (s [118]) (O (O (O L (N (b true) L L)) (N (i 2) L L)) (N (b false) (O L (N (i 0) L L)) (N (s [100]) L L))) (N (i 0) (O (O L (N (s [114]) L L)) (N (b false) L L)) (N (s [112]) (O L (N (b true) L L)) (N (i 1) L L)))) [(s []),
    (i 0),
    (b false)]),
    (32, B 2 1 (O L (N (.slice (some ⟨389, 0, some 0⟩) 2 2) L L)) [(p 10 0),
    (.slice none 0 0)]),
    (379, B 2 1 (N (i 2) L (N (.int .i64 (.negSucc 0)) L L)) [(i 0)]),
    (381, B 3 1 (N (i 1) (O L (N (.int .i64 (.negSucc 0)) L L)) (N (.int .i64 (.negSucc 0)) L L)) [(i 0)]),
    (386, B 1 1 (N (i 3) L L) [(i 0)]),
    (388, B 1 1 (N (i 0) L L) [(i 0)]),
    (389, B 4 2 (N (.slice (some ⟨379, 0, some 0⟩) 2 2) (O L (N (.slice (some ⟨386, 0, some 0⟩) 1 1) L L)) (N (.slice (some ⟨381, 0, some 0⟩) 3 3) L (N (.slice (some ⟨388, 0, some 0⟩) 1 1) L L))) [(.slice none 0 0),
    (.slice none 0 0)]),
    (1023, B 2 1 (N (i 2) L (N (i 3) L L)) [(i 0)])]
  v := (t [(c 2114 0 3 3), (i 3), (b true), ni])
  M := 2393
  out := [(2114, B 3 1 (N (i 1) (O L (N (i 0) L L)) (N (i 0) L L)) [(i 0)])]
  kills := []
theorem e54_1024_holds : e54_1024.holds (ctxOf Tryz.prog (hook)) 1000000 = true := by kernel_rfl
theorem e54_1024_ok [Base] (G : Given Tryz.prog hook) : EntOk Tryz.prog e54_1024 := G.ent e54_1024_holds
end Go.Eng.B
