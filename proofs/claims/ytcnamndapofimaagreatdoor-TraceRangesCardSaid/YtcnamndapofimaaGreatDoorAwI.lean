/- Parts of the awakening: Replay, the second. -/
import Derived.Test.YtcnamndapofimaaGreatDoorHookB
import Derived.Test.YtcnamndapofimaaGreatDoorCutC
import Derived.KernelRfl
namespace Go.Eng.B
open Go Go.Eng Go.Eng.Lit Go.Proofs
noncomputable def e44_9168 : Ent where
  f := 44
  args := [(p 7872 0), (p 17 0), (c 9167 0 2 2)]
  N := 9168
  hin := [(11, M []),
    (12, B 2 1 L [(.slice none 0 0),
    (m 11)]),
    (13, B 2 1 (O L (N (.slice none 0 0) L L)) [(p 12 0),
    (.slice none 0 0)]),
    (17, B 3 1 (N (p 147 0) (O L (N (i 4) L L)) (N (p 164 0) L L)) [(p 12 0),
    (p 13 0),
    (i 0)]),
    (146, M [((s [122]),
    (i 0)),
    ((s [115]),
    (i 1)),
    ((s [112]),
    (i 2)),
    ((s [100]),
    (i 3)),
    ((s [114]),
    (i 4)),
    ((s [97, 100, 100]),
    (i 5))]),
    (147, B 2 1 (N (.slice (some ⟨158, 0, some 0⟩) 6 6) L L) [(.slice none 0 0),
    (m 146)]),
    (158, B 18 3 (N (s [122]) (O (O (O (O L (N (i 2) L L)) (N (b false) L L)) (N (i 1) L (N (s [114]) L L))) (N (b false) (O L (N (i 1) L L)) (N (s [112]) L (N (b true) L L)))) (N (i 0) (O (O (O L (N (b true) L L)) (N (s [100]) L L)) (N (b false) L (N (i 0) L L))) (N (s [115]) (O L (N (b true) L L)) (N (i 2) L (N (s [97, 100, 100]) L L))))) [(s []),
    (i 0),
    (b false)]),
    (164, B 2 1 (O L (N (.slice (some ⟨5100, 0, some 0⟩) 4 4) L L)) [(p 147 0),
    (.slice none 0 0)]),
    (386, B 2 1 (N (i 3) L (N (.int .i64 (.negSucc 0)) L L)) [(i 0)]),
    (388, B 3 1 (N (i 2) (O L (N (.int .i64 (.negSucc 0)) L L)) (N (.int .i64 (.negSucc 0)) L L)) [(i 0)]),
    (744, B 1 1 (N (i 4) L L) [(i 0)]),
    (746, B 1 1 (N (i 0) L L) [(i 0)]),
    (2257, B 3 1 (N (i 5) (O L (N (.int .i64 (.negSucc 0)) L L)) (N (i 0) L L)) [(i 0)]),
    (2259, B 1 1 (N (.int .i64 (.negSucc 0)) L L) [(i 0)]),
    (5097, B 4 1 (N (i 5) (O L (N (.int .i64 (.negSucc 0)) L L)) (N (i 1) L (N (.int .i64 (.negSucc 1)) L L))) [(i 0)]),
    (5099, B 4 1 (N (i 1) (O L (N (.int .i64 (.negSucc 0)) L L)) (N (i 5) L (N (.int .i64 (.negSucc 1)) L L))) [(i 0)]),
    (5100, B 8 2 (N (.slice (some ⟨386, 0, some 0⟩) 2 2) (O (O L (N (.slice (some ⟨2257, 0, some 0⟩) 3 3) L L)) (N (.slice (some ⟨744, 0, some 0⟩) 1 1) L (N (.slice (some ⟨5097, 0, some 0⟩) 4 4) L L))) (N (.slice (some ⟨388, 0, some 0⟩) 3 3) (O L (N (.slice (some ⟨2259, 0, some 0⟩) 1 1) L L)) (N (.slice (some ⟨746, 0, some 0⟩) 1 1) L (N (.slice (some ⟨5099, 0, some 0⟩) 4 4) L L)))) [(.slice none 0 0),
    (.slice none 0 0)]),
    (7871, B 4 2 (N (i 0) (O L (N (i 1) L L)) (N (c 7876 0 0 0) L (N (.slice (some ⟨7881, 0, some 0⟩) 1 1) L L))) [(i 0),
    (.slice none 0 0)]),
    (7872, B 2 1 (O L (N (i 2) L L)) [(c 7871 0 2 2),
    (i 0)]),
    (7876, B 0 1 L [(i 0)]),
    (7881, B 1 1 (N (i 0) L L) [(i 0)]),
    (9167, B 2 1 (N (i 3) L (N (i 0) L L)) [(i 0)])]
  v := (t [(.slice none 0 0), (f 133 (p 10053 0))])
  M := 10054
  out := [(10052, B 3 1 L [(i 182),
    (i 1), ni]),
    (10053, B 3 1 L [(i 170),
    (i 1),
    (f 133 (p 10052 0))])]
  kills := []
theorem e44_9168_holds : e44_9168.holds (ctxOf Tryz.prog (hook)) 1000000 = true := by kernel_rfl
theorem e44_9168_ok [Base] (G : Given Tryz.prog hook) : EntOk Tryz.prog e44_9168 := G.ent e44_9168_holds
end Go.Eng.B
