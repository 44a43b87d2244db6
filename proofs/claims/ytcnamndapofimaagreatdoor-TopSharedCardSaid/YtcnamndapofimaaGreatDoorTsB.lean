/- Parts of the shared case: rules; Check. -/
import Derived.Test.YtcnamndapofimaaGreatDoorHookB
import Derived.Test.YtcnamndapofimaaGreatDoorCutC
import Derived.KernelRfl
namespace Go.Eng.B
open Go Go.Eng Go.Eng.Lit Go.Proofs
noncomputable def e51_42 : Ent where
  f := 51
  args := [(p 7 0), (c 41 0 2 2)]
  N := 42
  hin := [(1, M []),
    (2, B 2 1 L [(.slice none 0 0),
    (m 1)]),
    (3, B 2 1 (O L (N (.slice none 0 0) L L)) [(p 2 0),
    (.slice none 0 0)]),
    (7, B 3 1 (N (p 10 0) (O L (N (i 0) L L)) (N (p 32 0) L L)) [(p 2 0),
    (p 3 0),
    (i 0)]),
    (9, M [((s [118]),
    (i 0)),
    ((s [112]),
    (i 1)),
    ((s [100]),
    (i 2)),
    ((s [114]),
    (i 3))]),
    (10, B 2 1 (N (.slice (some ⟨26, 0, some 0⟩) 4 4) L L) [(.slice none 0 0),
    (m 9)]),
    (26, B 12 3 (N (s [118]) (O (O (O L (N (b true) L L)) (N (i 2) L L)) (N (b false) (O L (N (i 0) L L)) (N (s [100]) L L))) (N (i 0) (O (O L (N (s [114]) L L)) (N (b false) L L)) (N (s [112]) (O L (N (b true) L L)) (N (i 1) L L)))) [(s []),
    (i 0),
    (b false)]),
    (32, B 2 1 (O L (N (.slice none 0 0) L L)) [(p 10 0),
    (.slice none 0 0)]),
    (37, B 2 1 (N (i 2) L (N (.int .i64 (.negSucc 0)) L L)) [(i 0)]),
    (38, B 3 1 (N (i 1) (O L (N (.int .i64 (.negSucc 0)) L L)) (N (.int .i64 (.negSucc 0)) L L)) [(i 0)]),
    (39, B 1 1 (N (i 3) L L) [(i 0)]),
    (40, B 1 1 (N (i 0) L L) [(i 0)]),
    (41, B 4 2 (N (c 37 0 2 2) (O L (N (c 39 0 1 1) L L)) (N (c 38 0 3 3) L (N (c 40 0 1 1) L L))) [(.slice none 0 0),
    (.slice none 0 0)])]
  v := ni
  M := 390
  out := [(7, B 3 1 (N (p 10 0) (O L (N (i 1) L L)) (N (p 32 0) L L)) [(p 2 0),
    (p 3 0),
    (i 0)]),
    (32, B 2 1 (O L (N (.slice (some ⟨389, 0, some 0⟩) 2 2) L L)) [(p 10 0),
    (.slice none 0 0)]),
    (379, B 2 1 (N (i 2) L (N (.int .i64 (.negSucc 0)) L L)) [(i 0)]),
    (381, B 3 1 (N (i 1) (O L (N (.int .i64 (.negSucc 0)) L L)) (N (.int .i64 (.negSucc 0)) L L)) [(i 0)]),
    (386, B 1 1 (N (i 3) L L) [(i 0)]),
    (388, B 1 1 (N (i 0) L L) [(i 0)]),
    (389, B 4 2 (N (.slice (some ⟨379, 0, some 0⟩) 2 2) (O L (N (.slice (some ⟨386, 0, some 0⟩) 1 1) L L)) (N (.slice (some ⟨381, 0, some 0⟩) 3 3) L (N (.slice (some ⟨388, 0, some 0⟩) 1 1) L L))) [(.slice none 0 0),
    (.slice none 0 0)])]
  kills := []
theorem e51_42_holds : e51_42.holds (ctxOf Tryz.prog (hook)) 1000000 = true := by kernel_rfl
theorem e51_42_ok [Base] (G : Given Tryz.prog hook) : EntOk Tryz.prog e51_42 := G.ent e51_42_holds
noncomputable def e55_2396 : Ent where
  f := 55
  args := [(p 7 0), (c 2393 0 2 2), (c 2395 0 2 2)]
  N := 2396
  hin := [(1, M []),
    (2, B 2 1 L [(.slice none 0 0),
    (m 1)]),
    (3, B 2 1 (O L (N (.slice none 0 0) L L)) [(p 2 0),
    (.slice none 0 0)]),
    (7, B 3 1 (N (p 10 0) (O L (N (i 1) L L)) (N (p 32 0) L L)) [(p 2 0),
    (p 3 0),
    (i 0)]),
    (9, M [((s [118]),
    (i 0)),
    ((s [112]),
    (i 1)),
    ((s [100]),
    (i 2)),
    ((s [114]),
    (i 3))]),
    (10, B 2 1 (N (.slice (some ⟨26, 0, some 0⟩) 4 4) L L) [(.slice none 0 0),
    (m 9)]),
    (26, B 12 3 (N (s [118]) (O (O (O L (N (b true) L L)) (N (i 2) L L)) (N (b false) (O L (N (i 0) L L)) (N (s [100]) L L))) (N (i 0) (O (O L (N (s [114]) L L)) (N (b false) L L)) (N (s [112]) (O L (N (b true) L L)) (N (i 1) L L)))) [(s []),
    (i 0),
    (b false)]),
    (32, B 2 1 (O L (N (.slice (some ⟨389, 0, some 0⟩) 2 2) L L)) [(p 10 0),
    (.slice none 0 0)]),
    (379, B 2 1 (N (i 2) L (N (.int .i64 (.negSucc 0)) L L)) [(i 0)]),
    (381, B 3 1 (N (i 1) (O L (N (.int .i64 (.negSucc 0)) L L)) (N (.int .i64 (.negSucc 0)) L L)) [(i 0)]),
    (386, B 1 1 (N (i 3) L L) [(i 0)]),
    (388, B 1 1 (N (i 0) L L) [(i 0)]),
    (389, B 4 2 (N (.slice (some ⟨379, 0, some 0⟩) 2 2) (O L (N (.slice (some ⟨386, 0, some 0⟩) 1 1) L L)) (N (.slice (some ⟨381, 0, some 0⟩) 3 3) L (N (.slice (some ⟨388, 0, some 0⟩) 1 1) L L))) [(.slice none 0 0),
    (.slice none 0 0)]),
    (2393, B 2 1 (N (i 2) L (N (i 3) L L)) [(i 0)]),
    (2394, B 1 1 (N (i 0) L L) [(i 0)]),
    (2395, B 4 2 (N (c 2394 0 1 1) (O L (N (.slice none 0 0) L L)) (N (i 1) L (N (i 0) L L))) [(.slice none 0 0),
    (i 0)])]
  v := (t [(a [(c 2877 0 3 3), (i 2), (b true)]), ni])
  M := 2988
  out := [(2877, B 3 1 (N (i 1) (O L (N (i 0) L L)) (N (i 0) L L)) [(i 0)])]
  kills := []
theorem e55_2396_holds : e55_2396.holds (ctxOf Tryz.prog (hook)) 1000000 = true := by kernel_rfl
theorem e55_2396_ok [Base] (G : Given Tryz.prog hook) : EntOk Tryz.prog e55_2396 := G.ent e55_2396_holds
end Go.Eng.B
