/- Parts of the awakening: symbols and rules, the first. -/
import Derived.Test.YtcnamndapofimaaGreatDoorHookB
import Derived.Test.YtcnamndapofimaaGreatDoorCutC
import Derived.KernelRfl
namespace Go.Eng.B
open Go Go.Eng Go.Eng.Lit Go.Proofs
noncomputable def e51_435 : Ent where
  f := 51
  args := [(p 17 0), (c 10 2 1 3)]
  N := 435
  hin := [(2, B 2 1 (N (i 3) L (N (.int .i64 (.negSucc 0)) L L)) [(i 0)]),
    (3, B 3 1 (N (i 2) (O L (N (.int .i64 (.negSucc 0)) L L)) (N (.int .i64 (.negSucc 0)) L L)) [(i 0)]),
    (4, B 1 1 (N (i 4) L L) [(i 0)]),
    (5, B 1 1 (N (i 0) L L) [(i 0)]),
    (6, B 3 1 (N (i 5) (O L (N (.int .i64 (.negSucc 0)) L L)) (N (i 0) L L)) [(i 0)]),
    (7, B 1 1 (N (.int .i64 (.negSucc 0)) L L) [(i 0)]),
    (8, B 4 1 (N (i 5) (O L (N (.int .i64 (.negSucc 0)) L L)) (N (i 1) L (N (.int .i64 (.negSucc 1)) L L))) [(i 0)]),
    (9, B 4 1 (N (i 1) (O L (N (.int .i64 (.negSucc 0)) L L)) (N (i 5) L (N (.int .i64 (.negSucc 1)) L L))) [(i 0)]),
    (10, B 8 2 (N (c 2 0 2 2) (O (O L (N (c 6 0 3 3) L L)) (N (c 4 0 1 1) L (N (c 8 0 4 4) L L))) (N (c 3 0 3 3) (O L (N (c 7 0 1 1) L L)) (N (c 5 0 1 1) L (N (c 9 0 4 4) L L)))) [(.slice none 0 0),
    (.slice none 0 0)]),
    (11, M []),
    (12, B 2 1 L [(.slice none 0 0),
    (m 11)]),
    (13, B 2 1 (O L (N (.slice none 0 0) L L)) [(p 12 0),
    (.slice none 0 0)]),
    (17, B 3 1 (N (p 147 0) (O L (N (i 1) L L)) (N (p 164 0) L L)) [(p 12 0),
    (p 13 0),
    (i 0)]),
    (146, M [((s [122]),
    (i 0)),
    ((s [115]),
    (i 1)),
    ((s [112]),
    (i 2)),
    ((s [100]),
    (i 3)),
    ((s [114]),
    (i 4)),
    ((s [97, 100, 100]),
    (i 5))]),
    (147, B 2 1 (N (.slice (some ⟨158, 0, some 0⟩) 6 6) L L) [(.slice none 0 0),
    (m 146)]),
    (158, B 18 3 (N (s [122]) (O (O (O (O L (N (i 2) L L)) (N (b false) L L)) (N (i 1) L (N (s [114]) L L))) (N (b false) (O L (N (i 1) L L)) (N (s [112]) L (N (b true) L L)))) (N (i 0) (O (O (O L (N (b true) L L)) (N (s [100]) L L)) (N (b false) L (N (i 0) L L))) (N (s [115]) (O L (N (b true) L L)) (N (i 2) L (N (s [97, 100, 100]) L L))))) [(s []),
    (i 0),
    (b false)]),
    (164, B 2 1 (O L (N (.slice (some ⟨389, 0, some 0⟩) 1 1) L L)) [(p 147 0),
    (.slice none 0 0)]),
    (386, B 2 1 (N (i 3) L (N (.int .i64 (.negSucc 0)) L L)) [(i 0)]),
    (388, B 3 1 (N (i 2) (O L (N (.int .i64 (.negSucc 0)) L L)) (N (.int .i64 (.negSucc 0)) L L)) [(i 0)]),
    (389, B 2 2 (N (.slice (some ⟨386, 0, some 0⟩) 2 2) L (N (.slice (some ⟨388, 0, some 0⟩) 3 3) L L)) [(.slice none 0 0),
    (.slice none 0 0)])]
  v := ni
  M := 748
  out := [(17, B 3 1 (N (p 147 0) (O L (N (i 2) L L)) (N (p 164 0) L L)) [(p 12 0),
    (p 13 0),
    (i 0)]),
    (164, B 2 1 (O L (N (.slice (some ⟨747, 0, some 0⟩) 2 2) L L)) [(p 147 0),
    (.slice none 0 0)]),
    (744, B 1 1 (N (i 4) L L) [(i 0)]),
    (746, B 1 1 (N (i 0) L L) [(i 0)]),
    (747, B 4 2 (N (.slice (some ⟨386, 0, some 0⟩) 2 2) (O L (N (.slice (some ⟨744, 0, some 0⟩) 1 1) L L)) (N (.slice (some ⟨388, 0, some 0⟩) 3 3) L (N (.slice (some ⟨746, 0, some 0⟩) 1 1) L L))) [(.slice none 0 0),
    (.slice none 0 0)])]
  kills := [389]
theorem e51_435_holds : e51_435.holds (ctxOf Tryz.prog (hook)) 1000000 = true := by kernel_rfl
theorem e51_435_ok [Base] (G : Given Tryz.prog hook) : EntOk Tryz.prog e51_435 := G.ent e51_435_holds
noncomputable def e136_748 : Ent where
  f := 136
  args := [(p 18 0), (c 10 2 1 3)]
  N := 748
  hin := [(2, B 2 1 (N (i 3) L (N (.int .i64 (.negSucc 0)) L L)) [(i 0)]),
    (3, B 3 1 (N (i 2) (O L (N (.int .i64 (.negSucc 0)) L L)) (N (.int .i64 (.negSucc 0)) L L)) [(i 0)]),
    (4, B 1 1 (N (i 4) L L) [(i 0)]),
    (5, B 1 1 (N (i 0) L L) [(i 0)]),
    (6, B 3 1 (N (i 5) (O L (N (.int .i64 (.negSucc 0)) L L)) (N (i 0) L L)) [(i 0)]),
    (7, B 1 1 (N (.int .i64 (.negSucc 0)) L L) [(i 0)]),
    (8, B 4 1 (N (i 5) (O L (N (.int .i64 (.negSucc 0)) L L)) (N (i 1) L (N (.int .i64 (.negSucc 1)) L L))) [(i 0)]),
    (9, B 4 1 (N (i 1) (O L (N (.int .i64 (.negSucc 0)) L L)) (N (i 5) L (N (.int .i64 (.negSucc 1)) L L))) [(i 0)]),
    (10, B 8 2 (N (c 2 0 2 2) (O (O L (N (c 6 0 3 3) L L)) (N (c 4 0 1 1) L (N (c 8 0 4 4) L L))) (N (c 3 0 3 3) (O L (N (c 7 0 1 1) L L)) (N (c 5 0 1 1) L (N (c 9 0 4 4) L L)))) [(.slice none 0 0),
    (.slice none 0 0)]),
    (18, B 3 1 (N (.slice (some ⟨174, 0, some 0⟩) 6 6) (O L (N (i 1) L L)) (N (.slice (some ⟨408, 0, some 0⟩) 1 1) L L)) [(.slice none 0 0),
    (.slice none 0 0),
    (i 0)]),
    (174, B 18 3 (N (s [122]) (O (O (O (O L (N (i 2) L L)) (N (b false) L L)) (N (i 1) L (N (s [114]) L L))) (N (b false) (O L (N (i 1) L L)) (N (s [112]) L (N (b true) L L)))) (N (i 0) (O (O (O L (N (b true) L L)) (N (s [100]) L L)) (N (b false) L (N (i 0) L L))) (N (s [115]) (O L (N (b true) L L)) (N (i 2) L (N (s [97, 100, 100]) L L))))) [(s []),
    (i 0),
    (b false)]),
    (405, B 2 1 (N (i 3) L (N (.int .i64 (.negSucc 0)) L L)) [(i 0)]),
    (406, B 3 1 (N (i 2) (O L (N (.int .i64 (.negSucc 0)) L L)) (N (.int .i64 (.negSucc 0)) L L)) [(i 0)]),
    (408, B 2 2 (N (.slice (some ⟨405, 0, some 0⟩) 2 2) L (N (.slice (some ⟨406, 0, some 0⟩) 3 3) L L)) [(.slice none 0 0),
    (.slice none 0 0)])]
  v := (.slice none 0 0)
  M := 1620
  out := [(18, B 3 1 (N (.slice (some ⟨174, 0, some 0⟩) 6 6) (O L (N (i 2) L L)) (N (.slice (some ⟨1591, 0, some 0⟩) 2 2) L L)) [(.slice none 0 0),
    (.slice none 0 0),
    (i 0)]),
    (1588, B 1 1 (N (i 4) L L) [(i 0)]),
    (1589, B 1 1 (N (i 0) L L) [(i 0)]),
    (1591, B 4 2 (N (.slice (some ⟨405, 0, some 0⟩) 2 2) (O L (N (.slice (some ⟨1588, 0, some 0⟩) 1 1) L L)) (N (.slice (some ⟨406, 0, some 0⟩) 3 3) L (N (.slice (some ⟨1589, 0, some 0⟩) 1 1) L L))) [(.slice none 0 0),
    (.slice none 0 0)])]
  kills := []
theorem e136_748_holds : e136_748.holds (ctxOf Tryz.prog (hook)) 1000000 = true := by kernel_rfl
theorem e136_748_ok [Base] (G : Given Tryz.prog hook) : EntOk Tryz.prog e136_748 := G.ent e136_748_holds
noncomputable def e51_1620 : Ent where
  f := 51
  args := [(p 17 0), (c 10 4 1 2)]
  N := 1620
  hin := [(2, B 2 1 (N (i 3) L (N (.int .i64 (.negSucc 0)) L L)) [(i 0)]),
    (3, B 3 1 (N (i 2) (O L (N (.int .i64 (.negSucc 0)) L L)) (N (.int .i64 (.negSucc 0)) L L)) [(i 0)]),
    (4, B 1 1 (N (i 4) L L) [(i 0)]),
    (5, B 1 1 (N (i 0) L L) [(i 0)]),
    (6, B 3 1 (N (i 5) (O L (N (.int .i64 (.negSucc 0)) L L)) (N (i 0) L L)) [(i 0)]),
    (7, B 1 1 (N (.int .i64 (.negSucc 0)) L L) [(i 0)]),
    (8, B 4 1 (N (i 5) (O L (N (.int .i64 (.negSucc 0)) L L)) (N (i 1) L (N (.int .i64 (.negSucc 1)) L L))) [(i 0)]),
    (9, B 4 1 (N (i 1) (O L (N (.int .i64 (.negSucc 0)) L L)) (N (i 5) L (N (.int .i64 (.negSucc 1)) L L))) [(i 0)]),
    (10, B 8 2 (N (c 2 0 2 2) (O (O L (N (c 6 0 3 3) L L)) (N (c 4 0 1 1) L (N (c 8 0 4 4) L L))) (N (c 3 0 3 3) (O L (N (c 7 0 1 1) L L)) (N (c 5 0 1 1) L (N (c 9 0 4 4) L L)))) [(.slice none 0 0),
    (.slice none 0 0)]),
    (11, M []),
    (12, B 2 1 L [(.slice none 0 0),
    (m 11)]),
    (13, B 2 1 (O L (N (.slice none 0 0) L L)) [(p 12 0),
    (.slice none 0 0)]),
    (17, B 3 1 (N (p 147 0) (O L (N (i 2) L L)) (N (p 164 0) L L)) [(p 12 0),
    (p 13 0),
    (i 0)]),
    (146, M [((s [122]),
    (i 0)),
    ((s [115]),
    (i 1)),
    ((s [112]),
    (i 2)),
    ((s [100]),
    (i 3)),
    ((s [114]),
    (i 4)),
    ((s [97, 100, 100]),
    (i 5))]),
    (147, B 2 1 (N (.slice (some ⟨158, 0, some 0⟩) 6 6) L L) [(.slice none 0 0),
    (m 146)]),
    (158, B 18 3 (N (s [122]) (O (O (O (O L (N (i 2) L L)) (N (b false) L L)) (N (i 1) L (N (s [114]) L L))) (N (b false) (O L (N (i 1) L L)) (N (s [112]) L (N (b true) L L)))) (N (i 0) (O (O (O L (N (b true) L L)) (N (s [100]) L L)) (N (b false) L (N (i 0) L L))) (N (s [115]) (O L (N (b true) L L)) (N (i 2) L (N (s [97, 100, 100]) L L))))) [(s []),
    (i 0),
    (b false)]),
    (164, B 2 1 (O L (N (.slice (some ⟨747, 0, some 0⟩) 2 2) L L)) [(p 147 0),
    (.slice none 0 0)]),
    (386, B 2 1 (N (i 3) L (N (.int .i64 (.negSucc 0)) L L)) [(i 0)]),
    (388, B 3 1 (N (i 2) (O L (N (.int .i64 (.negSucc 0)) L L)) (N (.int .i64 (.negSucc 0)) L L)) [(i 0)]),
    (744, B 1 1 (N (i 4) L L) [(i 0)]),
    (746, B 1 1 (N (i 0) L L) [(i 0)]),
    (747, B 4 2 (N (.slice (some ⟨386, 0, some 0⟩) 2 2) (O L (N (.slice (some ⟨744, 0, some 0⟩) 1 1) L L)) (N (.slice (some ⟨388, 0, some 0⟩) 3 3) L (N (.slice (some ⟨746, 0, some 0⟩) 1 1) L L))) [(.slice none 0 0),
    (.slice none 0 0)])]
  v := ni
  M := 2261
  out := [(17, B 3 1 (N (p 147 0) (O L (N (i 3) L L)) (N (p 164 0) L L)) [(p 12 0),
    (p 13 0),
    (i 0)]),
    (164, B 2 1 (O L (N (.slice (some ⟨2260, 0, some 0⟩) 3 3) L L)) [(p 147 0),
    (.slice none 0 0)]),
    (2257, B 3 1 (N (i 5) (O L (N (.int .i64 (.negSucc 0)) L L)) (N (i 0) L L)) [(i 0)]),
    (2259, B 1 1 (N (.int .i64 (.negSucc 0)) L L) [(i 0)]),
    (2260, B 6 2 (N (.slice (some ⟨386, 0, some 0⟩) 2 2) (O (O L (N (.slice (some ⟨2257, 0, some 0⟩) 3 3) L L)) (N (.slice (some ⟨744, 0, some 0⟩) 1 1) L L)) (N (.slice (some ⟨388, 0, some 0⟩) 3 3) (O L (N (.slice (some ⟨2259, 0, some 0⟩) 1 1) L L)) (N (.slice (some ⟨746, 0, some 0⟩) 1 1) L L))) [(.slice none 0 0),
    (.slice none 0 0)])]
  kills := [747]
theorem e51_1620_holds : e51_1620.holds (ctxOf Tryz.prog (hook)) 1000000 = true := by kernel_rfl
theorem e51_1620_ok [Base] (G : Given Tryz.prog hook) : EntOk Tryz.prog e51_1620 := G.ent e51_1620_holds
end Go.Eng.B
