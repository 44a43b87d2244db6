/- Parts of the awakening: the document's rules, the fourth. -/
import Derived.Test.YtcnamndapofimaaGreatDoorHookB
import Derived.Test.YtcnamndapofimaaGreatDoorCutC
import Derived.Test.YtcnamndapofimaaGreatDoorAwK
import Derived.KernelRfl
namespace Go.Eng.B
open Go Go.Eng Go.Eng.Lit Go.Proofs
noncomputable def e136_5101 : Ent where
  f := 136
  args := [(p 18 0), (c 10 6 1 1)]
  N := 5101
  hin := [(2, B 2 1 (N (i 3) L (N (.int .i64 (.negSucc 0)) L L)) [(i 0)]),
    (3, B 3 1 (N (i 2) (O L (N (.int .i64 (.negSucc 0)) L L)) (N (.int .i64 (.negSucc 0)) L L)) [(i 0)]),
    (4, B 1 1 (N (i 4) L L) [(i 0)]),
    (5, B 1 1 (N (i 0) L L) [(i 0)]),
    (6, B 3 1 (N (i 5) (O L (N (.int .i64 (.negSucc 0)) L L)) (N (i 0) L L)) [(i 0)]),
    (7, B 1 1 (N (.int .i64 (.negSucc 0)) L L) [(i 0)]),
    (8, B 4 1 (N (i 5) (O L (N (.int .i64 (.negSucc 0)) L L)) (N (i 1) L (N (.int .i64 (.negSucc 1)) L L))) [(i 0)]),
    (9, B 4 1 (N (i 1) (O L (N (.int .i64 (.negSucc 0)) L L)) (N (i 5) L (N (.int .i64 (.negSucc 1)) L L))) [(i 0)]),
    (10, B 8 2 (N (c 2 0 2 2) (O (O L (N (c 6 0 3 3) L L)) (N (c 4 0 1 1) L (N (c 8 0 4 4) L L))) (N (c 3 0 3 3) (O L (N (c 7 0 1 1) L L)) (N (c 5 0 1 1) L (N (c 9 0 4 4) L L)))) [(.slice none 0 0),
    (.slice none 0 0)]),
    (18, B 3 1 (N (.slice (some ⟨174, 0, some 0⟩) 6 6) (O L (N (i 3) L L)) (N (.slice (some ⟨3969, 0, some 0⟩) 3 3) L L)) [(.slice none 0 0),
    (.slice none 0 0),
    (i 0)]),
    (174, B 18 3 (N (s [122]) (O (O (O (O L (N (i 2) L L)) (N (b false) L L)) (N (i 1) L (N (s [114]) L L))) (N (b false) (O L (N (i 1) L L)) (N (s [112]) L (N (b true) L L)))) (N (i 0) (O (O (O L (N (b true) L L)) (N (s [100]) L L)) (N (b false) L (N (i 0) L L))) (N (s [115]) (O L (N (b true) L L)) (N (i 2) L (N (s [97, 100, 100]) L L))))) [(s []),
    (i 0),
    (b false)]),
    (405, B 2 1 (N (i 3) L (N (.int .i64 (.negSucc 0)) L L)) [(i 0)]),
    (406, B 3 1 (N (i 2) (O L (N (.int .i64 (.negSucc 0)) L L)) (N (.int .i64 (.negSucc 0)) L L)) [(i 0)]),
    (1588, B 1 1 (N (i 4) L L) [(i 0)]),
    (1589, B 1 1 (N (i 0) L L) [(i 0)]),
    (3966, B 3 1 (N (i 5) (O L (N (.int .i64 (.negSucc 0)) L L)) (N (i 0) L L)) [(i 0)]),
    (3967, B 1 1 (N (.int .i64 (.negSucc 0)) L L) [(i 0)]),
    (3969, B 6 2 (N (.slice (some ⟨405, 0, some 0⟩) 2 2) (O (O L (N (.slice (some ⟨3966, 0, some 0⟩) 3 3) L L)) (N (.slice (some ⟨1588, 0, some 0⟩) 1 1) L L)) (N (.slice (some ⟨406, 0, some 0⟩) 3 3) (O L (N (.slice (some ⟨3967, 0, some 0⟩) 1 1) L L)) (N (.slice (some ⟨1589, 0, some 0⟩) 1 1) L L))) [(.slice none 0 0),
    (.slice none 0 0)])]
  v := (.slice none 0 0)
  M := 7869
  out := [(18, B 3 1 (N (.slice (some ⟨174, 0, some 0⟩) 6 6) (O L (N (i 4) L L)) (N (.slice (some ⟨7707, 0, some 0⟩) 4 4) L L)) [(.slice none 0 0),
    (.slice none 0 0),
    (i 0)]),
    (7704, B 4 1 (N (i 5) (O L (N (.int .i64 (.negSucc 0)) L L)) (N (i 1) L (N (.int .i64 (.negSucc 1)) L L))) [(i 0)]),
    (7705, B 4 1 (N (i 1) (O L (N (.int .i64 (.negSucc 0)) L L)) (N (i 5) L (N (.int .i64 (.negSucc 1)) L L))) [(i 0)]),
    (7707, B 8 2 (N (.slice (some ⟨405, 0, some 0⟩) 2 2) (O (O L (N (.slice (some ⟨3966, 0, some 0⟩) 3 3) L L)) (N (.slice (some ⟨1588, 0, some 0⟩) 1 1) L (N (.slice (some ⟨7704, 0, some 0⟩) 4 4) L L))) (N (.slice (some ⟨406, 0, some 0⟩) 3 3) (O L (N (.slice (some ⟨3967, 0, some 0⟩) 1 1) L L)) (N (.slice (some ⟨1589, 0, some 0⟩) 1 1) L (N (.slice (some ⟨7705, 0, some 0⟩) 4 4) L L)))) [(.slice none 0 0),
    (.slice none 0 0)])]
  kills := []
theorem e136_5101_holds : e136_5101.holds (ctxOf Tryz.prog (hookT hook [e186_5104])) 1000000 = true := by kernel_rfl
theorem e136_5101_ok [Base] (G : Given Tryz.prog hook) : EntOk Tryz.prog e136_5101 := G.entT (.cons (e186_5104_ok G) ( .nil)) e136_5101_holds
end Go.Eng.B
