/- Parts of the second Made: Made. -/
import Derived.Test.YtcnamndapofimaaGreatDoorHookB
import Derived.Test.YtcnamndapofimaaGreatDoorCutC
import Derived.Test.YtcnamndapofimaaGreatDoorMnA
import Derived.Test.YtcnamndapofimaaGreatDoorMnC
import Derived.Test.YtcnamndapofimaaGreatDoorMnD
import Derived.Test.YtcnamndapofimaaGreatDoorMnF
import Derived.KernelRfl
namespace Go.Eng.B
open Go Go.Eng Go.Eng.Lit Go.Proofs
noncomputable def e73_8843 : Ent where
  f := 73
  args := [(c 8833 0 6 6), (c 8842 0 4 4)]
  N := 8843
  hin := [(8833, B 18 3 (N (s [122]) (O (O (O (O L (N (i 2) L L)) (N (b false) L L)) (N (i 1) L (N (s [114]) L L))) (N (b false) (O L (N (i 1) L L)) (N (s [112]) L (N (b true) L L)))) (N (i 0) (O (O (O L (N (b true) L L)) (N (s [100]) L L)) (N (b false) L (N (i 0) L L))) (N (s [115]) (O L (N (b true) L L)) (N (i 2) L (N (s [97, 100, 100]) L L))))) [(s []),
    (i 0),
    (b false)]),
    (8834, B 2 1 (N (i 3) L (N (.int .i64 (.negSucc 0)) L L)) [(i 0)]),
    (8835, B 3 1 (N (i 2) (O L (N (.int .i64 (.negSucc 0)) L L)) (N (.int .i64 (.negSucc 0)) L L)) [(i 0)]),
    (8836, B 1 1 (N (i 4) L L) [(i 0)]),
    (8837, B 1 1 (N (i 0) L L) [(i 0)]),
    (8838, B 3 1 (N (i 5) (O L (N (.int .i64 (.negSucc 0)) L L)) (N (i 0) L L)) [(i 0)]),
    (8839, B 1 1 (N (.int .i64 (.negSucc 0)) L L) [(i 0)]),
    (8840, B 4 1 (N (i 5) (O L (N (.int .i64 (.negSucc 0)) L L)) (N (i 1) L (N (.int .i64 (.negSucc 1)) L L))) [(i 0)]),
    (8841, B 4 1 (N (i 1) (O L (N (.int .i64 (.negSucc 0)) L L)) (N (i 5) L (N (.int .i64 (.negSucc 1)) L L))) [(i 0)]),
    (8842, B 8 2 (N (c 8834 0 2 2) (O (O L (N (c 8838 0 3 3) L L)) (N (c 8836 0 1 1) L (N (c 8840 0 4 4) L L))) (N (c 8835 0 3 3) (O L (N (c 8839 0 1 1) L L)) (N (c 8837 0 1 1) L (N (c 8841 0 4 4) L L)))) [(.slice none 0 0),
    (.slice none 0 0)])]
  v := (t [(p 8849 0), (p 8850 0)])
  M := 16701
  out := [(8843, M []),
    (8844, B 2 1 L [(.slice none 0 0),
    (m 8843)]),
    (8845, B 2 1 (O L (N (.slice none 0 0) L L)) [(p 8844 0),
    (.slice none 0 0)]),
    (8849, B 3 1 (N (p 8979 0) (O L (N (i 4) L L)) (N (p 8996 0) L L)) [(p 8844 0),
    (p 8845 0),
    (i 0)]),
    (8850, B 3 1 (N (.slice (some ⟨9006, 0, some 0⟩) 6 6) (O L (N (i 4) L L)) (N (.slice (some ⟨16539, 0, some 0⟩) 4 4) L L)) [(.slice none 0 0),
    (.slice none 0 0),
    (i 0)]),
    (8978, M [((s [122]),
    (i 0)),
    ((s [115]),
    (i 1)),
    ((s [112]),
    (i 2)),
    ((s [100]),
    (i 3)),
    ((s [114]),
    (i 4)),
    ((s [97, 100, 100]),
    (i 5))]),
    (8979, B 2 1 (N (.slice (some ⟨8990, 0, some 0⟩) 6 6) L L) [(.slice none 0 0),
    (m 8978)]),
    (8990, B 18 3 (N (s [122]) (O (O (O (O L (N (i 2) L L)) (N (b false) L L)) (N (i 1) L (N (s [114]) L L))) (N (b false) (O L (N (i 1) L L)) (N (s [112]) L (N (b true) L L)))) (N (i 0) (O (O (O L (N (b true) L L)) (N (s [100]) L L)) (N (b false) L (N (i 0) L L))) (N (s [115]) (O L (N (b true) L L)) (N (i 2) L (N (s [97, 100, 100]) L L))))) [(s []),
    (i 0),
    (b false)]),
    (8996, B 2 1 (O L (N (.slice (some ⟨13932, 0, some 0⟩) 4 4) L L)) [(p 8979 0),
    (.slice none 0 0)]),
    (9006, B 18 3 (N (s [122]) (O (O (O (O L (N (i 2) L L)) (N (b false) L L)) (N (i 1) L (N (s [114]) L L))) (N (b false) (O L (N (i 1) L L)) (N (s [112]) L (N (b true) L L)))) (N (i 0) (O (O (O L (N (b true) L L)) (N (s [100]) L L)) (N (b false) L (N (i 0) L L))) (N (s [115]) (O L (N (b true) L L)) (N (i 2) L (N (s [97, 100, 100]) L L))))) [(s []),
    (i 0),
    (b false)]),
    (9218, B 2 1 (N (i 3) L (N (.int .i64 (.negSucc 0)) L L)) [(i 0)]),
    (9220, B 3 1 (N (i 2) (O L (N (.int .i64 (.negSucc 0)) L L)) (N (.int .i64 (.negSucc 0)) L L)) [(i 0)]),
    (9237, B 2 1 (N (i 3) L (N (.int .i64 (.negSucc 0)) L L)) [(i 0)]),
    (9238, B 3 1 (N (i 2) (O L (N (.int .i64 (.negSucc 0)) L L)) (N (.int .i64 (.negSucc 0)) L L)) [(i 0)]),
    (9576, B 1 1 (N (i 4) L L) [(i 0)]),
    (9578, B 1 1 (N (i 0) L L) [(i 0)]),
    (10420, B 1 1 (N (i 4) L L) [(i 0)]),
    (10421, B 1 1 (N (i 0) L L) [(i 0)]),
    (11089, B 3 1 (N (i 5) (O L (N (.int .i64 (.negSucc 0)) L L)) (N (i 0) L L)) [(i 0)]),
    (11091, B 1 1 (N (.int .i64 (.negSucc 0)) L L) [(i 0)]),
    (12798, B 3 1 (N (i 5) (O L (N (.int .i64 (.negSucc 0)) L L)) (N (i 0) L L)) [(i 0)]),
    (12799, B 1 1 (N (.int .i64 (.negSucc 0)) L L) [(i 0)]),
    (13929, B 4 1 (N (i 5) (O L (N (.int .i64 (.negSucc 0)) L L)) (N (i 1) L (N (.int .i64 (.negSucc 1)) L L))) [(i 0)]),
    (13931, B 4 1 (N (i 1) (O L (N (.int .i64 (.negSucc 0)) L L)) (N (i 5) L (N (.int .i64 (.negSucc 1)) L L))) [(i 0)]),
    (13932, B 8 2 (N (.slice (some ⟨9218, 0, some 0⟩) 2 2) (O (O L (N (.slice (some ⟨11089, 0, some 0⟩) 3 3) L L)) (N (.slice (some ⟨9576, 0, some 0⟩) 1 1) L (N (.slice (some ⟨13929, 0, some 0⟩) 4 4) L L))) (N (.slice (some ⟨9220, 0, some 0⟩) 3 3) (O L (N (.slice (some ⟨11091, 0, some 0⟩) 1 1) L L)) (N (.slice (some ⟨9578, 0, some 0⟩) 1 1) L (N (.slice (some ⟨13931, 0, some 0⟩) 4 4) L L)))) [(.slice none 0 0),
    (.slice none 0 0)]),
    (16536, B 4 1 (N (i 5) (O L (N (.int .i64 (.negSucc 0)) L L)) (N (i 1) L (N (.int .i64 (.negSucc 1)) L L))) [(i 0)]),
    (16537, B 4 1 (N (i 1) (O L (N (.int .i64 (.negSucc 0)) L L)) (N (i 5) L (N (.int .i64 (.negSucc 1)) L L))) [(i 0)]),
    (16539, B 8 2 (N (.slice (some ⟨9237, 0, some 0⟩) 2 2) (O (O L (N (.slice (some ⟨12798, 0, some 0⟩) 3 3) L L)) (N (.slice (some ⟨10420, 0, some 0⟩) 1 1) L (N (.slice (some ⟨16536, 0, some 0⟩) 4 4) L L))) (N (.slice (some ⟨9238, 0, some 0⟩) 3 3) (O L (N (.slice (some ⟨12799, 0, some 0⟩) 1 1) L L)) (N (.slice (some ⟨10421, 0, some 0⟩) 1 1) L (N (.slice (some ⟨16537, 0, some 0⟩) 4 4) L L)))) [(.slice none 0 0),
    (.slice none 0 0)])]
  kills := []
theorem e73_8843_holds : e73_8843.holds (ctxOf Tryz.prog (hookT hook [e51_9267, e136_9580, e51_10452, e136_11093, e51_12894, e136_13933])) 1000000 = true := by kernel_rfl
theorem e73_8843_ok [Base] (G : Given Tryz.prog hook) : EntOk Tryz.prog e73_8843 := G.entT (.cons (e51_9267_ok G) ( .cons (e136_9580_ok G) ( .cons (e51_10452_ok G) ( .cons (e136_11093_ok G) ( .cons (e51_12894_ok G) ( .cons (e136_13933_ok G) ( .nil))))))) e73_8843_holds
end Go.Eng.B
