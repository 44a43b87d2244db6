/- Parts of the second Made: the document's store, the fourth. -/
import Derived.Test.YtcnamndapofimaaGreatDoorHookB
import Derived.Test.YtcnamndapofimaaGreatDoorCutC
import Derived.Test.YtcnamndapofimaaGreatDoorMnE
import Derived.KernelRfl
namespace Go.Eng.B
open Go Go.Eng Go.Eng.Lit Go.Proofs
noncomputable def e186_13936 : Ent where
  f := 186
  args := [(p 13935 0), (c 8842 6 1 1)]
  N := 13936
  hin := [(8834, B 2 1 (N (i 3) L (N (.int .i64 (.negSucc 0)) L L)) [(i 0)]),
    (8835, B 3 1 (N (i 2) (O L (N (.int .i64 (.negSucc 0)) L L)) (N (.int .i64 (.negSucc 0)) L L)) [(i 0)]),
    (8836, B 1 1 (N (i 4) L L) [(i 0)]),
    (8837, B 1 1 (N (i 0) L L) [(i 0)]),
    (8838, B 3 1 (N (i 5) (O L (N (.int .i64 (.negSucc 0)) L L)) (N (i 0) L L)) [(i 0)]),
    (8839, B 1 1 (N (.int .i64 (.negSucc 0)) L L) [(i 0)]),
    (8840, B 4 1 (N (i 5) (O L (N (.int .i64 (.negSucc 0)) L L)) (N (i 1) L (N (.int .i64 (.negSucc 1)) L L))) [(i 0)]),
    (8841, B 4 1 (N (i 1) (O L (N (.int .i64 (.negSucc 0)) L L)) (N (i 5) L (N (.int .i64 (.negSucc 1)) L L))) [(i 0)]),
    (8842, B 8 2 (N (c 8834 0 2 2) (O (O L (N (c 8838 0 3 3) L L)) (N (c 8836 0 1 1) L (N (c 8840 0 4 4) L L))) (N (c 8835 0 3 3) (O L (N (c 8839 0 1 1) L L)) (N (c 8837 0 1 1) L (N (c 8841 0 4 4) L L)))) [(.slice none 0 0),
    (.slice none 0 0)]),
    (9006, B 18 3 (N (s [122]) (O (O (O (O L (N (i 2) L L)) (N (b false) L L)) (N (i 1) L (N (s [114]) L L))) (N (b false) (O L (N (i 1) L L)) (N (s [112]) L (N (b true) L L)))) (N (i 0) (O (O (O L (N (b true) L L)) (N (s [100]) L L)) (N (b false) L (N (i 0) L L))) (N (s [115]) (O L (N (b true) L L)) (N (i 2) L (N (s [97, 100, 100]) L L))))) [(s []),
    (i 0),
    (b false)]),
    (9237, B 2 1 (N (i 3) L (N (.int .i64 (.negSucc 0)) L L)) [(i 0)]),
    (9238, B 3 1 (N (i 2) (O L (N (.int .i64 (.negSucc 0)) L L)) (N (.int .i64 (.negSucc 0)) L L)) [(i 0)]),
    (10420, B 1 1 (N (i 4) L L) [(i 0)]),
    (10421, B 1 1 (N (i 0) L L) [(i 0)]),
    (12798, B 3 1 (N (i 5) (O L (N (.int .i64 (.negSucc 0)) L L)) (N (i 0) L L)) [(i 0)]),
    (12799, B 1 1 (N (.int .i64 (.negSucc 0)) L L) [(i 0)]),
    (13934, B 6 2 (N (.slice (some ⟨9237, 0, some 0⟩) 2 2) (O (O L (N (.slice (some ⟨12798, 0, some 0⟩) 3 3) L L)) (N (.slice (some ⟨10420, 0, some 0⟩) 1 1) L L)) (N (.slice (some ⟨9238, 0, some 0⟩) 3 3) (O L (N (.slice (some ⟨12799, 0, some 0⟩) 1 1) L L)) (N (.slice (some ⟨10421, 0, some 0⟩) 1 1) L L))) [(.slice none 0 0),
    (.slice none 0 0)]),
    (13935, B 2 1 L [(.slice (some ⟨9006, 0, some 0⟩) 6 6),
    (.slice (some ⟨13934, 0, some 0⟩) 3 3)])]
  v := (.slice none 0 0)
  M := 16540
  out := [(13935, B 2 1 (O L (N (.slice (some ⟨16539, 0, some 0⟩) 4 4) L L)) [(.slice (some ⟨9006, 0, some 0⟩) 6 6),
    (.slice (some ⟨13934, 0, some 0⟩) 3 3)]),
    (16536, B 4 1 (N (i 5) (O L (N (.int .i64 (.negSucc 0)) L L)) (N (i 1) L (N (.int .i64 (.negSucc 1)) L L))) [(i 0)]),
    (16537, B 4 1 (N (i 1) (O L (N (.int .i64 (.negSucc 0)) L L)) (N (i 5) L (N (.int .i64 (.negSucc 1)) L L))) [(i 0)]),
    (16539, B 8 2 (N (.slice (some ⟨9237, 0, some 0⟩) 2 2) (O (O L (N (.slice (some ⟨12798, 0, some 0⟩) 3 3) L L)) (N (.slice (some ⟨10420, 0, some 0⟩) 1 1) L (N (.slice (some ⟨16536, 0, some 0⟩) 4 4) L L))) (N (.slice (some ⟨9238, 0, some 0⟩) 3 3) (O L (N (.slice (some ⟨12799, 0, some 0⟩) 1 1) L L)) (N (.slice (some ⟨10421, 0, some 0⟩) 1 1) L (N (.slice (some ⟨16537, 0, some 0⟩) 4 4) L L)))) [(.slice none 0 0),
    (.slice none 0 0)])]
  kills := [13934]
theorem e186_13936_holds : e186_13936.holds (ctxOf Tryz.prog (hookT hook [e270_13952, e270_14811, e270_15660])) 1000000 = true := by kernel_rfl
theorem e186_13936_ok [Base] (G : Given Tryz.prog hook) : EntOk Tryz.prog e186_13936 := G.entT (.cons (e270_13952_ok G) ( .cons (e270_14811_ok G) ( .cons (e270_15660_ok G) ( .nil)))) e186_13936_holds
end Go.Eng.B
