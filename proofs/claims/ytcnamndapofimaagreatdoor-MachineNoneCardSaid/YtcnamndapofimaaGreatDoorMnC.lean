/- Parts of the second Made: the document's rules, the third. -/
import Derived.Test.YtcnamndapofimaaGreatDoorHookB
import Derived.Test.YtcnamndapofimaaGreatDoorCutC
import Derived.KernelRfl
namespace Go.Eng.B
open Go Go.Eng Go.Eng.Lit Go.Proofs
noncomputable def e136_11093 : Ent where
  f := 136
  args := [(p 8850 0), (c 8842 4 1 2)]
  N := 11093
  hin := [(8834, B 2 1 (N (i 3) L (N (.int .i64 (.negSucc 0)) L L)) [(i 0)]),
    (8835, B 3 1 (N (i 2) (O L (N (.int .i64 (.negSucc 0)) L L)) (N (.int .i64 (.negSucc 0)) L L)) [(i 0)]),
    (8836, B 1 1 (N (i 4) L L) [(i 0)]),
    (8837, B 1 1 (N (i 0) L L) [(i 0)]),
    (8838, B 3 1 (N (i 5) (O L (N (.int .i64 (.negSucc 0)) L L)) (N (i 0) L L)) [(i 0)]),
    (8839, B 1 1 (N (.int .i64 (.negSucc 0)) L L) [(i 0)]),
    (8840, B 4 1 (N (i 5) (O L (N (.int .i64 (.negSucc 0)) L L)) (N (i 1) L (N (.int .i64 (.negSucc 1)) L L))) [(i 0)]),
    (8841, B 4 1 (N (i 1) (O L (N (.int .i64 (.negSucc 0)) L L)) (N (i 5) L (N (.int .i64 (.negSucc 1)) L L))) [(i 0)]),
    (8842, B 8 2 (N (c 8834 0 2 2) (O (O L (N (c 8838 0 3 3) L L)) (N (c 8836 0 1 1) L (N (c 8840 0 4 4) L L))) (N (c 8835 0 3 3) (O L (N (c 8839 0 1 1) L L)) (N (c 8837 0 1 1) L (N (c 8841 0 4 4) L L)))) [(.slice none 0 0),
    (.slice none 0 0)]),
    (8850, B 3 1 (N (.slice (some ⟨9006, 0, some 0⟩) 6 6) (O L (N (i 2) L L)) (N (.slice (some ⟨10423, 0, some 0⟩) 2 2) L L)) [(.slice none 0 0),
    (.slice none 0 0),
    (i 0)]),
    (9006, B 18 3 (N (s [122]) (O (O (O (O L (N (i 2) L L)) (N (b false) L L)) (N (i 1) L (N (s [114]) L L))) (N (b false) (O L (N (i 1) L L)) (N (s [112]) L (N (b true) L L)))) (N (i 0) (O (O (O L (N (b true) L L)) (N (s [100]) L L)) (N (b false) L (N (i 0) L L))) (N (s [115]) (O L (N (b true) L L)) (N (i 2) L (N (s [97, 100, 100]) L L))))) [(s []),
    (i 0),
    (b false)]),
    (9237, B 2 1 (N (i 3) L (N (.int .i64 (.negSucc 0)) L L)) [(i 0)]),
    (9238, B 3 1 (N (i 2) (O L (N (.int .i64 (.negSucc 0)) L L)) (N (.int .i64 (.negSucc 0)) L L)) [(i 0)]),
    (10420, B 1 1 (N (i 4) L L) [(i 0)]),
    (10421, B 1 1 (N (i 0) L L) [(i 0)]),
    (10423, B 4 2 (N (.slice (some ⟨9237, 0, some 0⟩) 2 2) (O L (N (.slice (some ⟨10420, 0, some 0⟩) 1 1) L L)) (N (.slice (some ⟨9238, 0, some 0⟩) 3 3) L (N (.slice (some ⟨10421, 0, some 0⟩) 1 1) L L))) [(.slice none 0 0),
    (.slice none 0 0)])]
  v := (.slice none 0 0)
  M := 12894
  out := [(8850, B 3 1 (N (.slice (some ⟨9006, 0, some 0⟩) 6 6) (O L (N (i 3) L L)) (N (.slice (some ⟨12801, 0, some 0⟩) 3 3) L L)) [(.slice none 0 0),
    (.slice none 0 0),
    (i 0)]),
    (12798, B 3 1 (N (i 5) (O L (N (.int .i64 (.negSucc 0)) L L)) (N (i 0) L L)) [(i 0)]),
    (12799, B 1 1 (N (.int .i64 (.negSucc 0)) L L) [(i 0)]),
    (12801, B 6 2 (N (.slice (some ⟨9237, 0, some 0⟩) 2 2) (O (O L (N (.slice (some ⟨12798, 0, some 0⟩) 3 3) L L)) (N (.slice (some ⟨10420, 0, some 0⟩) 1 1) L L)) (N (.slice (some ⟨9238, 0, some 0⟩) 3 3) (O L (N (.slice (some ⟨12799, 0, some 0⟩) 1 1) L L)) (N (.slice (some ⟨10421, 0, some 0⟩) 1 1) L L))) [(.slice none 0 0),
    (.slice none 0 0)])]
  kills := []
theorem e136_11093_holds : e136_11093.holds (ctxOf Tryz.prog (hook)) 1000000 = true := by kernel_rfl
theorem e136_11093_ok [Base] (G : Given Tryz.prog hook) : EntOk Tryz.prog e136_11093 := G.ent e136_11093_holds
end Go.Eng.B
