/- errors.As at a concrete target, and errors.Is's opening, by their contracts: Go's own text is walked; the model's entries for reflectlite by closed facts. After the worked toy toyas. -/
import Derived.Test.YtcnamndapofimaaGreatDoorProg
import Derived.WalkKit
import Derived.LaidEql
import Derived.Stop.Asserts
import Derived.RowKitTokens
namespace Go.Eng.B
open Go Go.Proofs Go.RowKit Go.Extern.Stop Go.Stop Go.Extern

theorem rlm (z : Sem Value) (f : TypeId → Addr → Nat → Nat → Sem Value) (v : Value) :
    ReflectliteValue.method z f #[v] = (do match ← ReflectliteValue.parts v with | none => z | some (t, a, fl) => f t a fl (fl % 32)) := rfl
theorem rls (v x : Value) : ReflectliteValue.set #[v, x] = (do
    let (some (dst, a, fl), some (src, b, _)) := (← ReflectliteValue.parts v, ← ReflectliteValue.parts x)
      | unsupported (.noEntry "extern/(internal/reflectlite.Value).Set.zeroValue")
    if fl / ReflectliteValue.flagAddr % 2 == 0 then unsupported (.noEntry "extern/(internal/reflectlite.Value).Set.unaddressable")
    let val ← loadVar src b
    if ← Rtype.directlyAssignable dst src then storeVar dst a val
    else if ← Rtype.implements dst src then
      if (← Rtype.kind src) == 20 then
        match val with
        | .nilIface => unsupported (.noEntry "extern/reflectlite: a nil value of one interface type handed on as a value of another")
        | _ => storeVar dst a val
      else storeVar dst a (.iface src val)
    else panicString ("reflectlite.Set: value of type " ++ (← Rtype.spelt src) ++ " is not assignable to type " ++ (← Rtype.spelt dst))
    pure (.tuple #[])) := rfl
theorem methodKind (h : Value) (w : World) : (Go.method 646 290 (.agg #[h]) "Kind").run Tryz.prog w = .ok (356, h) w := by kernel_rfl
theorem methodElem (h : Value) (w : World) : (Go.method 646 290 (.agg #[h]) "Elem").run Tryz.prog w = .ok (372, .agg #[h]) w := by kernel_rfl
theorem methodImplements (h : Value) (w : World) : (Go.method 646 290 (.agg #[h]) "Implements").run Tryz.prog w = .ok (373, .agg #[h]) w := by kernel_rfl
theorem methodAssignableTo (h : Value) (w : World) : (Go.method 646 290 (.agg #[h]) "AssignableTo").run Tryz.prog w = .ok (370, .agg #[h]) w := by kernel_rfl
theorem methodComparable (h : Value) (w : World) : (Go.method 646 290 (.agg #[h]) "Comparable").run Tryz.prog w = .ok (371, .agg #[h]) w := by kernel_rfl
theorem valueOf152 (t : Addr) (w : World) : (ReflectliteValue.unpack (.iface 152 (.pointer (some t)))).run Tryz.prog w = .ok (.agg #[.pointer (some ⟨1, 152, none⟩), .pointer (some ⟨w.heap.size, 0, none⟩), .int .u64 150]) (w.alloc (.cells #[.pointer (some t)] 152)) := by kernel_rfl
theorem type152 (a : Addr) (w : World) : (ReflectliteValue.methodAny (ReflectliteValue.valueError "reflectlite.Value.Type" 0) (fun t _ _ _ => ReflectliteType.toType t) #[.agg #[.pointer (some ⟨1, 152, none⟩), .pointer (some a), .int .u64 150]]).run Tryz.prog w = .ok (.iface 290 (.agg #[.pointer (some ⟨1, 152, none⟩)])) w := by kernel_rfl
theorem parts152 (a : Addr) (w : World) : (ReflectliteValue.parts (.agg #[.pointer (some ⟨1, 152, none⟩), .pointer (some a), .int .u64 150])).run Tryz.prog w = .ok (some (152, a, 150)) w := by kernel_rfl
theorem isNil152 (a p : Addr) (W : World) (ha : W.cell? a = some (.pointer (some p))) : (ReflectliteValue.method (ReflectliteValue.valueError "reflectlite.Value.IsNil" 0) ReflectliteValue.isNil #[.agg #[.pointer (some ⟨1, 152, none⟩), .pointer (some a), .int .u64 150]]).run Tryz.prog W = .ok (.bool false) W := by
  rw [rlm]
  simp only [Sem.run_bind, parts152, Result.andThen]
  simp [ReflectliteValue.isNil, loadVar, isAgg, underlying, Tryz.underlying152, ha, Result.andThen]
theorem elem152 (w : World) : (ReflectliteType.method ReflectliteType.elem #[.agg #[.pointer (some ⟨1, 152, none⟩)]]).run Tryz.prog w = .ok (.iface 290 (.agg #[.pointer (some ⟨1, 133, none⟩)])) w := by kernel_rfl
theorem elemOf152 (w : World) : (Rtype.elem? 152).run Tryz.prog w = .ok (some 133) w := by kernel_rfl
theorem valueOf429 (t : Addr) (w : World) : (ReflectliteValue.unpack (.iface 429 (.pointer (some t)))).run Tryz.prog w = .ok (.agg #[.pointer (some ⟨1, 429, none⟩), .pointer (some ⟨w.heap.size, 0, none⟩), .int .u64 150]) (w.alloc (.cells #[.pointer (some t)] 429)) := by kernel_rfl
theorem type429 (a : Addr) (w : World) : (ReflectliteValue.methodAny (ReflectliteValue.valueError "reflectlite.Value.Type" 0) (fun t _ _ _ => ReflectliteType.toType t) #[.agg #[.pointer (some ⟨1, 429, none⟩), .pointer (some a), .int .u64 150]]).run Tryz.prog w = .ok (.iface 290 (.agg #[.pointer (some ⟨1, 429, none⟩)])) w := by kernel_rfl
theorem parts429 (a : Addr) (w : World) : (ReflectliteValue.parts (.agg #[.pointer (some ⟨1, 429, none⟩), .pointer (some a), .int .u64 150])).run Tryz.prog w = .ok (some (429, a, 150)) w := by kernel_rfl
theorem isNil429 (a p : Addr) (W : World) (ha : W.cell? a = some (.pointer (some p))) : (ReflectliteValue.method (ReflectliteValue.valueError "reflectlite.Value.IsNil" 0) ReflectliteValue.isNil #[.agg #[.pointer (some ⟨1, 429, none⟩), .pointer (some a), .int .u64 150]]).run Tryz.prog W = .ok (.bool false) W := by
  rw [rlm]
  simp only [Sem.run_bind, parts429, Result.andThen]
  simp [ReflectliteValue.isNil, loadVar, isAgg, underlying, Tryz.underlying429, ha, Result.andThen]
theorem elem429 (w : World) : (ReflectliteType.method ReflectliteType.elem #[.agg #[.pointer (some ⟨1, 429, none⟩)]]).run Tryz.prog w = .ok (.iface 290 (.agg #[.pointer (some ⟨1, 24, none⟩)])) w := by kernel_rfl
theorem elemOf429 (w : World) : (Rtype.elem? 429).run Tryz.prog w = .ok (some 24) w := by kernel_rfl
theorem kind24 (w : World) : ((ReflectliteType.abiMethod fun t => (fun a : Nat => Value.int IntKind.u8 (a : Int)) <$> Rtype.kind t) #[.pointer (some ⟨1, 24, none⟩)]).run Tryz.prog w = .ok (.int .u8 2) w := by kernel_rfl
theorem kind133 (w : World) : ((ReflectliteType.abiMethod fun t => (fun a : Nat => Value.int IntKind.u8 (a : Int)) <$> Rtype.kind t) #[.pointer (some ⟨1, 133, none⟩)]).run Tryz.prog w = .ok (.int .u8 22) w := by kernel_rfl
theorem kind152 (w : World) : ((ReflectliteType.abiMethod fun t => (fun a : Nat => Value.int IntKind.u8 (a : Int)) <$> Rtype.kind t) #[.pointer (some ⟨1, 152, none⟩)]).run Tryz.prog w = .ok (.int .u8 22) w := by kernel_rfl
theorem kind429 (w : World) : ((ReflectliteType.abiMethod fun t => (fun a : Nat => Value.int IntKind.u8 (a : Int)) <$> Rtype.kind t) #[.pointer (some ⟨1, 429, none⟩)]).run Tryz.prog w = .ok (.int .u8 22) w := by kernel_rfl
theorem implements24 (w : World) : (ReflectliteType.relation "Implements" ReflectliteType.implements_ #[.agg #[.pointer (some ⟨1, 24, none⟩)], .iface 290 (.agg #[.pointer (some ⟨1, 30, none⟩)])]).run Tryz.prog w = .ok (.bool true) w := by kernel_rfl
theorem typeOf24 (v : Value) (w : World) : (ReflectliteType.typeOf #[.iface 24 v]).run Tryz.prog w = .ok (.iface 290 (.agg #[.pointer (some ⟨1, 24, none⟩)])) w := by kernel_rfl
theorem valueOf24 (e : Int) (w : World) : (ReflectliteValue.unpack (.iface 24 (.int .i64 e))).run Tryz.prog w = .ok (.agg #[.pointer (some ⟨1, 24, none⟩), .pointer (some ⟨w.heap.size, 0, none⟩), .int .u64 130]) (w.alloc (.cells #[.int .i64 e] 24)) := by kernel_rfl
theorem mk24 (p : Addr) (w : World) : (ReflectliteValue.mk 24 p ReflectliteValue.flagAddr).run Tryz.prog w = .ok (.agg #[.pointer (some ⟨1, 24, none⟩), .pointer (some p), .int .u64 386]) w := by kernel_rfl
theorem parts24a (a : Addr) (w : World) : (ReflectliteValue.parts (.agg #[.pointer (some ⟨1, 24, none⟩), .pointer (some a), .int .u64 386])).run Tryz.prog w = .ok (some (24, a, 386)) w := by kernel_rfl
theorem parts24 (a : Addr) (w : World) : (ReflectliteValue.parts (.agg #[.pointer (some ⟨1, 24, none⟩), .pointer (some a), .int .u64 130])).run Tryz.prog w = .ok (some (24, a, 130)) w := by kernel_rfl
theorem direct24 (w : World) : (Rtype.directlyAssignable 24 24).run Tryz.prog w = .ok true w := by kernel_rfl
theorem size24 (w : World) : (sizeOf 24).run Tryz.prog w = .ok 1 w := by kernel_rfl
theorem set24 (ta b : Addr) (e : Int) (old : Value) (W : World) (hb : W.cell? b = some (.int .i64 e)) (ht : W.cell? ta = some old) (hf : W.frozen? ta = false) :
    (ReflectliteValue.set #[.agg #[.pointer (some ⟨1, 24, none⟩), .pointer (some ta), .int .u64 386], .agg #[.pointer (some ⟨1, 24, none⟩), .pointer (some b), .int .u64 130]]).run Tryz.prog W = .ok (.tuple #[]) (W.setCell ta (.int .i64 e)) := by
  rw [rls]
  simp only [Sem.run_bind, parts24a, parts24, Result.andThen]
  simp [ReflectliteValue.flagAddr, loadVar, isAgg, underlying, Tryz.underlying24, hb, Result.andThen, direct24, storeVar, Value.cells, storeCells, Addr.add]
  rw [run_store Tryz.prog W ta _ _ (by rfl)]
  simp [ht, hf]
theorem implements133 (w : World) : (ReflectliteType.relation "Implements" ReflectliteType.implements_ #[.agg #[.pointer (some ⟨1, 133, none⟩)], .iface 290 (.agg #[.pointer (some ⟨1, 30, none⟩)])]).run Tryz.prog w = .ok (.bool true) w := by kernel_rfl
theorem typeOf133 (v : Value) (w : World) : (ReflectliteType.typeOf #[.iface 133 v]).run Tryz.prog w = .ok (.iface 290 (.agg #[.pointer (some ⟨1, 133, none⟩)])) w := by kernel_rfl
theorem valueOf133 (e : Addr) (w : World) : (ReflectliteValue.unpack (.iface 133 (.pointer (some e)))).run Tryz.prog w = .ok (.agg #[.pointer (some ⟨1, 133, none⟩), .pointer (some ⟨w.heap.size, 0, none⟩), .int .u64 150]) (w.alloc (.cells #[.pointer (some e)] 133)) := by kernel_rfl
theorem mk133 (p : Addr) (w : World) : (ReflectliteValue.mk 133 p ReflectliteValue.flagAddr).run Tryz.prog w = .ok (.agg #[.pointer (some ⟨1, 133, none⟩), .pointer (some p), .int .u64 406]) w := by kernel_rfl
theorem parts133a (a : Addr) (w : World) : (ReflectliteValue.parts (.agg #[.pointer (some ⟨1, 133, none⟩), .pointer (some a), .int .u64 406])).run Tryz.prog w = .ok (some (133, a, 406)) w := by kernel_rfl
theorem parts133 (a : Addr) (w : World) : (ReflectliteValue.parts (.agg #[.pointer (some ⟨1, 133, none⟩), .pointer (some a), .int .u64 150])).run Tryz.prog w = .ok (some (133, a, 150)) w := by kernel_rfl
theorem direct133 (w : World) : (Rtype.directlyAssignable 133 133).run Tryz.prog w = .ok true w := by kernel_rfl
theorem size133 (w : World) : (sizeOf 133).run Tryz.prog w = .ok 1 w := by kernel_rfl
theorem set133 (ta b : Addr) (e : Addr) (old : Value) (W : World) (hb : W.cell? b = some (.pointer (some e))) (ht : W.cell? ta = some old) (hf : W.frozen? ta = false) :
    (ReflectliteValue.set #[.agg #[.pointer (some ⟨1, 133, none⟩), .pointer (some ta), .int .u64 406], .agg #[.pointer (some ⟨1, 133, none⟩), .pointer (some b), .int .u64 150]]).run Tryz.prog W = .ok (.tuple #[]) (W.setCell ta (.pointer (some e))) := by
  rw [rls]
  simp only [Sem.run_bind, parts133a, parts133, Result.andThen]
  simp [ReflectliteValue.flagAddr, loadVar, isAgg, underlying, Tryz.underlying133, hb, Result.andThen, direct133, storeVar, Value.cells, storeCells, Addr.add]
  rw [run_store Tryz.prog W ta _ _ (by rfl)]
  simp [ht, hf]
theorem assignable133_133 (w : World) : (ReflectliteType.relation "AssignableTo" ReflectliteType.assignableTo #[.agg #[.pointer (some ⟨1, 133, none⟩)], .iface 290 (.agg #[.pointer (some ⟨1, 133, none⟩)])]).run Tryz.prog w = .ok (.bool true) w := by kernel_rfl
theorem assignable24_24 (w : World) : (ReflectliteType.relation "AssignableTo" ReflectliteType.assignableTo #[.agg #[.pointer (some ⟨1, 24, none⟩)], .iface 290 (.agg #[.pointer (some ⟨1, 24, none⟩)])]).run Tryz.prog w = .ok (.bool true) w := by kernel_rfl
theorem assignable24_133 (w : World) : (ReflectliteType.relation "AssignableTo" ReflectliteType.assignableTo #[.agg #[.pointer (some ⟨1, 24, none⟩)], .iface 290 (.agg #[.pointer (some ⟨1, 133, none⟩)])]).run Tryz.prog w = .ok (.bool false) w := by kernel_rfl
theorem elemV152 (a p : Addr) (W : World) (ha : W.cell? a = some (.pointer (some p))) : (ReflectliteValue.method (ReflectliteValue.valueError "reflectlite.Value.Elem" 0) ReflectliteValue.elem #[.agg #[.pointer (some ⟨1, 152, none⟩), .pointer (some a), .int .u64 150]]).run Tryz.prog W = .ok (.agg #[.pointer (some ⟨1, 133, none⟩), .pointer (some p), .int .u64 406]) W := by
  rw [rlm]
  simp only [Sem.run_bind, parts152, Result.andThen]
  simp [ReflectliteValue.elem, loadVar, isAgg, underlying, Tryz.underlying152, ha, Result.andThen, elemOf152, mk133]
theorem elemV429 (a p : Addr) (W : World) (ha : W.cell? a = some (.pointer (some p))) : (ReflectliteValue.method (ReflectliteValue.valueError "reflectlite.Value.Elem" 0) ReflectliteValue.elem #[.agg #[.pointer (some ⟨1, 429, none⟩), .pointer (some a), .int .u64 150]]).run Tryz.prog W = .ok (.agg #[.pointer (some ⟨1, 24, none⟩), .pointer (some p), .int .u64 386]) W := by
  rw [rlm]
  simp only [Sem.run_bind, parts429, Result.andThen]
  simp [ReflectliteValue.elem, loadVar, isAgg, underlying, Tryz.underlying429, ha, Result.andThen, elemOf429, mk24]
theorem as_nil (t : Value) (w : World) : Calls Tryz.prog 69 #[.nilIface, t] w fun e w' => e = .returned (.bool false) ∧ w' = w := by
  go_enter Tryz.func69, Tryz.ntmps69
  go_wp2
  go_ret
  exact ⟨rfl, rfl⟩
set_option maxHeartbeats 4000000 in
theorem as_133_152 (e : Addr) (t : Addr) (old : Value) (w : World) (hg : w.cell? ⟨0, 0, none⟩ = some (.iface 290 (.agg #[.pointer (some ⟨1, 30, none⟩)]))) (ht0 : w.cell? t = some old) (hf0 : w.frozen? t = false) :
    Calls Tryz.prog 69 #[.iface 133 (.pointer (some e)), .iface 152 (.pointer (some t))] w fun ev w' => ev = .returned (.bool true) ∧ w' = ((((w.alloc (.cells #[.pointer (some t)] 152)).alloc (.cells #[.pointer (some ⟨1, 152, none⟩), .pointer (some ⟨w.heap.size, 0, none⟩), .int .u64 150] 246)).alloc (.cells #[.pointer (some ⟨1, 152, none⟩), .pointer (some ⟨w.heap.size, 0, none⟩), .int .u64 150] 246)).alloc (.cells #[.pointer (some e)] 133)).setCell t (.pointer (some e)) := by
  have xTypeOf := @run_callFunc_extern Tryz.prog 103 _ ReflectliteType.typeOf Tryz.func103 (by kernel_rfl) (by kernel_rfl) (by kernel_rfl) (by kernel_rfl)
  have xValueOf := @run_callFunc_extern Tryz.prog 129 _ (fun args => ReflectliteValue.unpack (args.getD 0 (.tuple #[]))) Tryz.func129 (by kernel_rfl) (by kernel_rfl) (by kernel_rfl) (by kernel_rfl)
  have xType := @run_callFunc_extern Tryz.prog 130 _ (ReflectliteValue.methodAny (ReflectliteValue.valueError "reflectlite.Value.Type" 0) (fun t _ _ _ => ReflectliteType.toType t)) Tryz.func130 (by kernel_rfl) (by kernel_rfl) (by kernel_rfl) (by kernel_rfl)
  have xIsNil := @run_callFunc_extern Tryz.prog 131 _ (ReflectliteValue.method (ReflectliteValue.valueError "reflectlite.Value.IsNil" 0) ReflectliteValue.isNil) Tryz.func131 (by kernel_rfl) (by kernel_rfl) (by kernel_rfl) (by kernel_rfl)
  have xVElem := @run_callFunc_extern Tryz.prog 183 _ (ReflectliteValue.method (ReflectliteValue.valueError "reflectlite.Value.Elem" 0) ReflectliteValue.elem) Tryz.func183 (by kernel_rfl) (by kernel_rfl) (by kernel_rfl) (by kernel_rfl)
  have xSet := @run_callFunc_extern Tryz.prog 184 _ ReflectliteValue.set Tryz.func184 (by kernel_rfl) (by kernel_rfl) (by kernel_rfl) (by kernel_rfl)
  have xKind := @run_callFunc_extern Tryz.prog 356 _ (ReflectliteType.abiMethod fun t => do pure (.int .u8 (← Rtype.kind t))) Tryz.func356 (by kernel_rfl) (by kernel_rfl) (by kernel_rfl) (by kernel_rfl)
  have xRElem := @run_callFunc_extern Tryz.prog 372 _ (ReflectliteType.method ReflectliteType.elem) Tryz.func372 (by kernel_rfl) (by kernel_rfl) (by kernel_rfl) (by kernel_rfl)
  have xRImplements := @run_callFunc_extern Tryz.prog 373 _ (ReflectliteType.relation "Implements" ReflectliteType.implements_) Tryz.func373 (by kernel_rfl) (by kernel_rfl) (by kernel_rfl) (by kernel_rfl)
  have xRAssignableTo := @run_callFunc_extern Tryz.prog 370 _ (ReflectliteType.relation "AssignableTo" ReflectliteType.assignableTo) Tryz.func370 (by kernel_rfl) (by kernel_rfl) (by kernel_rfl) (by kernel_rfl)
  have tO := typeOf133
  have mA := methodAssignableTo
  have aE := assignable133_133
  have vE := valueOf133
  have f6 := valueOf152
  have f7 := type152
  have mK := methodKind
  have mE := methodElem
  have mI := methodImplements
  have kT := kind152
  have kE := kind133
  have eT := elem152
  have iE := implements133
  have n8 := isNil152 ⟨w.heap.size, 0, none⟩ t ((w.alloc (.cells #[.pointer (some t)] 152)).alloc (.cells #[.pointer (some ⟨1, 152, none⟩), .pointer (some ⟨w.heap.size, 0, none⟩), .int .u64 150] 246)) (by simp)
  have hlt : 0 < w.heap.size := by
    rcases Nat.lt_or_ge 0 w.heap.size with h | h
    · exact h
    · simp [World.cell?, Array.getElem?_eq_none h] at hg
  have hg2 : ((w.alloc (.cells #[.pointer (some t)] 152)).alloc (.cells #[.pointer (some ⟨1, 152, none⟩), .pointer (some ⟨w.heap.size, 0, none⟩), .int .u64 150] 246)).cell? ⟨0, 0, none⟩ = some (.iface 290 (.agg #[.pointer (some ⟨1, 30, none⟩)])) := by
    rw [World.cell?_alloc_lt _ _ ⟨0, 0, none⟩ (by simp), World.cell?_alloc_lt _ _ ⟨0, 0, none⟩ hlt]; exact hg
  have htl : t.block < w.heap.size := by
    rcases Nat.lt_or_ge t.block w.heap.size with h | h
    · exact h
    · simp [World.cell?, Array.getElem?_eq_none h] at ht0
  have el := elemV152 ⟨w.heap.size, 0, none⟩ t (((w.alloc (.cells #[.pointer (some t)] 152)).alloc (.cells #[.pointer (some ⟨1, 152, none⟩), .pointer (some ⟨w.heap.size, 0, none⟩), .int .u64 150] 246)).alloc (.cells #[.pointer (some ⟨1, 152, none⟩), .pointer (some ⟨w.heap.size, 0, none⟩), .int .u64 150] 246)) (by rw [World.cell?_alloc_lt _ _ ⟨w.heap.size, 0, none⟩ (by simp; omega)]; simp)
  have st := set133 t ⟨w.heap.size + 1 + 1 + 1, 0, none⟩ e old ((((w.alloc (.cells #[.pointer (some t)] 152)).alloc (.cells #[.pointer (some ⟨1, 152, none⟩), .pointer (some ⟨w.heap.size, 0, none⟩), .int .u64 150] 246)).alloc (.cells #[.pointer (some ⟨1, 152, none⟩), .pointer (some ⟨w.heap.size, 0, none⟩), .int .u64 150] 246)).alloc (.cells #[.pointer (some e)] 133))
    (by rw [World.cell?_alloc_at _ _ _ _ (by simp)]; rfl)
    (by rw [World.cell?_alloc_lt _ _ t (by simp; omega), World.cell?_alloc_lt _ _ t (by simp; omega), World.cell?_alloc_lt _ _ t (by simp; omega), World.cell?_alloc_lt _ _ t htl]; exact ht0)
    (by rw [World.frozen?_alloc_old _ _ t (by simp; omega), World.frozen?_alloc_old _ _ t (by simp; omega), World.frozen?_alloc_old _ _ t (by simp; omega), World.frozen?_alloc_old _ _ t (Nat.ne_of_lt htl)]; exact hf0)
  go_enter Tryz.func69, Tryz.ntmps69
  go_wp2
  refine wp_loop_rounds 1 ?_
  rw [rounds_succ]
  go_wp2
  go_ret
  exact ⟨rfl, rfl⟩
set_option maxHeartbeats 4000000 in
theorem as_24_429 (e : Int) (t : Addr) (old : Value) (w : World) (hg : w.cell? ⟨0, 0, none⟩ = some (.iface 290 (.agg #[.pointer (some ⟨1, 30, none⟩)]))) (ht0 : w.cell? t = some old) (hf0 : w.frozen? t = false) :
    Calls Tryz.prog 69 #[.iface 24 (.int .i64 e), .iface 429 (.pointer (some t))] w fun ev w' => ev = .returned (.bool true) ∧ w' = ((((w.alloc (.cells #[.pointer (some t)] 429)).alloc (.cells #[.pointer (some ⟨1, 429, none⟩), .pointer (some ⟨w.heap.size, 0, none⟩), .int .u64 150] 246)).alloc (.cells #[.pointer (some ⟨1, 429, none⟩), .pointer (some ⟨w.heap.size, 0, none⟩), .int .u64 150] 246)).alloc (.cells #[.int .i64 e] 24)).setCell t (.int .i64 e) := by
  have xTypeOf := @run_callFunc_extern Tryz.prog 103 _ ReflectliteType.typeOf Tryz.func103 (by kernel_rfl) (by kernel_rfl) (by kernel_rfl) (by kernel_rfl)
  have xValueOf := @run_callFunc_extern Tryz.prog 129 _ (fun args => ReflectliteValue.unpack (args.getD 0 (.tuple #[]))) Tryz.func129 (by kernel_rfl) (by kernel_rfl) (by kernel_rfl) (by kernel_rfl)
  have xType := @run_callFunc_extern Tryz.prog 130 _ (ReflectliteValue.methodAny (ReflectliteValue.valueError "reflectlite.Value.Type" 0) (fun t _ _ _ => ReflectliteType.toType t)) Tryz.func130 (by kernel_rfl) (by kernel_rfl) (by kernel_rfl) (by kernel_rfl)
  have xIsNil := @run_callFunc_extern Tryz.prog 131 _ (ReflectliteValue.method (ReflectliteValue.valueError "reflectlite.Value.IsNil" 0) ReflectliteValue.isNil) Tryz.func131 (by kernel_rfl) (by kernel_rfl) (by kernel_rfl) (by kernel_rfl)
  have xVElem := @run_callFunc_extern Tryz.prog 183 _ (ReflectliteValue.method (ReflectliteValue.valueError "reflectlite.Value.Elem" 0) ReflectliteValue.elem) Tryz.func183 (by kernel_rfl) (by kernel_rfl) (by kernel_rfl) (by kernel_rfl)
  have xSet := @run_callFunc_extern Tryz.prog 184 _ ReflectliteValue.set Tryz.func184 (by kernel_rfl) (by kernel_rfl) (by kernel_rfl) (by kernel_rfl)
  have xKind := @run_callFunc_extern Tryz.prog 356 _ (ReflectliteType.abiMethod fun t => do pure (.int .u8 (← Rtype.kind t))) Tryz.func356 (by kernel_rfl) (by kernel_rfl) (by kernel_rfl) (by kernel_rfl)
  have xRElem := @run_callFunc_extern Tryz.prog 372 _ (ReflectliteType.method ReflectliteType.elem) Tryz.func372 (by kernel_rfl) (by kernel_rfl) (by kernel_rfl) (by kernel_rfl)
  have xRImplements := @run_callFunc_extern Tryz.prog 373 _ (ReflectliteType.relation "Implements" ReflectliteType.implements_) Tryz.func373 (by kernel_rfl) (by kernel_rfl) (by kernel_rfl) (by kernel_rfl)
  have xRAssignableTo := @run_callFunc_extern Tryz.prog 370 _ (ReflectliteType.relation "AssignableTo" ReflectliteType.assignableTo) Tryz.func370 (by kernel_rfl) (by kernel_rfl) (by kernel_rfl) (by kernel_rfl)
  have tO := typeOf24
  have mA := methodAssignableTo
  have aE := assignable24_24
  have vE := valueOf24
  have f6 := valueOf429
  have f7 := type429
  have mK := methodKind
  have mE := methodElem
  have mI := methodImplements
  have kT := kind429
  have kE := kind24
  have eT := elem429
  have iE := implements24
  have n8 := isNil429 ⟨w.heap.size, 0, none⟩ t ((w.alloc (.cells #[.pointer (some t)] 429)).alloc (.cells #[.pointer (some ⟨1, 429, none⟩), .pointer (some ⟨w.heap.size, 0, none⟩), .int .u64 150] 246)) (by simp)
  have hlt : 0 < w.heap.size := by
    rcases Nat.lt_or_ge 0 w.heap.size with h | h
    · exact h
    · simp [World.cell?, Array.getElem?_eq_none h] at hg
  have hg2 : ((w.alloc (.cells #[.pointer (some t)] 429)).alloc (.cells #[.pointer (some ⟨1, 429, none⟩), .pointer (some ⟨w.heap.size, 0, none⟩), .int .u64 150] 246)).cell? ⟨0, 0, none⟩ = some (.iface 290 (.agg #[.pointer (some ⟨1, 30, none⟩)])) := by
    rw [World.cell?_alloc_lt _ _ ⟨0, 0, none⟩ (by simp), World.cell?_alloc_lt _ _ ⟨0, 0, none⟩ hlt]; exact hg
  have htl : t.block < w.heap.size := by
    rcases Nat.lt_or_ge t.block w.heap.size with h | h
    · exact h
    · simp [World.cell?, Array.getElem?_eq_none h] at ht0
  have el := elemV429 ⟨w.heap.size, 0, none⟩ t (((w.alloc (.cells #[.pointer (some t)] 429)).alloc (.cells #[.pointer (some ⟨1, 429, none⟩), .pointer (some ⟨w.heap.size, 0, none⟩), .int .u64 150] 246)).alloc (.cells #[.pointer (some ⟨1, 429, none⟩), .pointer (some ⟨w.heap.size, 0, none⟩), .int .u64 150] 246)) (by rw [World.cell?_alloc_lt _ _ ⟨w.heap.size, 0, none⟩ (by simp; omega)]; simp)
  have st := set24 t ⟨w.heap.size + 1 + 1 + 1, 0, none⟩ e old ((((w.alloc (.cells #[.pointer (some t)] 429)).alloc (.cells #[.pointer (some ⟨1, 429, none⟩), .pointer (some ⟨w.heap.size, 0, none⟩), .int .u64 150] 246)).alloc (.cells #[.pointer (some ⟨1, 429, none⟩), .pointer (some ⟨w.heap.size, 0, none⟩), .int .u64 150] 246)).alloc (.cells #[.int .i64 e] 24))
    (by rw [World.cell?_alloc_at _ _ _ _ (by simp)]; rfl)
    (by rw [World.cell?_alloc_lt _ _ t (by simp; omega), World.cell?_alloc_lt _ _ t (by simp; omega), World.cell?_alloc_lt _ _ t (by simp; omega), World.cell?_alloc_lt _ _ t htl]; exact ht0)
    (by rw [World.frozen?_alloc_old _ _ t (by simp; omega), World.frozen?_alloc_old _ _ t (by simp; omega), World.frozen?_alloc_old _ _ t (by simp; omega), World.frozen?_alloc_old _ _ t (Nat.ne_of_lt htl)]; exact hf0)
  go_enter Tryz.func69, Tryz.ntmps69
  go_wp2
  refine wp_loop_rounds 1 ?_
  rw [rounds_succ]
  go_wp2
  go_ret
  exact ⟨rfl, rfl⟩
set_option maxHeartbeats 4000000 in
theorem as_24_152 (e : Int) (t : Addr) (old : Value) (w : World) (hg : w.cell? ⟨0, 0, none⟩ = some (.iface 290 (.agg #[.pointer (some ⟨1, 30, none⟩)]))) (ht0 : w.cell? t = some old) (_hf0 : w.frozen? t = false) :
    Calls Tryz.prog 69 #[.iface 24 (.int .i64 e), .iface 152 (.pointer (some t))] w fun ev w' => ev = .returned (.bool false) ∧ w' = (((w.alloc (.cells #[.pointer (some t)] 152)).alloc (.cells #[.pointer (some ⟨1, 152, none⟩), .pointer (some ⟨w.heap.size, 0, none⟩), .int .u64 150] 246)).alloc (.cells #[.pointer (some ⟨1, 152, none⟩), .pointer (some ⟨w.heap.size, 0, none⟩), .int .u64 150] 246)) := by
  have xTypeOf := @run_callFunc_extern Tryz.prog 103 _ ReflectliteType.typeOf Tryz.func103 (by kernel_rfl) (by kernel_rfl) (by kernel_rfl) (by kernel_rfl)
  have xValueOf := @run_callFunc_extern Tryz.prog 129 _ (fun args => ReflectliteValue.unpack (args.getD 0 (.tuple #[]))) Tryz.func129 (by kernel_rfl) (by kernel_rfl) (by kernel_rfl) (by kernel_rfl)
  have xType := @run_callFunc_extern Tryz.prog 130 _ (ReflectliteValue.methodAny (ReflectliteValue.valueError "reflectlite.Value.Type" 0) (fun t _ _ _ => ReflectliteType.toType t)) Tryz.func130 (by kernel_rfl) (by kernel_rfl) (by kernel_rfl) (by kernel_rfl)
  have xIsNil := @run_callFunc_extern Tryz.prog 131 _ (ReflectliteValue.method (ReflectliteValue.valueError "reflectlite.Value.IsNil" 0) ReflectliteValue.isNil) Tryz.func131 (by kernel_rfl) (by kernel_rfl) (by kernel_rfl) (by kernel_rfl)
  have xKind := @run_callFunc_extern Tryz.prog 356 _ (ReflectliteType.abiMethod fun t => do pure (.int .u8 (← Rtype.kind t))) Tryz.func356 (by kernel_rfl) (by kernel_rfl) (by kernel_rfl) (by kernel_rfl)
  have xRElem := @run_callFunc_extern Tryz.prog 372 _ (ReflectliteType.method ReflectliteType.elem) Tryz.func372 (by kernel_rfl) (by kernel_rfl) (by kernel_rfl) (by kernel_rfl)
  have xRImplements := @run_callFunc_extern Tryz.prog 373 _ (ReflectliteType.relation "Implements" ReflectliteType.implements_) Tryz.func373 (by kernel_rfl) (by kernel_rfl) (by kernel_rfl) (by kernel_rfl)
  have xRAssignableTo := @run_callFunc_extern Tryz.prog 370 _ (ReflectliteType.relation "AssignableTo" ReflectliteType.assignableTo) Tryz.func370 (by kernel_rfl) (by kernel_rfl) (by kernel_rfl) (by kernel_rfl)
  have tO := typeOf24
  have mA := methodAssignableTo
  have aE := assignable24_133
  have f6 := valueOf152
  have f7 := type152
  have mK := methodKind
  have mE := methodElem
  have mI := methodImplements
  have kT := kind152
  have kE := kind133
  have eT := elem152
  have iE := implements133
  have n8 := isNil152 ⟨w.heap.size, 0, none⟩ t ((w.alloc (.cells #[.pointer (some t)] 152)).alloc (.cells #[.pointer (some ⟨1, 152, none⟩), .pointer (some ⟨w.heap.size, 0, none⟩), .int .u64 150] 246)) (by simp)
  have hlt : 0 < w.heap.size := by
    rcases Nat.lt_or_ge 0 w.heap.size with h | h
    · exact h
    · simp [World.cell?, Array.getElem?_eq_none h] at hg
  have hg2 : ((w.alloc (.cells #[.pointer (some t)] 152)).alloc (.cells #[.pointer (some ⟨1, 152, none⟩), .pointer (some ⟨w.heap.size, 0, none⟩), .int .u64 150] 246)).cell? ⟨0, 0, none⟩ = some (.iface 290 (.agg #[.pointer (some ⟨1, 30, none⟩)])) := by
    rw [World.cell?_alloc_lt _ _ ⟨0, 0, none⟩ (by simp), World.cell?_alloc_lt _ _ ⟨0, 0, none⟩ hlt]; exact hg
  have htl : t.block < w.heap.size := by
    rcases Nat.lt_or_ge t.block w.heap.size with h | h
    · exact h
    · simp [World.cell?, Array.getElem?_eq_none h] at ht0
  have no347 : ∀ (v : Value) (xT : TypeId) (w : World), (Instr.typeAssert (.iface 24 v) xT 347 true).run Tryz.prog w = .ok (.tuple #[.nilIface, .bool false]) w := fun v xT w => run_typeAssert_lacksB Tryz.underlying347 (by kernel_rfl) (by kernel_rfl) v xT w
  have no295 : ∀ (v : Value) (xT : TypeId) (w : World), (Instr.typeAssert (.iface 24 v) xT 295 true).run Tryz.prog w = .ok (.tuple #[.nilIface, .bool false]) w := fun v xT w => run_typeAssert_lacksB Tryz.underlying295 (by kernel_rfl) (by kernel_rfl) v xT w
  have no296 : ∀ (v : Value) (xT : TypeId) (w : World), (Instr.typeAssert (.iface 24 v) xT 296 true).run Tryz.prog w = .ok (.tuple #[.nilIface, .bool false]) w := fun v xT w => run_typeAssert_lacksB Tryz.underlying296 (by kernel_rfl) (by kernel_rfl) v xT w
  go_enter Tryz.func69, Tryz.ntmps69
  go_wp2
  refine wp_loop_rounds 1 ?_
  rw [rounds_succ]
  go_wp2
  go_ret
  exact ⟨rfl, rfl⟩
theorem comparable24 (w : World) : ((ReflectliteType.method fun t => do Rtype.noPackHeld "Comparable" t; (fun a => Value.bool a.comparable) <$> typeInfo t) #[.agg #[.pointer (some ⟨1, 24, none⟩)]]).run Tryz.prog w = .ok (.bool true) w := by kernel_rfl
theorem is_nil (n : Int) (w : World) : Calls Tryz.prog 48 #[.nilIface, .iface 24 (.int .i64 n)] w fun e w' => e = .returned (.bool false) ∧ w' = w := by
  have hn := run_eql_iface_nil_left (P := Tryz.prog) w 24 (.int .i64 n) Tryz.underlying30
  go_enter Tryz.func48, Tryz.ntmps48
  go_wp2
  go_ret
  exact ⟨rfl, rfl⟩
theorem is_open (a : TypeId) (b : Value) (n : Int) (w : World) (R : Value → World → Prop) (h : Calls Tryz.prog 104 #[.iface a b, .iface 24 (.int .i64 n), .bool true] w fun e w' => ∃ cv, e = .returned cv ∧ R cv w') :
    Calls Tryz.prog 48 #[.iface a b, .iface 24 (.int .i64 n)] w fun e w' => ∃ cv, e = .returned cv ∧ R cv w' := by
  have xTypeOf := @run_callFunc_extern Tryz.prog 103 _ ReflectliteType.typeOf Tryz.func103 (by kernel_rfl) (by kernel_rfl) (by kernel_rfl) (by kernel_rfl)
  have xRComparable := @run_callFunc_extern Tryz.prog 371 _ (ReflectliteType.method fun t => do Rtype.noPackHeld "Comparable" t; pure (.bool (← typeInfo t).comparable)) Tryz.func371 (by kernel_rfl) (by kernel_rfl) (by kernel_rfl) (by kernel_rfl)
  have tT := typeOf24
  have cT := comparable24
  have mR := methodComparable
  go_enter Tryz.func48, Tryz.ntmps48
  go_wp2_with (fail)
  refine h.mono fun e w' he => ?_
  obtain ⟨cv, rfl, hR⟩ := he
  go_wp2
  go_ret
  exact ⟨cv, rfl, hR⟩
end Go.Eng.B

