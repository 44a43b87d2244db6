/- errors.As at a concrete target, and errors.Is's opening, by their contracts: Go's own text is walked; the model's entries for reflectlite by closed facts. After the worked toy toyas. -/
import Derived.Test.YtmldepgkclpbeaaGreatDoorProg
import Derived.WalkKit
import Derived.LaidEql
import Derived.Stop.Asserts
import Derived.RowKitTokens
namespace Go.Eng.Z
open Go Go.Proofs Go.RowKit Go.Extern.Stop Go.Stop Go.Extern

theorem rlm (z : Sem Value) (f : TypeId → Addr → Nat → Nat → Sem Value) (v : Value) :
    ReflectliteValue.method z f #[v] = (do match ← ReflectliteValue.parts v with | none => z | some (t, a, fl) => f t a fl (fl % 32)) := rfl
theorem rls (v x : Value) : ReflectliteValue.set #[v, x] = (do
    let (some (dst, a, fl), some (src, b, _)) := (← ReflectliteValue.parts v, ← ReflectliteValue.parts x)
      | unsupported (.noEntry "extern/(internal/reflectlite.Value).Set.zeroValue")
    if fl / ReflectliteValue.flagAddr % 2 == 0 then unsupported (.noEntry "extern/(internal/reflectlite.Value).Set.unaddressable")
    let val ← loadVar src b
    if ← Rtype.directlyAssignable dst src then storeVar dst a val
    else if ← Rtype.implements dst src then
      if (← Rtype.kind src) == 20 then
        match val with
        | .nilIface => unsupported (.noEntry "extern/reflectlite: a nil value of one interface type handed on as a value of another")
        | _ => storeVar dst a val
      else storeVar dst a (.iface src val)
    else panicString ("reflectlite.Set: value of type " ++ (← Rtype.spelt src) ++ " is not assignable to type " ++ (← Rtype.spelt dst))
    pure (.tuple #[])) := rfl
theorem methodKind (h : Value) (w : World) : (Go.method 410 170 (.agg #[h]) "Kind").run Tryz.prog w = .ok (185, h) w := by kernel_rfl
theorem methodElem (h : Value) (w : World) : (Go.method 410 170 (.agg #[h]) "Elem").run Tryz.prog w = .ok (196, .agg #[h]) w := by kernel_rfl
theorem methodImplements (h : Value) (w : World) : (Go.method 410 170 (.agg #[h]) "Implements").run Tryz.prog w = .ok (197, .agg #[h]) w := by kernel_rfl
theorem methodAssignableTo (h : Value) (w : World) : (Go.method 410 170 (.agg #[h]) "AssignableTo").run Tryz.prog w = .ok (194, .agg #[h]) w := by kernel_rfl
theorem methodComparable (h : Value) (w : World) : (Go.method 410 170 (.agg #[h]) "Comparable").run Tryz.prog w = .ok (195, .agg #[h]) w := by kernel_rfl
theorem valueOf155 (t : Addr) (w : World) : (ReflectliteValue.unpack (.iface 155 (.pointer (some t)))).run Tryz.prog w = .ok (.agg #[.pointer (some ⟨1, 155, none⟩), .pointer (some ⟨w.heap.size, 0, none⟩), .int .u64 150]) (w.alloc (.cells #[.pointer (some t)] 155)) := by kernel_rfl
theorem type155 (a : Addr) (w : World) : (ReflectliteValue.methodAny (ReflectliteValue.valueError "reflectlite.Value.Type" 0) (fun t _ _ _ => ReflectliteType.toType t) #[.agg #[.pointer (some ⟨1, 155, none⟩), .pointer (some a), .int .u64 150]]).run Tryz.prog w = .ok (.iface 170 (.agg #[.pointer (some ⟨1, 155, none⟩)])) w := by kernel_rfl
theorem parts155 (a : Addr) (w : World) : (ReflectliteValue.parts (.agg #[.pointer (some ⟨1, 155, none⟩), .pointer (some a), .int .u64 150])).run Tryz.prog w = .ok (some (155, a, 150)) w := by kernel_rfl
theorem isNil155 (a p : Addr) (W : World) (ha : W.cell? a = some (.pointer (some p))) : (ReflectliteValue.method (ReflectliteValue.valueError "reflectlite.Value.IsNil" 0) ReflectliteValue.isNil #[.agg #[.pointer (some ⟨1, 155, none⟩), .pointer (some a), .int .u64 150]]).run Tryz.prog W = .ok (.bool false) W := by
  rw [rlm]
  simp only [Sem.run_bind, parts155, Result.andThen]
  simp [ReflectliteValue.isNil, loadVar, isAgg, underlying, Tryz.underlying155, ha, Result.andThen]
theorem elem155 (w : World) : (ReflectliteType.method ReflectliteType.elem #[.agg #[.pointer (some ⟨1, 155, none⟩)]]).run Tryz.prog w = .ok (.iface 170 (.agg #[.pointer (some ⟨1, 96, none⟩)])) w := by kernel_rfl
theorem elemOf155 (w : World) : (Rtype.elem? 155).run Tryz.prog w = .ok (some 96) w := by kernel_rfl
theorem valueOf156 (t : Addr) (w : World) : (ReflectliteValue.unpack (.iface 156 (.pointer (some t)))).run Tryz.prog w = .ok (.agg #[.pointer (some ⟨1, 156, none⟩), .pointer (some ⟨w.heap.size, 0, none⟩), .int .u64 150]) (w.alloc (.cells #[.pointer (some t)] 156)) := by kernel_rfl
theorem type156 (a : Addr) (w : World) : (ReflectliteValue.methodAny (ReflectliteValue.valueError "reflectlite.Value.Type" 0) (fun t _ _ _ => ReflectliteType.toType t) #[.agg #[.pointer (some ⟨1, 156, none⟩), .pointer (some a), .int .u64 150]]).run Tryz.prog w = .ok (.iface 170 (.agg #[.pointer (some ⟨1, 156, none⟩)])) w := by kernel_rfl
theorem parts156 (a : Addr) (w : World) : (ReflectliteValue.parts (.agg #[.pointer (some ⟨1, 156, none⟩), .pointer (some a), .int .u64 150])).run Tryz.prog w = .ok (some (156, a, 150)) w := by kernel_rfl
theorem isNil156 (a p : Addr) (W : World) (ha : W.cell? a = some (.pointer (some p))) : (ReflectliteValue.method (ReflectliteValue.valueError "reflectlite.Value.IsNil" 0) ReflectliteValue.isNil #[.agg #[.pointer (some ⟨1, 156, none⟩), .pointer (some a), .int .u64 150]]).run Tryz.prog W = .ok (.bool false) W := by
  rw [rlm]
  simp only [Sem.run_bind, parts156, Result.andThen]
  simp [ReflectliteValue.isNil, loadVar, isAgg, underlying, Tryz.underlying156, ha, Result.andThen]
theorem elem156 (w : World) : (ReflectliteType.method ReflectliteType.elem #[.agg #[.pointer (some ⟨1, 156, none⟩)]]).run Tryz.prog w = .ok (.iface 170 (.agg #[.pointer (some ⟨1, 38, none⟩)])) w := by kernel_rfl
theorem elemOf156 (w : World) : (Rtype.elem? 156).run Tryz.prog w = .ok (some 38) w := by kernel_rfl
theorem kind38 (w : World) : ((ReflectliteType.abiMethod fun t => (fun a : Nat => Value.int IntKind.u8 (a : Int)) <$> Rtype.kind t) #[.pointer (some ⟨1, 38, none⟩)]).run Tryz.prog w = .ok (.int .u8 2) w := by kernel_rfl
theorem kind96 (w : World) : ((ReflectliteType.abiMethod fun t => (fun a : Nat => Value.int IntKind.u8 (a : Int)) <$> Rtype.kind t) #[.pointer (some ⟨1, 96, none⟩)]).run Tryz.prog w = .ok (.int .u8 22) w := by kernel_rfl
theorem kind155 (w : World) : ((ReflectliteType.abiMethod fun t => (fun a : Nat => Value.int IntKind.u8 (a : Int)) <$> Rtype.kind t) #[.pointer (some ⟨1, 155, none⟩)]).run Tryz.prog w = .ok (.int .u8 22) w := by kernel_rfl
theorem kind156 (w : World) : ((ReflectliteType.abiMethod fun t => (fun a : Nat => Value.int IntKind.u8 (a : Int)) <$> Rtype.kind t) #[.pointer (some ⟨1, 156, none⟩)]).run Tryz.prog w = .ok (.int .u8 22) w := by kernel_rfl
theorem implements38 (w : World) : (ReflectliteType.relation "Implements" ReflectliteType.implements_ #[.agg #[.pointer (some ⟨1, 38, none⟩)], .iface 170 (.agg #[.pointer (some ⟨1, 28, none⟩)])]).run Tryz.prog w = .ok (.bool true) w := by kernel_rfl
theorem typeOf38 (v : Value) (w : World) : (ReflectliteType.typeOf #[.iface 38 v]).run Tryz.prog w = .ok (.iface 170 (.agg #[.pointer (some ⟨1, 38, none⟩)])) w := by kernel_rfl
theorem valueOf38 (e : Int) (w : World) : (ReflectliteValue.unpack (.iface 38 (.int .i64 e))).run Tryz.prog w = .ok (.agg #[.pointer (some ⟨1, 38, none⟩), .pointer (some ⟨w.heap.size, 0, none⟩), .int .u64 130]) (w.alloc (.cells #[.int .i64 e] 38)) := by kernel_rfl
theorem mk38 (p : Addr) (w : World) : (ReflectliteValue.mk 38 p ReflectliteValue.flagAddr).run Tryz.prog w = .ok (.agg #[.pointer (some ⟨1, 38, none⟩), .pointer (some p), .int .u64 386]) w := by kernel_rfl
theorem parts38a (a : Addr) (w : World) : (ReflectliteValue.parts (.agg #[.pointer (some ⟨1, 38, none⟩), .pointer (some a), .int .u64 386])).run Tryz.prog w = .ok (some (38, a, 386)) w := by kernel_rfl
theorem parts38 (a : Addr) (w : World) : (ReflectliteValue.parts (.agg #[.pointer (some ⟨1, 38, none⟩), .pointer (some a), .int .u64 130])).run Tryz.prog w = .ok (some (38, a, 130)) w := by kernel_rfl
theorem direct38 (w : World) : (Rtype.directlyAssignable 38 38).run Tryz.prog w = .ok true w := by kernel_rfl
theorem size38 (w : World) : (sizeOf 38).run Tryz.prog w = .ok 1 w := by kernel_rfl
theorem set38 (ta b : Addr) (e : Int) (old : Value) (W : World) (hb : W.cell? b = some (.int .i64 e)) (ht : W.cell? ta = some old) (hf : W.frozen? ta = false) :
    (ReflectliteValue.set #[.agg #[.pointer (some ⟨1, 38, none⟩), .pointer (some ta), .int .u64 386], .agg #[.pointer (some ⟨1, 38, none⟩), .pointer (some b), .int .u64 130]]).run Tryz.prog W = .ok (.tuple #[]) (W.setCell ta (.int .i64 e)) := by
  rw [rls]
  simp only [Sem.run_bind, parts38a, parts38, Result.andThen]
  simp [ReflectliteValue.flagAddr, loadVar, isAgg, underlying, Tryz.underlying38, hb, Result.andThen, direct38, storeVar, Value.cells, storeCells, Addr.add]
  rw [run_store Tryz.prog W ta _ _ (by rfl)]
  simp [ht, hf]
theorem implements96 (w : World) : (ReflectliteType.relation "Implements" ReflectliteType.implements_ #[.agg #[.pointer (some ⟨1, 96, none⟩)], .iface 170 (.agg #[.pointer (some ⟨1, 28, none⟩)])]).run Tryz.prog w = .ok (.bool true) w := by kernel_rfl
theorem typeOf96 (v : Value) (w : World) : (ReflectliteType.typeOf #[.iface 96 v]).run Tryz.prog w = .ok (.iface 170 (.agg #[.pointer (some ⟨1, 96, none⟩)])) w := by kernel_rfl
theorem valueOf96 (e : Addr) (w : World) : (ReflectliteValue.unpack (.iface 96 (.pointer (some e)))).run Tryz.prog w = .ok (.agg #[.pointer (some ⟨1, 96, none⟩), .pointer (some ⟨w.heap.size, 0, none⟩), .int .u64 150]) (w.alloc (.cells #[.pointer (some e)] 96)) := by kernel_rfl
theorem mk96 (p : Addr) (w : World) : (ReflectliteValue.mk 96 p ReflectliteValue.flagAddr).run Tryz.prog w = .ok (.agg #[.pointer (some ⟨1, 96, none⟩), .pointer (some p), .int .u64 406]) w := by kernel_rfl
theorem parts96a (a : Addr) (w : World) : (ReflectliteValue.parts (.agg #[.pointer (some ⟨1, 96, none⟩), .pointer (some a), .int .u64 406])).run Tryz.prog w = .ok (some (96, a, 406)) w := by kernel_rfl
theorem parts96 (a : Addr) (w : World) : (ReflectliteValue.parts (.agg #[.pointer (some ⟨1, 96, none⟩), .pointer (some a), .int .u64 150])).run Tryz.prog w = .ok (some (96, a, 150)) w := by kernel_rfl
theorem direct96 (w : World) : (Rtype.directlyAssignable 96 96).run Tryz.prog w = .ok true w := by kernel_rfl
theorem size96 (w : World) : (sizeOf 96).run Tryz.prog w = .ok 1 w := by kernel_rfl
theorem set96 (ta b : Addr) (e : Addr) (old : Value) (W : World) (hb : W.cell? b = some (.pointer (some e))) (ht : W.cell? ta = some old) (hf : W.frozen? ta = false) :
    (ReflectliteValue.set #[.agg #[.pointer (some ⟨1, 96, none⟩), .pointer (some ta), .int .u64 406], .agg #[.pointer (some ⟨1, 96, none⟩), .pointer (some b), .int .u64 150]]).run Tryz.prog W = .ok (.tuple #[]) (W.setCell ta (.pointer (some e))) := by
  rw [rls]
  simp only [Sem.run_bind, parts96a, parts96, Result.andThen]
  simp [ReflectliteValue.flagAddr, loadVar, isAgg, underlying, Tryz.underlying96, hb, Result.andThen, direct96, storeVar, Value.cells, storeCells, Addr.add]
  rw [run_store Tryz.prog W ta _ _ (by rfl)]
  simp [ht, hf]
theorem assignable96_96 (w : World) : (ReflectliteType.relation "AssignableTo" ReflectliteType.assignableTo #[.agg #[.pointer (some ⟨1, 96, none⟩)], .iface 170 (.agg #[.pointer (some ⟨1, 96, none⟩)])]).run Tryz.prog w = .ok (.bool true) w := by kernel_rfl
theorem assignable38_38 (w : World) : (ReflectliteType.relation "AssignableTo" ReflectliteType.assignableTo #[.agg #[.pointer (some ⟨1, 38, none⟩)], .iface 170 (.agg #[.pointer (some ⟨1, 38, none⟩)])]).run Tryz.prog w = .ok (.bool true) w := by kernel_rfl
theorem assignable38_96 (w : World) : (ReflectliteType.relation "AssignableTo" ReflectliteType.assignableTo #[.agg #[.pointer (some ⟨1, 38, none⟩)], .iface 170 (.agg #[.pointer (some ⟨1, 96, none⟩)])]).run Tryz.prog w = .ok (.bool false) w := by kernel_rfl
theorem elemV155 (a p : Addr) (W : World) (ha : W.cell? a = some (.pointer (some p))) : (ReflectliteValue.method (ReflectliteValue.valueError "reflectlite.Value.Elem" 0) ReflectliteValue.elem #[.agg #[.pointer (some ⟨1, 155, none⟩), .pointer (some a), .int .u64 150]]).run Tryz.prog W = .ok (.agg #[.pointer (some ⟨1, 96, none⟩), .pointer (some p), .int .u64 406]) W := by
  rw [rlm]
  simp only [Sem.run_bind, parts155, Result.andThen]
  simp [ReflectliteValue.elem, loadVar, isAgg, underlying, Tryz.underlying155, ha, Result.andThen, elemOf155, mk96]
theorem elemV156 (a p : Addr) (W : World) (ha : W.cell? a = some (.pointer (some p))) : (ReflectliteValue.method (ReflectliteValue.valueError "reflectlite.Value.Elem" 0) ReflectliteValue.elem #[.agg #[.pointer (some ⟨1, 156, none⟩), .pointer (some a), .int .u64 150]]).run Tryz.prog W = .ok (.agg #[.pointer (some ⟨1, 38, none⟩), .pointer (some p), .int .u64 386]) W := by
  rw [rlm]
  simp only [Sem.run_bind, parts156, Result.andThen]
  simp [ReflectliteValue.elem, loadVar, isAgg, underlying, Tryz.underlying156, ha, Result.andThen, elemOf156, mk38]
theorem as_nil (t : Value) (w : World) : Calls Tryz.prog 84 #[.nilIface, t] w fun e w' => e = .returned (.bool false) ∧ w' = w := by
  go_enter Tryz.func84, Tryz.ntmps84
  go_wp2
  go_ret
  exact ⟨rfl, rfl⟩
set_option maxHeartbeats 4000000 in
theorem as_96_155 (e : Addr) (t : Addr) (old : Value) (w : World) (hg : w.cell? ⟨0, 0, none⟩ = some (.iface 170 (.agg #[.pointer (some ⟨1, 28, none⟩)]))) (ht0 : w.cell? t = some old) (hf0 : w.frozen? t = false) :
    Calls Tryz.prog 84 #[.iface 96 (.pointer (some e)), .iface 155 (.pointer (some t))] w fun ev w' => ev = .returned (.bool true) ∧ w' = ((((w.alloc (.cells #[.pointer (some t)] 155)).alloc (.cells #[.pointer (some ⟨1, 155, none⟩), .pointer (some ⟨w.heap.size, 0, none⟩), .int .u64 150] 220)).alloc (.cells #[.pointer (some ⟨1, 155, none⟩), .pointer (some ⟨w.heap.size, 0, none⟩), .int .u64 150] 220)).alloc (.cells #[.pointer (some e)] 96)).setCell t (.pointer (some e)) := by
  have xTypeOf := @run_callFunc_extern Tryz.prog 49 _ ReflectliteType.typeOf Tryz.func49 (by kernel_rfl) (by kernel_rfl) (by kernel_rfl) (by kernel_rfl)
  have xValueOf := @run_callFunc_extern Tryz.prog 119 _ (fun args => ReflectliteValue.unpack (args.getD 0 (.tuple #[]))) Tryz.func119 (by kernel_rfl) (by kernel_rfl) (by kernel_rfl) (by kernel_rfl)
  have xType := @run_callFunc_extern Tryz.prog 120 _ (ReflectliteValue.methodAny (ReflectliteValue.valueError "reflectlite.Value.Type" 0) (fun t _ _ _ => ReflectliteType.toType t)) Tryz.func120 (by kernel_rfl) (by kernel_rfl) (by kernel_rfl) (by kernel_rfl)
  have xIsNil := @run_callFunc_extern Tryz.prog 121 _ (ReflectliteValue.method (ReflectliteValue.valueError "reflectlite.Value.IsNil" 0) ReflectliteValue.isNil) Tryz.func121 (by kernel_rfl) (by kernel_rfl) (by kernel_rfl) (by kernel_rfl)
  have xVElem := @run_callFunc_extern Tryz.prog 153 _ (ReflectliteValue.method (ReflectliteValue.valueError "reflectlite.Value.Elem" 0) ReflectliteValue.elem) Tryz.func153 (by kernel_rfl) (by kernel_rfl) (by kernel_rfl) (by kernel_rfl)
  have xSet := @run_callFunc_extern Tryz.prog 154 _ ReflectliteValue.set Tryz.func154 (by kernel_rfl) (by kernel_rfl) (by kernel_rfl) (by kernel_rfl)
  have xKind := @run_callFunc_extern Tryz.prog 185 _ (ReflectliteType.abiMethod fun t => do pure (.int .u8 (← Rtype.kind t))) Tryz.func185 (by kernel_rfl) (by kernel_rfl) (by kernel_rfl) (by kernel_rfl)
  have xRElem := @run_callFunc_extern Tryz.prog 196 _ (ReflectliteType.method ReflectliteType.elem) Tryz.func196 (by kernel_rfl) (by kernel_rfl) (by kernel_rfl) (by kernel_rfl)
  have xRImplements := @run_callFunc_extern Tryz.prog 197 _ (ReflectliteType.relation "Implements" ReflectliteType.implements_) Tryz.func197 (by kernel_rfl) (by kernel_rfl) (by kernel_rfl) (by kernel_rfl)
  have xRAssignableTo := @run_callFunc_extern Tryz.prog 194 _ (ReflectliteType.relation "AssignableTo" ReflectliteType.assignableTo) Tryz.func194 (by kernel_rfl) (by kernel_rfl) (by kernel_rfl) (by kernel_rfl)
  have tO := typeOf96
  have mA := methodAssignableTo
  have aE := assignable96_96
  have vE := valueOf96
  have f6 := valueOf155
  have f7 := type155
  have mK := methodKind
  have mE := methodElem
  have mI := methodImplements
  have kT := kind155
  have kE := kind96
  have eT := elem155
  have iE := implements96
  have n8 := isNil155 ⟨w.heap.size, 0, none⟩ t ((w.alloc (.cells #[.pointer (some t)] 155)).alloc (.cells #[.pointer (some ⟨1, 155, none⟩), .pointer (some ⟨w.heap.size, 0, none⟩), .int .u64 150] 220)) (by simp)
  have hlt : 0 < w.heap.size := by
    rcases Nat.lt_or_ge 0 w.heap.size with h | h
    · exact h
    · simp [World.cell?, Array.getElem?_eq_none h] at hg
  have hg2 : ((w.alloc (.cells #[.pointer (some t)] 155)).alloc (.cells #[.pointer (some ⟨1, 155, none⟩), .pointer (some ⟨w.heap.size, 0, none⟩), .int .u64 150] 220)).cell? ⟨0, 0, none⟩ = some (.iface 170 (.agg #[.pointer (some ⟨1, 28, none⟩)])) := by
    rw [World.cell?_alloc_lt _ _ ⟨0, 0, none⟩ (by simp), World.cell?_alloc_lt _ _ ⟨0, 0, none⟩ hlt]; exact hg
  have htl : t.block < w.heap.size := by
    rcases Nat.lt_or_ge t.block w.heap.size with h | h
    · exact h
    · simp [World.cell?, Array.getElem?_eq_none h] at ht0
  have el := elemV155 ⟨w.heap.size, 0, none⟩ t (((w.alloc (.cells #[.pointer (some t)] 155)).alloc (.cells #[.pointer (some ⟨1, 155, none⟩), .pointer (some ⟨w.heap.size, 0, none⟩), .int .u64 150] 220)).alloc (.cells #[.pointer (some ⟨1, 155, none⟩), .pointer (some ⟨w.heap.size, 0, none⟩), .int .u64 150] 220)) (by rw [World.cell?_alloc_lt _ _ ⟨w.heap.size, 0, none⟩ (by simp; omega)]; simp)
  have st := set96 t ⟨w.heap.size + 1 + 1 + 1, 0, none⟩ e old ((((w.alloc (.cells #[.pointer (some t)] 155)).alloc (.cells #[.pointer (some ⟨1, 155, none⟩), .pointer (some ⟨w.heap.size, 0, none⟩), .int .u64 150] 220)).alloc (.cells #[.pointer (some ⟨1, 155, none⟩), .pointer (some ⟨w.heap.size, 0, none⟩), .int .u64 150] 220)).alloc (.cells #[.pointer (some e)] 96))
    (by rw [World.cell?_alloc_at _ _ _ _ (by simp)]; rfl)
    (by rw [World.cell?_alloc_lt _ _ t (by simp; omega), World.cell?_alloc_lt _ _ t (by simp; omega), World.cell?_alloc_lt _ _ t (by simp; omega), World.cell?_alloc_lt _ _ t htl]; exact ht0)
    (by rw [World.frozen?_alloc_old _ _ t (by simp; omega), World.frozen?_alloc_old _ _ t (by simp; omega), World.frozen?_alloc_old _ _ t (by simp; omega), World.frozen?_alloc_old _ _ t (Nat.ne_of_lt htl)]; exact hf0)
  go_enter Tryz.func84, Tryz.ntmps84
  go_wp2
  refine wp_loop_rounds 1 ?_
  rw [rounds_succ]
  go_wp2
  go_ret
  exact ⟨rfl, rfl⟩
set_option maxHeartbeats 4000000 in
theorem as_38_156 (e : Int) (t : Addr) (old : Value) (w : World) (hg : w.cell? ⟨0, 0, none⟩ = some (.iface 170 (.agg #[.pointer (some ⟨1, 28, none⟩)]))) (ht0 : w.cell? t = some old) (hf0 : w.frozen? t = false) :
    Calls Tryz.prog 84 #[.iface 38 (.int .i64 e), .iface 156 (.pointer (some t))] w fun ev w' => ev = .returned (.bool true) ∧ w' = ((((w.alloc (.cells #[.pointer (some t)] 156)).alloc (.cells #[.pointer (some ⟨1, 156, none⟩), .pointer (some ⟨w.heap.size, 0, none⟩), .int .u64 150] 220)).alloc (.cells #[.pointer (some ⟨1, 156, none⟩), .pointer (some ⟨w.heap.size, 0, none⟩), .int .u64 150] 220)).alloc (.cells #[.int .i64 e] 38)).setCell t (.int .i64 e) := by
  have xTypeOf := @run_callFunc_extern Tryz.prog 49 _ ReflectliteType.typeOf Tryz.func49 (by kernel_rfl) (by kernel_rfl) (by kernel_rfl) (by kernel_rfl)
  have xValueOf := @run_callFunc_extern Tryz.prog 119 _ (fun args => ReflectliteValue.unpack (args.getD 0 (.tuple #[]))) Tryz.func119 (by kernel_rfl) (by kernel_rfl) (by kernel_rfl) (by kernel_rfl)
  have xType := @run_callFunc_extern Tryz.prog 120 _ (ReflectliteValue.methodAny (ReflectliteValue.valueError "reflectlite.Value.Type" 0) (fun t _ _ _ => ReflectliteType.toType t)) Tryz.func120 (by kernel_rfl) (by kernel_rfl) (by kernel_rfl) (by kernel_rfl)
  have xIsNil := @run_callFunc_extern Tryz.prog 121 _ (ReflectliteValue.method (ReflectliteValue.valueError "reflectlite.Value.IsNil" 0) ReflectliteValue.isNil) Tryz.func121 (by kernel_rfl) (by kernel_rfl) (by kernel_rfl) (by kernel_rfl)
  have xVElem := @run_callFunc_extern Tryz.prog 153 _ (ReflectliteValue.method (ReflectliteValue.valueError "reflectlite.Value.Elem" 0) ReflectliteValue.elem) Tryz.func153 (by kernel_rfl) (by kernel_rfl) (by kernel_rfl) (by kernel_rfl)
  have xSet := @run_callFunc_extern Tryz.prog 154 _ ReflectliteValue.set Tryz.func154 (by kernel_rfl) (by kernel_rfl) (by kernel_rfl) (by kernel_rfl)
  have xKind := @run_callFunc_extern Tryz.prog 185 _ (ReflectliteType.abiMethod fun t => do pure (.int .u8 (← Rtype.kind t))) Tryz.func185 (by kernel_rfl) (by kernel_rfl) (by kernel_rfl) (by kernel_rfl)
  have xRElem := @run_callFunc_extern Tryz.prog 196 _ (ReflectliteType.method ReflectliteType.elem) Tryz.func196 (by kernel_rfl) (by kernel_rfl) (by kernel_rfl) (by kernel_rfl)
  have xRImplements := @run_callFunc_extern Tryz.prog 197 _ (ReflectliteType.relation "Implements" ReflectliteType.implements_) Tryz.func197 (by kernel_rfl) (by kernel_rfl) (by kernel_rfl) (by kernel_rfl)
  have xRAssignableTo := @run_callFunc_extern Tryz.prog 194 _ (ReflectliteType.relation "AssignableTo" ReflectliteType.assignableTo) Tryz.func194 (by kernel_rfl) (by kernel_rfl) (by kernel_rfl) (by kernel_rfl)
  have tO := typeOf38
  have mA := methodAssignableTo
  have aE := assignable38_38
  have vE := valueOf38
  have f6 := valueOf156
  have f7 := type156
  have mK := methodKind
  have mE := methodElem
  have mI := methodImplements
  have kT := kind156
  have kE := kind38
  have eT := elem156
  have iE := implements38
  have n8 := isNil156 ⟨w.heap.size, 0, none⟩ t ((w.alloc (.cells #[.pointer (some t)] 156)).alloc (.cells #[.pointer (some ⟨1, 156, none⟩), .pointer (some ⟨w.heap.size, 0, none⟩), .int .u64 150] 220)) (by simp)
  have hlt : 0 < w.heap.size := by
    rcases Nat.lt_or_ge 0 w.heap.size with h | h
    · exact h
    · simp [World.cell?, Array.getElem?_eq_none h] at hg
  have hg2 : ((w.alloc (.cells #[.pointer (some t)] 156)).alloc (.cells #[.pointer (some ⟨1, 156, none⟩), .pointer (some ⟨w.heap.size, 0, none⟩), .int .u64 150] 220)).cell? ⟨0, 0, none⟩ = some (.iface 170 (.agg #[.pointer (some ⟨1, 28, none⟩)])) := by
    rw [World.cell?_alloc_lt _ _ ⟨0, 0, none⟩ (by simp), World.cell?_alloc_lt _ _ ⟨0, 0, none⟩ hlt]; exact hg
  have htl : t.block < w.heap.size := by
    rcases Nat.lt_or_ge t.block w.heap.size with h | h
    · exact h
    · simp [World.cell?, Array.getElem?_eq_none h] at ht0
  have el := elemV156 ⟨w.heap.size, 0, none⟩ t (((w.alloc (.cells #[.pointer (some t)] 156)).alloc (.cells #[.pointer (some ⟨1, 156, none⟩), .pointer (some ⟨w.heap.size, 0, none⟩), .int .u64 150] 220)).alloc (.cells #[.pointer (some ⟨1, 156, none⟩), .pointer (some ⟨w.heap.size, 0, none⟩), .int .u64 150] 220)) (by rw [World.cell?_alloc_lt _ _ ⟨w.heap.size, 0, none⟩ (by simp; omega)]; simp)
  have st := set38 t ⟨w.heap.size + 1 + 1 + 1, 0, none⟩ e old ((((w.alloc (.cells #[.pointer (some t)] 156)).alloc (.cells #[.pointer (some ⟨1, 156, none⟩), .pointer (some ⟨w.heap.size, 0, none⟩), .int .u64 150] 220)).alloc (.cells #[.pointer (some ⟨1, 156, none⟩), .pointer (some ⟨w.heap.size, 0, none⟩), .int .u64 150] 220)).alloc (.cells #[.int .i64 e] 38))
    (by rw [World.cell?_alloc_at _ _ _ _ (by simp)]; rfl)
    (by rw [World.cell?_alloc_lt _ _ t (by simp; omega), World.cell?_alloc_lt _ _ t (by simp; omega), World.cell?_alloc_lt _ _ t (by simp; omega), World.cell?_alloc_lt _ _ t htl]; exact ht0)
    (by rw [World.frozen?_alloc_old _ _ t (by simp; omega), World.frozen?_alloc_old _ _ t (by simp; omega), World.frozen?_alloc_old _ _ t (by simp; omega), World.frozen?_alloc_old _ _ t (Nat.ne_of_lt htl)]; exact hf0)
  go_enter Tryz.func84, Tryz.ntmps84
  go_wp2
  refine wp_loop_rounds 1 ?_
  rw [rounds_succ]
  go_wp2
  go_ret
  exact ⟨rfl, rfl⟩
set_option maxHeartbeats 4000000 in
theorem as_38_155 (e : Int) (t : Addr) (old : Value) (w : World) (hg : w.cell? ⟨0, 0, none⟩ = some (.iface 170 (.agg #[.pointer (some ⟨1, 28, none⟩)]))) (ht0 : w.cell? t = some old) (_hf0 : w.frozen? t = false) :
    Calls Tryz.prog 84 #[.iface 38 (.int .i64 e), .iface 155 (.pointer (some t))] w fun ev w' => ev = .returned (.bool false) ∧ w' = (((w.alloc (.cells #[.pointer (some t)] 155)).alloc (.cells #[.pointer (some ⟨1, 155, none⟩), .pointer (some ⟨w.heap.size, 0, none⟩), .int .u64 150] 220)).alloc (.cells #[.pointer (some ⟨1, 155, none⟩), .pointer (some ⟨w.heap.size, 0, none⟩), .int .u64 150] 220)) := by
  have xTypeOf := @run_callFunc_extern Tryz.prog 49 _ ReflectliteType.typeOf Tryz.func49 (by kernel_rfl) (by kernel_rfl) (by kernel_rfl) (by kernel_rfl)
  have xValueOf := @run_callFunc_extern Tryz.prog 119 _ (fun args => ReflectliteValue.unpack (args.getD 0 (.tuple #[]))) Tryz.func119 (by kernel_rfl) (by kernel_rfl) (by kernel_rfl) (by kernel_rfl)
  have xType := @run_callFunc_extern Tryz.prog 120 _ (ReflectliteValue.methodAny (ReflectliteValue.valueError "reflectlite.Value.Type" 0) (fun t _ _ _ => ReflectliteType.toType t)) Tryz.func120 (by kernel_rfl) (by kernel_rfl) (by kernel_rfl) (by kernel_rfl)
  have xIsNil := @run_callFunc_extern Tryz.prog 121 _ (ReflectliteValue.method (ReflectliteValue.valueError "reflectlite.Value.IsNil" 0) ReflectliteValue.isNil) Tryz.func121 (by kernel_rfl) (by kernel_rfl) (by kernel_rfl) (by kernel_rfl)
  have xKind := @run_callFunc_extern Tryz.prog 185 _ (ReflectliteType.abiMethod fun t => do pure (.int .u8 (← Rtype.kind t))) Tryz.func185 (by kernel_rfl) (by kernel_rfl) (by kernel_rfl) (by kernel_rfl)
  have xRElem := @run_callFunc_extern Tryz.prog 196 _ (ReflectliteType.method ReflectliteType.elem) Tryz.func196 (by kernel_rfl) (by kernel_rfl) (by kernel_rfl) (by kernel_rfl)
  have xRImplements := @run_callFunc_extern Tryz.prog 197 _ (ReflectliteType.relation "Implements" ReflectliteType.implements_) Tryz.func197 (by kernel_rfl) (by kernel_rfl) (by kernel_rfl) (by kernel_rfl)
  have xRAssignableTo := @run_callFunc_extern Tryz.prog 194 _ (ReflectliteType.relation "AssignableTo" ReflectliteType.assignableTo) Tryz.func194 (by kernel_rfl) (by kernel_rfl) (by kernel_rfl) (by kernel_rfl)
  have tO := typeOf38
  have mA := methodAssignableTo
  have aE := assignable38_96
  have f6 := valueOf155
  have f7 := type155
  have mK := methodKind
  have mE := methodElem
  have mI := methodImplements
  have kT := kind155
  have kE := kind96
  have eT := elem155
  have iE := implements96
  have n8 := isNil155 ⟨w.heap.size, 0, none⟩ t ((w.alloc (.cells #[.pointer (some t)] 155)).alloc (.cells #[.pointer (some ⟨1, 155, none⟩), .pointer (some ⟨w.heap.size, 0, none⟩), .int .u64 150] 220)) (by simp)
  have hlt : 0 < w.heap.size := by
    rcases Nat.lt_or_ge 0 w.heap.size with h | h
    · exact h
    · simp [World.cell?, Array.getElem?_eq_none h] at hg
  have hg2 : ((w.alloc (.cells #[.pointer (some t)] 155)).alloc (.cells #[.pointer (some ⟨1, 155, none⟩), .pointer (some ⟨w.heap.size, 0, none⟩), .int .u64 150] 220)).cell? ⟨0, 0, none⟩ = some (.iface 170 (.agg #[.pointer (some ⟨1, 28, none⟩)])) := by
    rw [World.cell?_alloc_lt _ _ ⟨0, 0, none⟩ (by simp), World.cell?_alloc_lt _ _ ⟨0, 0, none⟩ hlt]; exact hg
  have htl : t.block < w.heap.size := by
    rcases Nat.lt_or_ge t.block w.heap.size with h | h
    · exact h
    · simp [World.cell?, Array.getElem?_eq_none h] at ht0
  have no257 : ∀ (v : Value) (xT : TypeId) (w : World), (Instr.typeAssert (.iface 38 v) xT 257 true).run Tryz.prog w = .ok (.tuple #[.nilIface, .bool false]) w := fun v xT w => run_typeAssert_lacksB Tryz.underlying257 (by kernel_rfl) (by kernel_rfl) v xT w
  have no175 : ∀ (v : Value) (xT : TypeId) (w : World), (Instr.typeAssert (.iface 38 v) xT 175 true).run Tryz.prog w = .ok (.tuple #[.nilIface, .bool false]) w := fun v xT w => run_typeAssert_lacksB Tryz.underlying175 (by kernel_rfl) (by kernel_rfl) v xT w
  have no177 : ∀ (v : Value) (xT : TypeId) (w : World), (Instr.typeAssert (.iface 38 v) xT 177 true).run Tryz.prog w = .ok (.tuple #[.nilIface, .bool false]) w := fun v xT w => run_typeAssert_lacksB Tryz.underlying177 (by kernel_rfl) (by kernel_rfl) v xT w
  go_enter Tryz.func84, Tryz.ntmps84
  go_wp2
  refine wp_loop_rounds 1 ?_
  rw [rounds_succ]
  go_wp2
  go_ret
  exact ⟨rfl, rfl⟩
theorem comparable38 (w : World) : ((ReflectliteType.method fun t => do Rtype.noPackHeld "Comparable" t; (fun a => Value.bool a.comparable) <$> typeInfo t) #[.agg #[.pointer (some ⟨1, 38, none⟩)]]).run Tryz.prog w = .ok (.bool true) w := by kernel_rfl
theorem is_nil (n : Int) (w : World) : Calls Tryz.prog 13 #[.nilIface, .iface 38 (.int .i64 n)] w fun e w' => e = .returned (.bool false) ∧ w' = w := by
  have hn := run_eql_iface_nil_left (P := Tryz.prog) w 38 (.int .i64 n) Tryz.underlying28
  go_enter Tryz.func13, Tryz.ntmps13
  go_wp2
  go_ret
  exact ⟨rfl, rfl⟩
theorem is_open (a : TypeId) (b : Value) (n : Int) (w : World) (R : Value → World → Prop) (h : Calls Tryz.prog 50 #[.iface a b, .iface 38 (.int .i64 n), .bool true] w fun e w' => ∃ cv, e = .returned cv ∧ R cv w') :
    Calls Tryz.prog 13 #[.iface a b, .iface 38 (.int .i64 n)] w fun e w' => ∃ cv, e = .returned cv ∧ R cv w' := by
  have xTypeOf := @run_callFunc_extern Tryz.prog 49 _ ReflectliteType.typeOf Tryz.func49 (by kernel_rfl) (by kernel_rfl) (by kernel_rfl) (by kernel_rfl)
  have xRComparable := @run_callFunc_extern Tryz.prog 195 _ (ReflectliteType.method fun t => do Rtype.noPackHeld "Comparable" t; pure (.bool (← typeInfo t).comparable)) Tryz.func195 (by kernel_rfl) (by kernel_rfl) (by kernel_rfl) (by kernel_rfl)
  have tT := typeOf38
  have cT := comparable38
  have mR := methodComparable
  go_enter Tryz.func13, Tryz.ntmps13
  go_wp2_with (fail)
  refine h.mono fun e w' he => ?_
  obtain ⟨cv, rfl, hR⟩ := he
  go_wp2
  go_ret
  exact ⟨cv, rfl, hR⟩
end Go.Eng.Z

