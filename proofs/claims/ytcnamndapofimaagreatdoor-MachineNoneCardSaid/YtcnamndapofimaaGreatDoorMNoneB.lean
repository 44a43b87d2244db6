/- 'MachineNone' returns true: reckoned by the engine, which is proved sound; the card. -/
import Derived.Test.YtcnamndapofimaaGreatDoorCards
import Derived.Test.YtcnamndapofimaaGreatDoorTie
import Derived.WalkKit
import Derived.ProofKit
import Derived.OpenShut
import Derived.Deep.DeepHandedRow
import Derived.Lib.LaidTab
import Derived.LaidHandle
import Derived.LaidLaws
import Derived.Test.YtcnamndapofimaaGreatDoorJoinB
import Derived.Test.YtcnamndapofimaaGreatDoorEvMNone
namespace Go.Proofs.YtcnamndapofimaaGreatDoor.machineNone
open Go Go.ChangeShapes Go.WideShapes Go.ChangeAt Go.RowKit

/-- What the list gives a walk: the variable's one cell. -/
theorem handle_of_laid {W : World} (h : laidMetH Tryz.prog Rows.machineNoneRow.laid W) : W.cell? ⟨0, 0, none⟩ = some (.iface 290 (.agg #[.pointer (some ⟨1, 30, none⟩)])) := by
  have h' : laidMet Tryz.prog [] W ∧ handlesMet Tryz.prog Rows.machineNoneRow.laid W := h
  obtain ⟨name, u, ty, e1, e2, e3, e4, e5⟩ := h'.2 _ (List.mem_singleton.2 rfl)
  have en : name = [101, 114, 114, 111, 114] := (Option.some.inj e1).symm
  subst en
  obtain rfl := Option.some.inj (rt.symm.trans e2)
  have hm : ty ∈ (List.range 546).filter fun t => Tryz.prog.rowNamed t [101, 114, 114, 111, 114] := List.mem_filter.2 ⟨List.mem_range.2 (by rw [← size]; exact e3), e4⟩
  rw [oneRow] at hm
  obtain rfl := List.mem_singleton.1 hm
  have hh : typeHandle Tryz.prog 30 = .pointer (some ⟨1, 30, none⟩) := by kernel_rfl
  rw [hh] at e5
  simpa using World.var?_cell et e5 0

theorem walk (W : World) (hg : W.cell? ⟨0, 0, none⟩ = some (.iface 290 (.agg #[.pointer (some ⟨1, 30, none⟩)]))) : Calls Tryz.prog 4 #[] W fun e w' => e = .returned (.bool true) ∧ Grown W w' := by
  obtain ⟨H', hH⟩ := Eng.B.yes_ok Eng.B.evMNone
  letI : Eng.Base := ⟨W⟩
  exact (Eng.eng_calls (Eng.ctxOf_ok _ _) (namesOk _) (Eng.hookT_ok (Eng.B.hook_ok hg) (Eng.B.esMNone_ok ⟨Eng.B.hook_ok hg, namesOk, follows⟩)) follows hH (fun _ => .nil) W rfl).mono fun e w' h => ⟨h.1, grown_of h.2⟩

set_option maxRecDepth 100000 in
theorem contract (H : Type) (enc : TypeId × Value → H) (W : World) (_base : Nat) (args : Array Value) (ds gs : List (DataW H)) (before : List MemPlace)
    (hW : DataW.Whole enc Tryz.prog Tryz.f4.params.toList Rows.machineNoneSpec.vars false W args.toList ds gs before) (hL : laidMetH Tryz.prog Rows.machineNoneRow.laid W) :
    Calls Tryz.prog 4 args W fun e W' => ∃ v, e = .returned v ∧ Rows.machineNoneSpec.post enc Tryz.prog Tryz.f4 false true false false W args v W' := by
  have hW' := hW
  obtain ⟨p, q, hA0, hV, rfl, hfz, hnd⟩ := hW
  have hA : DataW.TrodAll enc Tryz.prog W 0 (fun _ => true) true Tryz.f4.params.toList args.toList ds p := hA0
  rw [Tryz.params4] at hA
  obtain ⟨h1, rfl, rfl⟩ := trodAll_nil hA
  obtain rfl : args = #[] := by cases args; simp_all
  obtain ⟨rfl, rfl⟩ := trodVars_none hV
  clear hA0
  simp only [List.append_nil] at hW'
  refine (walk W (handle_of_laid hL)).mono fun e W' ⟨he, hg⟩ => ?_
  subst he
  exact ⟨_, rfl, post_of_same (pa := []) (pv := []) hW' (fun _ _ _ => trodAll_cons_mk (shut_bool Tryz.underlying4 _) trodAll_mk0) (fun _ _ => trodAll_mk0) (fun _ _ => rfl) rfl
    (hg.frame _) hg.2.1 (ok_one (by kernel_rfl) rfl (okWide_bool_mk Tryz.underlying4 _))⟩

/-- A world for the witness: the settled one, the variable's cell laid. -/
noncomputable def laidWorld (os : Os) : World :=
  { World.holding Tryz.prog os ⟨#[], #[], []⟩ with heap := (World.holding Tryz.prog os ⟨#[], #[], []⟩).heap.modify 0 fun
      | .cells _ t frozen => .cells #[.iface 290 (.agg #[.pointer (some ⟨1, 30, none⟩)])] t frozen
      | o => o }
theorem laid_met (os : Os) : laidMetH Tryz.prog Rows.machineNoneRow.laid ((laidWorld os).forCall (fun _ _ => 0) ⟨#[], #[], []⟩).memory :=
  laidMetH_of_parts (laidMet_nil _ _) (by kernel_rfl)
theorem reads (os : Os) {H : Type} (enc : TypeId × Value → H) : ∃ places, DataW.whole enc Tryz.prog ((laidWorld os).forCall (fun _ _ => 0) ⟨#[], #[], []⟩).memory Tryz.f4.params.toList Rows.machineNoneSpec.vars false (#[] : Array Value).toList 8 = some ([], [], places) :=
  ⟨[], by kernel_rfl⟩

set_option maxRecDepth 100000 in
theorem lifted (os : Os) (started : os.Started) (H : Type) (enc : TypeId × Value → H) (F : Stop.Interp) :
    ReturnsInHanded {} Tryz.checked os 4 .any ((OpenSpec.ofChange Rows.machineNoneSpec).preRow enc Tryz.prog Tryz.f4 Rows.machineNoneRow.domain false Rows.machineNoneRow.laid) (((OpenSpec.ofChange Rows.machineNoneSpec).at F).post enc Tryz.prog Tryz.f4 false true false false) := by
  obtain ⟨places, hx⟩ := reads os enc
  refine returnsInHanded_of_row (C := Tryz.checked) (s := OpenSpec.ofChange Rows.machineNoneSpec) own started (by kernel_rfl) Tryz.func4
    (witness_row_at (enc := enc) (C := Tryz.checked) false (laidWorld os) #[] rfl (by kernel_rfl) (by kernel_rfl) (by kernel_rfl)
      (OpenSpec.preRow_of_cond 8 hx (by kernel_rfl) (fun k hk => by cases hk) (by kernel_rfl) (laid_met os))) ?_
  intro W base args ds gs before hval hW _ _ _ hL _ _
  exact contract H enc W base args ds gs before hW hL

theorem j4 : (Tryz.f4.params.all (Tryz.prog.readableRec ·) && namedTie Tryz.prog Rows.machineNoneRow.named Rows.machineNoneSpec.vars && (Rows.machineNoneRow.stops == []) && (Tryz.prog.stops == []) && (Rows.machineNoneRow.knobs == []) && (Tryz.prog.stopKnobs == [])) = true := by kernel_rfl
theorem j5 : (Rows.machineNoneRow.inPlace == Tryz.prog.inPlace 4) = true := by kernel_rfl
theorem j6 : (Rows.machineNoneRow.unfollowed == Tryz.prog.unfollowed 4) = true := by kernel_rfl
theorem j7 : (Rows.machineNoneRow.recurses == Tryz.prog.recurses 4) = true := by kernel_rfl
theorem j8 : (Rows.machineNoneRow.named == Tryz.prog.varsNamed 4) = true := by kernel_rfl
theorem j9 : ((Rows.machineNoneRow.maps == (Tryz.f4.params.toList ++ Rows.machineNoneSpec.plain.varTypes Tryz.prog).any (Tryz.prog.mapsRec ·)) && (Rows.machineNoneRow.ifaces == (Tryz.f4.params.toList ++ Rows.machineNoneSpec.plain.varTypes Tryz.prog).any (Tryz.prog.ifacesRec ·)) && (Rows.machineNoneRow.mapsOut == Tryz.prog.mapsAmong Tryz.f4.resultTypes.toList)) = true := by kernel_rfl
theorem j10 : ((Rows.machineNoneRow.loops == (Tryz.f4.params.toList ++ Rows.machineNoneSpec.plain.varTypes Tryz.prog).any (Tryz.prog.loopsFrom ·)) && (Rows.machineNoneRow.wideKeys == (Tryz.f4.params.toList ++ Rows.machineNoneSpec.plain.varTypes Tryz.prog ++ Tryz.f4.resultTypes.toList).any (Tryz.prog.wideKeysFrom ·))) = true := by kernel_rfl
theorem j11 : (Rows.machineNoneSpec.vars.all (Tryz.prog.varReadable ·) && Tryz.f4.resultTypes.all (fun t => Tryz.prog.readableRec t && decide (t < Tryz.prog.types.size)) && (Rows.machineNoneRow.ifacesOut == Tryz.f4.resultTypes.toList.any (Tryz.prog.ifacesRec ·)) && (Rows.machineNoneRow.loopsOut == Tryz.f4.resultTypes.toList.any (Tryz.prog.loopsFrom ·))) = true := by kernel_rfl
theorem j16 : (Rows.machineNoneRow.shortTexts.isNone && (Tryz.prog.make == some Rows.machineNoneRow.make) && (Rows.machineNoneRow.kinds == (if Rows.machineNoneRow.domain.isEmpty then [] else Tryz.f4.params.toList.map fun t => match Tryz.prog.underlying t with | some (.int k) => some k | _ => none)) && (Rows.machineNoneRow.pinned == Rows.machineNoneRow.pinnedBy)) = true := by kernel_rfl
theorem j17 : ((Rows.machineNoneRow.veiled == (Tryz.f4.params.toList ++ Rows.machineNoneSpec.plain.varTypes Tryz.prog ++ Tryz.f4.resultTypes.toList).any (Tryz.prog.veiledRec ·)) && Rows.machineNoneRow.veiledFits Tryz.prog Tryz.f4.params.toList (Tryz.f4.params.toList ++ Rows.machineNoneSpec.plain.varTypes Tryz.prog ++ Tryz.f4.resultTypes.toList)) = true := by kernel_rfl
set_option maxRecDepth 100000 in
theorem joined : joinedFacts Tryz.prog 4 Tryz.f4 Rows.machineNoneSpec Rows.machineNoneRow = true := joined_of (by kernel_rfl) laidOut rowed j4 j5 j6 j7 j8 j9 j10 j11 keys rfl heard enter lifts rfl j16 j17
theorem named : Tryz.prog.funcNamed Rows.machineNoneRow.func = some 4 := by kernel_rfl
theorem inst : Tryz.f4.isInstance Tryz.prog Rows.machineNoneRow.origin Rows.machineNoneRow.targs := of_decide_eq_true (by kernel_rfl)
theorem wrap : Tryz.f4.isWrapper Tryz.prog Rows.machineNoneRow.wrapper Rows.machineNoneRow.mainSum := by unfold Func.isWrapper; first | (rw [if_pos (by decide +kernel)]; kernel_rfl) | (rw [if_neg (by decide +kernel)]; exact ⟨rfl, rfl⟩)
set_option maxRecDepth 100000 in
theorem said : Rows.MachineNoneSaid :=
  OpenClaim.holds_of_cond 4 Tryz.f4 rfl rfl rfl rfl rfl rfl rfl ⟨rfl, rfl, rfl, rfl, rfl⟩ rfl rfl rfl rfl rfl named Tryz.func4 joined inst wrap
    (fun os started H enc _ F => by rw [OpenClaim.pre_eq_preRow]; exact lifted os started H enc F)

theorem plain (f : FuncId) (fn : Func) (hf : Tryz.pinned.checked.prog.funcNamed "ropewalk/ropewalklaw15.MachineNone" = some f) (hfn : Tryz.pinned.checked.prog.funcs[f]? = some fn) :
    true = Tryz.pinned.checked.prog.looks [] ∧ ∀ (j : Nat) t, fn.params[j]? = some t → Tryz.pinned.checked.prog.wantsStandIn t = false := by
  obtain rfl : f = 4 := Option.some.inj ((show Tryz.prog.funcNamed "ropewalk/ropewalklaw15.MachineNone" = some 4 by kernel_rfl).symm.trans hf) |>.symm
  obtain rfl : fn = Tryz.f4 := (Option.some.inj (Tryz.func4.symm.trans hfn)).symm
  refine ⟨by kernel_rfl, fun j t ht => ?_⟩
  rw [Tryz.params4] at ht
  simp at ht

/-- THE CARD. -/
theorem card : Rows.MachineNoneCardSaid :=
  Claim7.holds_tied_plain_at .later [] _ _ _ _ said (fun _ h => by cases h) (by kernel_rfl) (fun _ h => by cases h) machineNone_row_tie rfl ⟨rfl, rfl⟩ (by kernel_rfl) rfl plain (by kernel_rfl)
end Go.Proofs.YtcnamndapofimaaGreatDoor.machineNone
