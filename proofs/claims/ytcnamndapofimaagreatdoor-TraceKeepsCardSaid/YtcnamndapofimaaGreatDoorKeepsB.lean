/- 'TraceKeeps' returns true: for every input: walked by the engine's rules, which are proved; the card. -/
import Derived.Test.YtcnamndapofimaaGreatDoorCards
import Derived.Test.YtcnamndapofimaaGreatDoorTie
import Derived.WalkKit
import Derived.ProofKit
import Derived.OpenShut
import Derived.Deep.DeepHandedRow
import Derived.Lib.LaidTab
import Derived.LaidHandle
import Derived.LaidLaws
import Derived.Test.YtcnamndapofimaaGreatDoorJoinB
import Derived.Test.YtcnamndapofimaaGreatDoorRgP
import Derived.Test.YtcnamndapofimaaGreatDoorArgs
import Derived.Test.YtcnamndapofimaaGreatDoorRgS
namespace Go.Proofs.YtcnamndapofimaaGreatDoor.traceKeeps
open Go Go.ChangeShapes Go.WideShapes Go.ChangeAt Go.RowKit

/-- What the list gives a walk: the variable's one cell. -/
theorem handle_of_laid {W : World} (h : laidMetH Tryz.prog Rows.traceKeepsRow.laid W) : W.cell? ⟨0, 0, none⟩ = some (.iface 290 (.agg #[.pointer (some ⟨1, 30, none⟩)])) := by
  have h' : laidMet Tryz.prog [] W ∧ handlesMet Tryz.prog Rows.traceKeepsRow.laid W := h
  obtain ⟨name, u, ty, e1, e2, e3, e4, e5⟩ := h'.2 _ (List.mem_singleton.2 rfl)
  have en : name = [101, 114, 114, 111, 114] := (Option.some.inj e1).symm
  subst en
  obtain rfl := Option.some.inj (rt.symm.trans e2)
  have hm : ty ∈ (List.range 546).filter fun t => Tryz.prog.rowNamed t [101, 114, 114, 111, 114] := List.mem_filter.2 ⟨List.mem_range.2 (by rw [← size]; exact e3), e4⟩
  rw [oneRow] at hm
  obtain rfl := List.mem_singleton.1 hm
  have hh : typeHandle Tryz.prog 30 = .pointer (some ⟨1, 30, none⟩) := by kernel_rfl
  rw [hh] at e5
  simpa using World.var?_cell et e5 0

theorem under3 : Tryz.prog.underlying 3 = some (.int .i64) := by kernel_rfl
theorem under68 : Tryz.prog.underlying 68 = some (.slice 77) := by kernel_rfl
theorem under26 : Tryz.prog.underlying 26 = some (.slice 3) := by kernel_rfl
theorem st77 : Eng.isStruct2 Tryz.prog 77 3 0 26 1 = true := by kernel_rfl
theorem cells77 : Tryz.prog.cellsOf 77 = 2 := by kernel_rfl
theorem cells3 : Tryz.prog.cellsOf 3 = 1 := by kernel_rfl
theorem cells26 : Tryz.prog.cellsOf 26 = 1 := by kernel_rfl
theorem bytes3 : Tryz.prog.bytesOf 3 = 8 := by kernel_rfl
theorem bytes77 : Tryz.prog.bytesOf 77 = 32 := by kernel_rfl
set_option maxRecDepth 100000 in
/-- A list of entries, read at the start. -/
theorem fds_read {W : World} {H : Type} {enc : TypeId × Value → H} {base : Nat} {v : Value} {d : DataW H} {ps : List MemPlace} (hok : Value.okWide Tryz.prog W .any base 68 v) (h : DataW.Trod enc Tryz.prog W 0 (fun _ => true) true 68 v d ps)
    (hB : ∀ n ∈ d.weights Tryz.prog 68, n ≤ reachBytes) : ∃ l, Eng.R.FdsAt (Eng.startH W) (W.heap.size + 1) (Eng.absA W v) l ∧ l.length * 32 ≤ 140737488355328 := by
  obtain ⟨a, n, c, rfl⟩ := Eng.okWide_slice under68 hok
  obtain ⟨fuel, h⟩ := h
  obtain ⟨fs, f0, f1, u1, u2, u3, u4⟩ := Eng.struct2_of st77
  obtain ⟨l, l1, l2⟩ := Eng.R.fds_start (B := reachBytes) (v := .slice a n c) under68 u1 u2 u3 u4 cells77 cells3 cells26 under3 under26 bytes3 bytes77 h hB (by unfold reachBytes; omega)
  exact ⟨l, l1, Nat.le_trans l2 (by unfold reachBytes; omega)⟩
set_option maxRecDepth 100000 in
/-- A number, read at the start. -/
theorem int_read {W : World} {H : Type} {enc : TypeId × Value → H} {base : Nat} {v : Value} {d : DataW H} {ps : List MemPlace} (hok : Value.okWide Tryz.prog W .any base 3 v) (h : DataW.Trod enc Tryz.prog W 0 (fun _ => true) true 3 v d ps) : ∃ n, v = .int .i64 n ∧ Eng.inI64 n := by
  obtain ⟨n, rfl⟩ := Eng.okWide_int under3 hok
  obtain ⟨fuel, h⟩ := h
  obtain ⟨m, m1, m2, _⟩ := Eng.trod_int under3 h
  cases m1
  exact ⟨n, rfl, Eng.wf_i64 m2⟩
theorem walk (W : World) (n0 : Int) (h0 : Eng.inI64 n0) (v1 : Value) (l1 : List Eng.R.Fd) (h1 : Eng.R.FdsAt (Eng.startH W) (W.heap.size + 1) (Eng.absA W v1) l1) (b1 : l1.length * 32 ≤ 140737488355328) (hg : W.cell? ⟨0, 0, none⟩ = some (.iface 290 (.agg #[.pointer (some ⟨1, 30, none⟩)]))) : Calls Tryz.prog 5 #[.int .i64 n0, v1] W fun e w' => e = .returned (.bool true) ∧ Grown W w' ∧ Below W.heap.size W w' := by
  refine (Eng.FW.calls (C := Eng.R.C) (b := true) (Eng.ctxOf_ok _ _) (namesOk _) (fun {_} hw => Eng.hookT_ok (Eng.B.hook_ok (by rw [hw]; exact hg)) (Eng.AllOk.cons (Eng.B.eAwake_ok ⟨Eng.B.hook_ok (by rw [hw]; exact hg), namesOk, follows⟩) Eng.AllOk.nil)) follows rfl ?_).mono fun e w' h => ⟨h.1, grown_of h.2, ⟨h.2.2.2.1.1, h.2.2.2.1.2.2, h.2.2.2.1.2.1, h.2.1, h.2.2.1⟩⟩
  exact Eng.R.traceKeeps_ok Eng.startH_wf (N := W.heap.size + 1) (by omega) (by exact Nat.le_refl _) h0.1 h0.2 h1 (by omega)
/-- Arguments read as they did where nothing old has turned. -/
theorem trodAll_stays {H : Type} {enc : TypeId × Value → H} {P : Program} (hl : laidOutB P = true) {W W' : World} (hb : Below W.heap.size W W') {sp : Nat → Bool} :
    ∀ {ts : List TypeId} {vs : List Value} {ds : List (DataW H)} {ps : List MemPlace}, (∀ t ∈ ts, P.readableRec t = true ∧ t < P.types.size) → DataW.TrodAll enc P W 0 (fun _ => true) true ts vs ds ps →
      (∀ x ∈ ps, x.block < W.heap.size) → (∀ x ∈ ps, sp x.block = true) → DataW.TrodAll enc P W' 0 sp true ts vs ds ps
  | [], [], [], _, _, h, _, _ => h
  | t :: ts, v :: vs, d :: ds, ps, ht, ⟨p, q, h1, h2, e⟩, hlt, hsp => by
    subst e
    exact ⟨p, q, WideElems.Trod_stays hl (ht t (by simp)).1 (ht t (by simp)).2 h1 (fun x hx => hb.same (hlt x (by simp [hx]))) (fun x hx => hsp x (by simp [hx])),
      trodAll_stays hl hb (fun t' h' => ht t' (by simp [h'])) h2 (fun x hx => hlt x (by simp [hx])) (fun x hx => hsp x (by simp [hx])), rfl⟩
set_option maxRecDepth 100000 in
theorem contract (H : Type) (enc : TypeId × Value → H) (W : World) (base : Nat) (args : Array Value) (ds gs : List (DataW H)) (before : List MemPlace)
    (hval : ∀ (j : Nat) t v, Tryz.f5.params[j]? = some t → args[j]? = some v → Value.okWide Tryz.prog W .any base t v)
    (hW : DataW.Whole enc Tryz.prog Tryz.f5.params.toList Rows.traceKeepsSpec.vars false W args.toList ds gs before)
    (hsz : (DataW.weightsEach Tryz.prog (Tryz.f5.params.toList ++ (OpenSpec.ofChange Rows.traceKeepsSpec).bare.plain.varTypes Tryz.prog) (ds ++ gs)).all (· ≤ reachBytes) = true) (hL : laidMetH Tryz.prog Rows.traceKeepsRow.laid W) :
    Calls Tryz.prog 5 args W fun e W' => ∃ v, e = .returned v ∧ Rows.traceKeepsSpec.post enc Tryz.prog Tryz.f5 false true false false W args v W' := by
  have hW' := hW
  have hlt : ∀ x ∈ before, x.block < W.heap.size := fun x hx => hW.lt x hx
  obtain ⟨p, q, hA0, hV, rfl, hfz, hnd⟩ := hW
  have hA : DataW.TrodAll enc Tryz.prog W 0 (fun _ => true) true Tryz.f5.params.toList args.toList ds p := hA0
  have hA1 := hA
  have hpar : Tryz.f5.params.toList = [3, 68] := by rw [Tryz.params5]
  rw [hpar] at hA1 hsz
  obtain ⟨v0, vs1, d0, ds1, p0, q0, ea0, eb0, ec0, k0, r0⟩ := trodAll_cons hA1
  obtain ⟨v1, vs2, d1, ds2, p1, q1, ea1, eb1, ec1, k1, r1⟩ := trodAll_cons r0
  obtain ⟨e10, e11, e12⟩ := trodAll_nil r1
  subst e10; subst e11
  obtain ⟨e13, e14⟩ := trodVars_none hV
  subst e13; subst e14
  have hargs : args = #[v0, v1] := by
    apply Array.ext'
    rw [ea0, ea1]
  have hds : ds = [d0, d1] := by rw [eb0, eb1]
  subst hargs
  subst hds
  have o0 := hval 0 3 v0 (by rw [← Array.getElem?_toList, hpar]; rfl) rfl
  obtain ⟨n0, en0, i0⟩ := int_read o0 k0
  have o1 := hval 1 68 v1 (by rw [← Array.getElem?_toList, hpar]; rfl) rfl
  obtain ⟨l1, i1, b1⟩ := fds_read o1 k1 fun x hx => Eng.all_le hsz x (Eng.weightsEach_mem (i := 1) (t := 68) (d := d1) rfl rfl x hx)
  subst en0
  refine (walk W n0 i0 v1 l1 i1 b1 (handle_of_laid hL)).mono fun e W' ⟨he, hg, hb⟩ => ?_
  subst he
  refine ⟨_, rfl, post_of_same (pa := p) (pv := []) hW' (fun _ _ _ => ?_) (fun sp hsp => ?_) (fun _ _ => ?_) rfl
    (hg.frame _) hg.2.1 (ok_one (by kernel_rfl) rfl (okWide_bool_mk Tryz.underlying4 _))⟩
  · exact trodAll_cons_mk (shut_bool Tryz.underlying4 _) trodAll_mk0
  · exact trodAll_stays laidOut hb (sp := sp) (by
      intro t ht
      rw [hpar] at ht
      simp at ht
      rcases ht with rfl | rfl
      · exact ⟨by kernel_rfl, of_decide_eq_true (by kernel_rfl)⟩
      · exact ⟨by kernel_rfl, of_decide_eq_true (by kernel_rfl)⟩) hA (fun x hx => hlt x (by simp [hx])) (fun x hx => hsp x (by simp [hx]))
  · rfl

/-- A world for the witness: the settled one, the variable's cell laid. -/
noncomputable def laidWorld (os : Os) : World :=
  { World.holding Tryz.prog os ⟨#[], #[], []⟩ with heap := (World.holding Tryz.prog os ⟨#[], #[], []⟩).heap.modify 0 fun
      | .cells _ t frozen => .cells #[.iface 290 (.agg #[.pointer (some ⟨1, 30, none⟩)])] t frozen
      | o => o }
theorem laid_met (os : Os) : laidMetH Tryz.prog Rows.traceKeepsRow.laid ((laidWorld os).forCall (fun _ _ => 0) ⟨#[], #[.int .i64 0, .slice none 0 0], []⟩).memory :=
  laidMetH_of_parts (laidMet_nil _ _) (by kernel_rfl)
theorem reads (os : Os) {H : Type} (enc : TypeId × Value → H) : ∃ places, DataW.whole enc Tryz.prog ((laidWorld os).forCall (fun _ _ => 0) ⟨#[], #[.int .i64 0, .slice none 0 0], []⟩).memory Tryz.f5.params.toList Rows.traceKeepsSpec.vars false (#[.int .i64 0, .slice none 0 0] : Array Value).toList 8 = some ([.lit (.int .i64 0), .nil], [], places) :=
  ⟨[], by kernel_rfl⟩

set_option maxRecDepth 100000 in
theorem lifted (os : Os) (started : os.Started) (H : Type) (enc : TypeId × Value → H) (F : Stop.Interp) :
    ReturnsInHanded {} Tryz.checked os 5 .any ((OpenSpec.ofChange Rows.traceKeepsSpec).preRow enc Tryz.prog Tryz.f5 Rows.traceKeepsRow.domain false Rows.traceKeepsRow.laid) (((OpenSpec.ofChange Rows.traceKeepsSpec).at F).post enc Tryz.prog Tryz.f5 false true false false) := by
  obtain ⟨places, hx⟩ := reads os enc
  refine returnsInHanded_of_row (C := Tryz.checked) (s := OpenSpec.ofChange Rows.traceKeepsSpec) own started (by kernel_rfl) Tryz.func5
    (witness_row_at (enc := enc) (C := Tryz.checked) false (laidWorld os) #[.int .i64 0, .slice none 0 0] rfl (by kernel_rfl) (by kernel_rfl) (by kernel_rfl)
      (OpenSpec.preRow_of_cond 8 hx (by kernel_rfl) (fun k hk => by cases hk) (by kernel_rfl) (laid_met os))) ?_
  intro W base args ds gs before hval hW _ _ hsz hL _ _
  exact contract H enc W base args ds gs before hval hW hsz hL

theorem j4 : (Tryz.f5.params.all (Tryz.prog.readableRec ·) && namedTie Tryz.prog Rows.traceKeepsRow.named Rows.traceKeepsSpec.vars && (Rows.traceKeepsRow.stops == []) && (Tryz.prog.stops == []) && (Rows.traceKeepsRow.knobs == []) && (Tryz.prog.stopKnobs == [])) = true := by kernel_rfl
theorem j5 : (Rows.traceKeepsRow.inPlace == Tryz.prog.inPlace 5) = true := by kernel_rfl
theorem j6 : (Rows.traceKeepsRow.unfollowed == Tryz.prog.unfollowed 5) = true := by kernel_rfl
theorem j7 : (Rows.traceKeepsRow.recurses == Tryz.prog.recurses 5) = true := by kernel_rfl
theorem j8 : (Rows.traceKeepsRow.named == Tryz.prog.varsNamed 5) = true := by kernel_rfl
theorem j9 : ((Rows.traceKeepsRow.maps == (Tryz.f5.params.toList ++ Rows.traceKeepsSpec.plain.varTypes Tryz.prog).any (Tryz.prog.mapsRec ·)) && (Rows.traceKeepsRow.ifaces == (Tryz.f5.params.toList ++ Rows.traceKeepsSpec.plain.varTypes Tryz.prog).any (Tryz.prog.ifacesRec ·)) && (Rows.traceKeepsRow.mapsOut == Tryz.prog.mapsAmong Tryz.f5.resultTypes.toList)) = true := by kernel_rfl
theorem j10 : ((Rows.traceKeepsRow.loops == (Tryz.f5.params.toList ++ Rows.traceKeepsSpec.plain.varTypes Tryz.prog).any (Tryz.prog.loopsFrom ·)) && (Rows.traceKeepsRow.wideKeys == (Tryz.f5.params.toList ++ Rows.traceKeepsSpec.plain.varTypes Tryz.prog ++ Tryz.f5.resultTypes.toList).any (Tryz.prog.wideKeysFrom ·))) = true := by kernel_rfl
theorem j11 : (Rows.traceKeepsSpec.vars.all (Tryz.prog.varReadable ·) && Tryz.f5.resultTypes.all (fun t => Tryz.prog.readableRec t && decide (t < Tryz.prog.types.size)) && (Rows.traceKeepsRow.ifacesOut == Tryz.f5.resultTypes.toList.any (Tryz.prog.ifacesRec ·)) && (Rows.traceKeepsRow.loopsOut == Tryz.f5.resultTypes.toList.any (Tryz.prog.loopsFrom ·))) = true := by kernel_rfl
theorem j16 : (Rows.traceKeepsRow.shortTexts.isNone && (Tryz.prog.make == some Rows.traceKeepsRow.make) && (Rows.traceKeepsRow.kinds == (if Rows.traceKeepsRow.domain.isEmpty then [] else Tryz.f5.params.toList.map fun t => match Tryz.prog.underlying t with | some (.int k) => some k | _ => none)) && (Rows.traceKeepsRow.pinned == Rows.traceKeepsRow.pinnedBy)) = true := by kernel_rfl
theorem j17 : ((Rows.traceKeepsRow.veiled == (Tryz.f5.params.toList ++ Rows.traceKeepsSpec.plain.varTypes Tryz.prog ++ Tryz.f5.resultTypes.toList).any (Tryz.prog.veiledRec ·)) && Rows.traceKeepsRow.veiledFits Tryz.prog Tryz.f5.params.toList (Tryz.f5.params.toList ++ Rows.traceKeepsSpec.plain.varTypes Tryz.prog ++ Tryz.f5.resultTypes.toList)) = true := by kernel_rfl
set_option maxRecDepth 100000 in
theorem joined : joinedFacts Tryz.prog 5 Tryz.f5 Rows.traceKeepsSpec Rows.traceKeepsRow = true := joined_of (by kernel_rfl) laidOut rowed j4 j5 j6 j7 j8 j9 j10 j11 keys rfl heard enter lifts rfl j16 j17
theorem named : Tryz.prog.funcNamed Rows.traceKeepsRow.func = some 5 := by kernel_rfl
theorem inst : Tryz.f5.isInstance Tryz.prog Rows.traceKeepsRow.origin Rows.traceKeepsRow.targs := of_decide_eq_true (by kernel_rfl)
theorem wrap : Tryz.f5.isWrapper Tryz.prog Rows.traceKeepsRow.wrapper Rows.traceKeepsRow.mainSum := by unfold Func.isWrapper; first | (rw [if_pos (by decide +kernel)]; kernel_rfl) | (rw [if_neg (by decide +kernel)]; exact ⟨rfl, rfl⟩)
set_option maxRecDepth 100000 in
theorem said : Rows.TraceKeepsSaid :=
  OpenClaim.holds_of_cond 5 Tryz.f5 rfl rfl rfl rfl rfl rfl rfl ⟨rfl, rfl, rfl, rfl, rfl⟩ rfl rfl rfl rfl rfl named Tryz.func5 joined inst wrap
    (fun os started H enc _ F => by rw [OpenClaim.pre_eq_preRow]; exact lifted os started H enc F)

theorem plain (f : FuncId) (fn : Func) (hf : Tryz.pinned.checked.prog.funcNamed "ropewalk/ropewalklaw17.TraceKeeps" = some f) (hfn : Tryz.pinned.checked.prog.funcs[f]? = some fn) :
    true = Tryz.pinned.checked.prog.looks [] ∧ ∀ (j : Nat) t, fn.params[j]? = some t → Tryz.pinned.checked.prog.wantsStandIn t = false := by
  obtain rfl : f = 5 := Option.some.inj ((show Tryz.prog.funcNamed "ropewalk/ropewalklaw17.TraceKeeps" = some 5 by kernel_rfl).symm.trans hf) |>.symm
  obtain rfl : fn = Tryz.f5 := (Option.some.inj (Tryz.func5.symm.trans hfn)).symm
  refine ⟨by kernel_rfl, fun j t ht => ?_⟩
  rw [Tryz.params5] at ht
  have hm : t = 3 ∨ t = 68 := by
    have := Array.mem_of_getElem? ht
    simp at this
    omega
  have w3 : Tryz.pinned.checked.prog.wantsStandIn 3 = false := by kernel_rfl
  have w68 : Tryz.pinned.checked.prog.wantsStandIn 68 = false := by kernel_rfl
  rcases hm with h | h
  · rw [h]; exact w3
  · rw [h]; exact w68

/-- THE CARD. -/
theorem card : Rows.TraceKeepsCardSaid :=
  Claim7.holds_tied_plain_at .later [] _ _ _ _ said (fun _ h => by cases h) (by kernel_rfl) (fun _ h => by cases h) traceKeeps_row_tie rfl ⟨rfl, rfl⟩ (by kernel_rfl) rfl plain (by kernel_rfl)
end Go.Proofs.YtcnamndapofimaaGreatDoor.traceKeeps
