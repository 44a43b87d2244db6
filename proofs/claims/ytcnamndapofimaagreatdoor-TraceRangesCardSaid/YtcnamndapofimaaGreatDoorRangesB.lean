/- 'TraceRanges' returns true: for every input: walked by the engine's rules, which are proved; the card. -/
import Derived.Test.YtcnamndapofimaaGreatDoorCards
import Derived.Test.YtcnamndapofimaaGreatDoorTie
import Derived.WalkKit
import Derived.ProofKit
import Derived.OpenShut
import Derived.Deep.DeepHandedRow
import Derived.Lib.LaidTab
import Derived.LaidHandle
import Derived.LaidLaws
import Derived.Test.YtcnamndapofimaaGreatDoorJoinB
import Derived.Test.YtcnamndapofimaaGreatDoorRgR
import Derived.Test.YtcnamndapofimaaGreatDoorArgs
import Derived.Test.YtcnamndapofimaaGreatDoorRgS
namespace Go.Proofs.YtcnamndapofimaaGreatDoor.traceRanges
open Go Go.ChangeShapes Go.WideShapes Go.ChangeAt Go.RowKit

/-- What the list gives a walk: the variable's one cell. -/
theorem handle_of_laid {W : World} (h : laidMetH Tryz.prog Rows.traceRangesRow.laid W) : W.cell? ⟨0, 0, none⟩ = some (.iface 290 (.agg #[.pointer (some ⟨1, 30, none⟩)])) := by
  have h' : laidMet Tryz.prog [] W ∧ handlesMet Tryz.prog Rows.traceRangesRow.laid W := h
  obtain ⟨name, u, ty, e1, e2, e3, e4, e5⟩ := h'.2 _ (List.mem_singleton.2 rfl)
  have en : name = [101, 114, 114, 111, 114] := (Option.some.inj e1).symm
  subst en
  obtain rfl := Option.some.inj (rt.symm.trans e2)
  have hm : ty ∈ (List.range 546).filter fun t => Tryz.prog.rowNamed t [101, 114, 114, 111, 114] := List.mem_filter.2 ⟨List.mem_range.2 (by rw [← size]; exact e3), e4⟩
  rw [oneRow] at hm
  obtain rfl := List.mem_singleton.1 hm
  have hh : typeHandle Tryz.prog 30 = .pointer (some ⟨1, 30, none⟩) := by kernel_rfl
  rw [hh] at e5
  simpa using World.var?_cell et e5 0

theorem under3 : Tryz.prog.underlying 3 = some (.int .i64) := by kernel_rfl
theorem under68 : Tryz.prog.underlying 68 = some (.slice 77) := by kernel_rfl
theorem under26 : Tryz.prog.underlying 26 = some (.slice 3) := by kernel_rfl
theorem st77 : Eng.isStruct2 Tryz.prog 77 3 0 26 1 = true := by kernel_rfl
theorem cells77 : Tryz.prog.cellsOf 77 = 2 := by kernel_rfl
theorem cells3 : Tryz.prog.cellsOf 3 = 1 := by kernel_rfl
theorem cells26 : Tryz.prog.cellsOf 26 = 1 := by kernel_rfl
theorem bytes3 : Tryz.prog.bytesOf 3 = 8 := by kernel_rfl
theorem bytes77 : Tryz.prog.bytesOf 77 = 32 := by kernel_rfl
set_option maxRecDepth 100000 in
/-- A list of entries, read at the start. -/
theorem fds_read {W : World} {H : Type} {enc : TypeId × Value → H} {base : Nat} {v : Value} {d : DataW H} {ps : List MemPlace} (hok : Value.okWide Tryz.prog W .any base 68 v) (h : DataW.Trod enc Tryz.prog W 0 (fun _ => true) true 68 v d ps)
    (hB : ∀ n ∈ d.weights Tryz.prog 68, n ≤ reachBytes) : ∃ l, Eng.R.FdsAt (Eng.startH W) (W.heap.size + 1) (Eng.absA W v) l ∧ l.length * 32 ≤ 140737488355328 := by
  obtain ⟨a, n, c, rfl⟩ := Eng.okWide_slice under68 hok
  obtain ⟨fuel, h⟩ := h
  obtain ⟨fs, f0, f1, u1, u2, u3, u4⟩ := Eng.struct2_of st77
  obtain ⟨l, l1, l2⟩ := Eng.R.fds_start (B := reachBytes) (v := .slice a n c) under68 u1 u2 u3 u4 cells77 cells3 cells26 under3 under26 bytes3 bytes77 h hB (by unfold reachBytes; omega)
  exact ⟨l, l1, Nat.le_trans l2 (by unfold reachBytes; omega)⟩
set_option maxRecDepth 100000 in
/-- A number, read at the start. -/
theorem int_read {W : World} {H : Type} {enc : TypeId × Value → H} {base : Nat} {v : Value} {d : DataW H} {ps : List MemPlace} (hok : Value.okWide Tryz.prog W .any base 3 v) (h : DataW.Trod enc Tryz.prog W 0 (fun _ => true) true 3 v d ps) : ∃ n, v = .int .i64 n ∧ Eng.inI64 n := by
  obtain ⟨n, rfl⟩ := Eng.okWide_int under3 hok
  obtain ⟨fuel, h⟩ := h
  obtain ⟨m, m1, m2, _⟩ := Eng.trod_int under3 h
  cases m1
  exact ⟨n, rfl, Eng.wf_i64 m2⟩
theorem walk (W : World) (n0 : Int) (h0 : Eng.inI64 n0) (v1 : Value) (l1 : List Eng.R.Fd) (h1 : Eng.R.FdsAt (Eng.startH W) (W.heap.size + 1) (Eng.absA W v1) l1) (b1 : l1.length * 32 ≤ 140737488355328) (n2 : Int) (h2 : Eng.inI64 n2) (v3 : Value) (l3 : List Eng.R.Fd) (h3 : Eng.R.FdsAt (Eng.startH W) (W.heap.size + 1) (Eng.absA W v3) l3) (b3 : l3.length * 32 ≤ 140737488355328) (hg : W.cell? ⟨0, 0, none⟩ = some (.iface 290 (.agg #[.pointer (some ⟨1, 30, none⟩)]))) : Calls Tryz.prog 8 #[.int .i64 n0, v1, .int .i64 n2, v3] W fun e w' => e = .returned (.bool true) ∧ Grown W w' ∧ Below W.heap.size W w' := by
  refine (Eng.FW.calls (C := Eng.R.C) (b := true) (Eng.ctxOf_ok _ _) (namesOk _) (fun {_} hw => Eng.hookT_ok (Eng.B.hook_ok (by rw [hw]; exact hg)) (Eng.AllOk.cons (Eng.B.eAwake_ok ⟨Eng.B.hook_ok (by rw [hw]; exact hg), namesOk, follows⟩) Eng.AllOk.nil)) follows rfl ?_).mono fun e w' h => ⟨h.1, grown_of h.2, ⟨h.2.2.2.1.1, h.2.2.2.1.2.2, h.2.2.2.1.2.1, h.2.1, h.2.2.1⟩⟩
  exact Eng.R.traceRanges_ok Eng.startH_wf (N := W.heap.size + 1) (by omega) (by exact Nat.le_refl _) h0.1 h0.2 h1 (by omega) h2.1 h2.2 h3 (by omega)
/-- Arguments read as they did where nothing old has turned. -/
theorem trodAll_stays {H : Type} {enc : TypeId × Value → H} {P : Program} (hl : laidOutB P = true) {W W' : World} (hb : Below W.heap.size W W') {sp : Nat → Bool} :
    ∀ {ts : List TypeId} {vs : List Value} {ds : List (DataW H)} {ps : List MemPlace}, (∀ t ∈ ts, P.readableRec t = true ∧ t < P.types.size) → DataW.TrodAll enc P W 0 (fun _ => true) true ts vs ds ps →
      (∀ x ∈ ps, x.block < W.heap.size) → (∀ x ∈ ps, sp x.block = true) → DataW.TrodAll enc P W' 0 sp true ts vs ds ps
  | [], [], [], _, _, h, _, _ => h
  | t :: ts, v :: vs, d :: ds, ps, ht, ⟨p, q, h1, h2, e⟩, hlt, hsp => by
    subst e
    exact ⟨p, q, WideElems.Trod_stays hl (ht t (by simp)).1 (ht t (by simp)).2 h1 (fun x hx => hb.same (hlt x (by simp [hx]))) (fun x hx => hsp x (by simp [hx])),
      trodAll_stays hl hb (fun t' h' => ht t' (by simp [h'])) h2 (fun x hx => hlt x (by simp [hx])) (fun x hx => hsp x (by simp [hx])), rfl⟩
set_option maxRecDepth 100000 in
theorem contract (H : Type) (enc : TypeId × Value → H) (W : World) (base : Nat) (args : Array Value) (ds gs : List (DataW H)) (before : List MemPlace)
    (hval : ∀ (j : Nat) t v, Tryz.f8.params[j]? = some t → args[j]? = some v → Value.okWide Tryz.prog W .any base t v)
    (hW : DataW.Whole enc Tryz.prog Tryz.f8.params.toList Rows.traceRangesSpec.vars false W args.toList ds gs before)
    (hsz : (DataW.weightsEach Tryz.prog (Tryz.f8.params.toList ++ (OpenSpec.ofChange Rows.traceRangesSpec).bare.plain.varTypes Tryz.prog) (ds ++ gs)).all (· ≤ reachBytes) = true) (hL : laidMetH Tryz.prog Rows.traceRangesRow.laid W) :
    Calls Tryz.prog 8 args W fun e W' => ∃ v, e = .returned v ∧ Rows.traceRangesSpec.post enc Tryz.prog Tryz.f8 false true false false W args v W' := by
  have hW' := hW
  have hlt : ∀ x ∈ before, x.block < W.heap.size := fun x hx => hW.lt x hx
  obtain ⟨p, q, hA0, hV, rfl, hfz, hnd⟩ := hW
  have hA : DataW.TrodAll enc Tryz.prog W 0 (fun _ => true) true Tryz.f8.params.toList args.toList ds p := hA0
  have hA1 := hA
  have hpar : Tryz.f8.params.toList = [3, 68, 3, 68] := by rw [Tryz.params8]
  rw [hpar] at hA1 hsz
  obtain ⟨v0, vs1, d0, ds1, p0, q0, ea0, eb0, ec0, k0, r0⟩ := trodAll_cons hA1
  obtain ⟨v1, vs2, d1, ds2, p1, q1, ea1, eb1, ec1, k1, r1⟩ := trodAll_cons r0
  obtain ⟨v2, vs3, d2, ds3, p2, q2, ea2, eb2, ec2, k2, r2⟩ := trodAll_cons r1
  obtain ⟨v3, vs4, d3, ds4, p3, q3, ea3, eb3, ec3, k3, r3⟩ := trodAll_cons r2
  obtain ⟨e10, e11, e12⟩ := trodAll_nil r3
  subst e10; subst e11
  obtain ⟨e13, e14⟩ := trodVars_none hV
  subst e13; subst e14
  have hargs : args = #[v0, v1, v2, v3] := by
    apply Array.ext'
    rw [ea0, ea1, ea2, ea3]
  have hds : ds = [d0, d1, d2, d3] := by rw [eb0, eb1, eb2, eb3]
  subst hargs
  subst hds
  have o0 := hval 0 3 v0 (by rw [← Array.getElem?_toList, hpar]; rfl) rfl
  obtain ⟨n0, en0, i0⟩ := int_read o0 k0
  have o1 := hval 1 68 v1 (by rw [← Array.getElem?_toList, hpar]; rfl) rfl
  obtain ⟨l1, i1, b1⟩ := fds_read o1 k1 fun x hx => Eng.all_le hsz x (Eng.weightsEach_mem (i := 1) (t := 68) (d := d1) rfl rfl x hx)
  have o2 := hval 2 3 v2 (by rw [← Array.getElem?_toList, hpar]; rfl) rfl
  obtain ⟨n2, en2, i2⟩ := int_read o2 k2
  have o3 := hval 3 68 v3 (by rw [← Array.getElem?_toList, hpar]; rfl) rfl
  obtain ⟨l3, i3, b3⟩ := fds_read o3 k3 fun x hx => Eng.all_le hsz x (Eng.weightsEach_mem (i := 3) (t := 68) (d := d3) rfl rfl x hx)
  subst en0
  subst en2
  refine (walk W n0 i0 v1 l1 i1 b1 n2 i2 v3 l3 i3 b3 (handle_of_laid hL)).mono fun e W' ⟨he, hg, hb⟩ => ?_
  subst he
  refine ⟨_, rfl, post_of_same (pa := p) (pv := []) hW' (fun _ _ _ => ?_) (fun sp hsp => ?_) (fun _ _ => ?_) rfl
    (hg.frame _) hg.2.1 (ok_one (by kernel_rfl) rfl (okWide_bool_mk Tryz.underlying4 _))⟩
  · exact trodAll_cons_mk (shut_bool Tryz.underlying4 _) trodAll_mk0
  · exact trodAll_stays laidOut hb (sp := sp) (by
      intro t ht
      rw [hpar] at ht
      simp only [List.mem_cons, List.not_mem_nil, or_false] at ht
      have hm : t = 3 ∨ t = 68 := by rcases ht with h | h | h | h <;> simp [h]
      rcases hm with rfl | rfl
      · exact ⟨by kernel_rfl, of_decide_eq_true (by kernel_rfl)⟩
      · exact ⟨by kernel_rfl, of_decide_eq_true (by kernel_rfl)⟩) hA (fun x hx => hlt x (by simp [hx])) (fun x hx => hsp x (by simp [hx]))
  · rfl

/-- A world for the witness: the settled one, the variable's cell laid. -/
noncomputable def laidWorld (os : Os) : World :=
  { World.holding Tryz.prog os ⟨#[], #[], []⟩ with heap := (World.holding Tryz.prog os ⟨#[], #[], []⟩).heap.modify 0 fun
      | .cells _ t frozen => .cells #[.iface 290 (.agg #[.pointer (some ⟨1, 30, none⟩)])] t frozen
      | o => o }
theorem laid_met (os : Os) : laidMetH Tryz.prog Rows.traceRangesRow.laid ((laidWorld os).forCall (fun _ _ => 0) ⟨#[], #[.int .i64 0, .slice none 0 0, .int .i64 0, .slice none 0 0], []⟩).memory :=
  laidMetH_of_parts (laidMet_nil _ _) (by kernel_rfl)
theorem reads (os : Os) {H : Type} (enc : TypeId × Value → H) : ∃ places, DataW.whole enc Tryz.prog ((laidWorld os).forCall (fun _ _ => 0) ⟨#[], #[.int .i64 0, .slice none 0 0, .int .i64 0, .slice none 0 0], []⟩).memory Tryz.f8.params.toList Rows.traceRangesSpec.vars false (#[.int .i64 0, .slice none 0 0, .int .i64 0, .slice none 0 0] : Array Value).toList 8 = some ([.lit (.int .i64 0), .nil, .lit (.int .i64 0), .nil], [], places) :=
  ⟨[], by kernel_rfl⟩

set_option maxRecDepth 100000 in
theorem lifted (os : Os) (started : os.Started) (H : Type) (enc : TypeId × Value → H) (F : Stop.Interp) :
    ReturnsInHanded {} Tryz.checked os 8 .any ((OpenSpec.ofChange Rows.traceRangesSpec).preRow enc Tryz.prog Tryz.f8 Rows.traceRangesRow.domain false Rows.traceRangesRow.laid) (((OpenSpec.ofChange Rows.traceRangesSpec).at F).post enc Tryz.prog Tryz.f8 false true false false) := by
  obtain ⟨places, hx⟩ := reads os enc
  refine returnsInHanded_of_row (C := Tryz.checked) (s := OpenSpec.ofChange Rows.traceRangesSpec) own started (by kernel_rfl) Tryz.func8
    (witness_row_at (enc := enc) (C := Tryz.checked) false (laidWorld os) #[.int .i64 0, .slice none 0 0, .int .i64 0, .slice none 0 0] rfl (by kernel_rfl) (by kernel_rfl) (by kernel_rfl)
      (OpenSpec.preRow_of_cond 8 hx (by kernel_rfl) (fun k hk => by cases hk) (by kernel_rfl) (laid_met os))) ?_
  intro W base args ds gs before hval hW _ _ hsz hL _ _
  exact contract H enc W base args ds gs before hval hW hsz hL

theorem j4 : (Tryz.f8.params.all (Tryz.prog.readableRec ·) && namedTie Tryz.prog Rows.traceRangesRow.named Rows.traceRangesSpec.vars && (Rows.traceRangesRow.stops == []) && (Tryz.prog.stops == []) && (Rows.traceRangesRow.knobs == []) && (Tryz.prog.stopKnobs == [])) = true := by kernel_rfl
theorem j5 : (Rows.traceRangesRow.inPlace == Tryz.prog.inPlace 8) = true := by kernel_rfl
theorem j6 : (Rows.traceRangesRow.unfollowed == Tryz.prog.unfollowed 8) = true := by kernel_rfl
theorem j7 : (Rows.traceRangesRow.recurses == Tryz.prog.recurses 8) = true := by kernel_rfl
theorem j8 : (Rows.traceRangesRow.named == Tryz.prog.varsNamed 8) = true := by kernel_rfl
theorem j9 : ((Rows.traceRangesRow.maps == (Tryz.f8.params.toList ++ Rows.traceRangesSpec.plain.varTypes Tryz.prog).any (Tryz.prog.mapsRec ·)) && (Rows.traceRangesRow.ifaces == (Tryz.f8.params.toList ++ Rows.traceRangesSpec.plain.varTypes Tryz.prog).any (Tryz.prog.ifacesRec ·)) && (Rows.traceRangesRow.mapsOut == Tryz.prog.mapsAmong Tryz.f8.resultTypes.toList)) = true := by kernel_rfl
theorem j10 : ((Rows.traceRangesRow.loops == (Tryz.f8.params.toList ++ Rows.traceRangesSpec.plain.varTypes Tryz.prog).any (Tryz.prog.loopsFrom ·)) && (Rows.traceRangesRow.wideKeys == (Tryz.f8.params.toList ++ Rows.traceRangesSpec.plain.varTypes Tryz.prog ++ Tryz.f8.resultTypes.toList).any (Tryz.prog.wideKeysFrom ·))) = true := by kernel_rfl
theorem j11 : (Rows.traceRangesSpec.vars.all (Tryz.prog.varReadable ·) && Tryz.f8.resultTypes.all (fun t => Tryz.prog.readableRec t && decide (t < Tryz.prog.types.size)) && (Rows.traceRangesRow.ifacesOut == Tryz.f8.resultTypes.toList.any (Tryz.prog.ifacesRec ·)) && (Rows.traceRangesRow.loopsOut == Tryz.f8.resultTypes.toList.any (Tryz.prog.loopsFrom ·))) = true := by kernel_rfl
theorem j16 : (Rows.traceRangesRow.shortTexts.isNone && (Tryz.prog.make == some Rows.traceRangesRow.make) && (Rows.traceRangesRow.kinds == (if Rows.traceRangesRow.domain.isEmpty then [] else Tryz.f8.params.toList.map fun t => match Tryz.prog.underlying t with | some (.int k) => some k | _ => none)) && (Rows.traceRangesRow.pinned == Rows.traceRangesRow.pinnedBy)) = true := by kernel_rfl
theorem j17 : ((Rows.traceRangesRow.veiled == (Tryz.f8.params.toList ++ Rows.traceRangesSpec.plain.varTypes Tryz.prog ++ Tryz.f8.resultTypes.toList).any (Tryz.prog.veiledRec ·)) && Rows.traceRangesRow.veiledFits Tryz.prog Tryz.f8.params.toList (Tryz.f8.params.toList ++ Rows.traceRangesSpec.plain.varTypes Tryz.prog ++ Tryz.f8.resultTypes.toList)) = true := by kernel_rfl
set_option maxRecDepth 100000 in
theorem joined : joinedFacts Tryz.prog 8 Tryz.f8 Rows.traceRangesSpec Rows.traceRangesRow = true := joined_of (by kernel_rfl) laidOut rowed j4 j5 j6 j7 j8 j9 j10 j11 keys rfl heard enter lifts rfl j16 j17
theorem named : Tryz.prog.funcNamed Rows.traceRangesRow.func = some 8 := by kernel_rfl
theorem inst : Tryz.f8.isInstance Tryz.prog Rows.traceRangesRow.origin Rows.traceRangesRow.targs := of_decide_eq_true (by kernel_rfl)
theorem wrap : Tryz.f8.isWrapper Tryz.prog Rows.traceRangesRow.wrapper Rows.traceRangesRow.mainSum := by unfold Func.isWrapper; first | (rw [if_pos (by decide +kernel)]; kernel_rfl) | (rw [if_neg (by decide +kernel)]; exact ⟨rfl, rfl⟩)
set_option maxRecDepth 100000 in
theorem said : Rows.TraceRangesSaid :=
  OpenClaim.holds_of_cond 8 Tryz.f8 rfl rfl rfl rfl rfl rfl rfl ⟨rfl, rfl, rfl, rfl, rfl⟩ rfl rfl rfl rfl rfl named Tryz.func8 joined inst wrap
    (fun os started H enc _ F => by rw [OpenClaim.pre_eq_preRow]; exact lifted os started H enc F)

theorem plain (f : FuncId) (fn : Func) (hf : Tryz.pinned.checked.prog.funcNamed "ropewalk/ropewalklaw17.TraceRanges" = some f) (hfn : Tryz.pinned.checked.prog.funcs[f]? = some fn) :
    true = Tryz.pinned.checked.prog.looks [] ∧ ∀ (j : Nat) t, fn.params[j]? = some t → Tryz.pinned.checked.prog.wantsStandIn t = false := by
  obtain rfl : f = 8 := Option.some.inj ((show Tryz.prog.funcNamed "ropewalk/ropewalklaw17.TraceRanges" = some 8 by kernel_rfl).symm.trans hf) |>.symm
  obtain rfl : fn = Tryz.f8 := (Option.some.inj (Tryz.func8.symm.trans hfn)).symm
  refine ⟨by kernel_rfl, fun j t ht => ?_⟩
  rw [Tryz.params8] at ht
  have hm : t = 3 ∨ t = 68 := by
    have := Array.mem_of_getElem? ht
    simp only [List.mem_toArray, List.mem_cons, List.not_mem_nil, or_false] at this
    rcases this with h | h | h | h <;> simp [h]
  have w3 : Tryz.pinned.checked.prog.wantsStandIn 3 = false := by kernel_rfl
  have w68 : Tryz.pinned.checked.prog.wantsStandIn 68 = false := by kernel_rfl
  rcases hm with h | h
  · rw [h]; exact w3
  · rw [h]; exact w68

/-- THE CARD. -/
theorem card : Rows.TraceRangesCardSaid :=
  Claim7.holds_tied_plain_at .later [] _ _ _ _ said (fun _ h => by cases h) (by kernel_rfl) (fun _ h => by cases h) traceRanges_row_tie rfl ⟨rfl, rfl⟩ (by kernel_rfl) rfl plain (by kernel_rfl)
end Go.Proofs.YtcnamndapofimaaGreatDoor.traceRanges
