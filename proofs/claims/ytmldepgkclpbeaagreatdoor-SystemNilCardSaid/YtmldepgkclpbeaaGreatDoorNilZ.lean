/- 'SystemNil' returns true, whatever the arguments: reckoned by the engine, which is proved sound; the card. -/
import Derived.Test.YtmldepgkclpbeaaGreatDoorCards
import Derived.Test.YtmldepgkclpbeaaGreatDoorTie
import Derived.WalkKit
import Derived.ProofKit
import Derived.OpenShut
import Derived.Deep.DeepHandedRow
import Derived.Lib.LaidTab
import Derived.LaidHandle
import Derived.LaidLaws
import Derived.Test.YtmldepgkclpbeaaGreatDoorEvalNil
namespace Go.Proofs.YtmldepgkclpbeaaGreatDoor.systemNil
open Go Go.ChangeShapes Go.WideShapes Go.ChangeAt Go.RowKit

theorem own : ownKnob Tryz.prog.godebug = none := by kernel_rfl
theorem et : Tryz.prog.globalNamed "errors.errorType" = some 0 := by kernel_rfl
theorem rt : (Tryz.prog.cutTypes.find? (·.1 == "internal/reflectlite.rtype")).map (·.2) = some 170 := by kernel_rfl
theorem oneRow : ((List.range 310).filter fun t => Tryz.prog.rowNamed t [101, 114, 114, 111, 114]) = [28] := by kernel_rfl
theorem size : Tryz.prog.types.size = 310 := by kernel_rfl
/-- What the list gives a walk: the variable's one cell. -/
theorem handle_of_laid {W : World} (h : laidMetH Tryz.prog Rows.systemNilRow.laid W) : W.cell? ⟨0, 0, none⟩ = some (.iface 170 (.agg #[.pointer (some ⟨1, 28, none⟩)])) := by
  have h' : laidMet Tryz.prog [] W ∧ handlesMet Tryz.prog Rows.systemNilRow.laid W := h
  obtain ⟨name, u, ty, e1, e2, e3, e4, e5⟩ := h'.2 _ (List.mem_singleton.2 rfl)
  have en : name = [101, 114, 114, 111, 114] := (Option.some.inj e1).symm
  subst en
  obtain rfl := Option.some.inj (rt.symm.trans e2)
  have hm : ty ∈ (List.range 310).filter fun t => Tryz.prog.rowNamed t [101, 114, 114, 111, 114] := List.mem_filter.2 ⟨List.mem_range.2 (by rw [← size]; exact e3), e4⟩
  rw [oneRow] at hm
  obtain rfl := List.mem_singleton.1 hm
  have hh : typeHandle Tryz.prog 28 = .pointer (some ⟨1, 28, none⟩) := by kernel_rfl
  rw [hh] at e5
  simpa using World.var?_cell et e5 0

theorem grown_of {w w' : World} (h : w.heap.size ≤ w'.heap.size ∧ (∀ cb, cb < w.heap.size → w'.heap[cb]? = w.heap[cb]?) ∧ (w'.os = w.os ∧ w'.output = w.output ∧ w'.tape = w.tape) ∧ ∀ a, w'.frozen? a = w.frozen? a) : Grown w w' := by
  obtain ⟨h1, h2, ⟨h3, h4, _⟩, h5⟩ := h
  refine ⟨⟨h3, h4, fun i hi => ?_⟩, h5, h1⟩
  rw [h2 i hi]
  cases w.heap[i]? with
  | none => rfl
  | some o =>
    cases o with
    | cells c t fr => exact ⟨rfl, rfl, rfl, fun _ _ => rfl⟩
    | map es c => exact .inr ⟨rfl, rfl⟩
    | _ => rfl
theorem noName : (Tryz.prog.funcs.toList.all fun fn => !(fn.name == "runtime.NumGoroutine")) = true := by kernel_rfl
theorem namesOk : Eng.NamesOk Tryz.prog Eng.Z.C := ⟨fun f fn hf _ => by
  have hf : Tryz.prog.funcs[f]? = some fn := hf
  have h := List.all_eq_true.1 noName fn (by
    have := Array.mem_of_getElem? hf
    simpa using this)
  simpa using h⟩
/-- What the engine answers of arguments that it does not look at. -/
theorem calls_of {P : Program} {C : Eng.Ctx} [Eng.Base] (hC : Eng.CtxOk C P) (hN : Eng.NamesOk P C) (hK : Eng.HookOk P C) (hfol : P.follows .mixedOrders = true) {n m : Nat} {f : FuncId} {args cargs : List Value} {b : Bool} {H' : Eng.AH}
    (h : Eng.afunB C (Eng.eng C n) f args { next := m, tr := .leaf } = .ok (.bool b) H') (ha : ∀ σ, Eng.VRelL σ args cargs) (w : World) (hw : w = Eng.Base.W0) :
    Calls P f ⟨cargs⟩ w fun e w' => e = .returned (.bool b) ∧ w.heap.size ≤ w'.heap.size ∧ (∀ cb, cb < w.heap.size → w'.heap[cb]? = w.heap[cb]?) ∧ (w'.os = w.os ∧ w'.output = w.output ∧ w'.tape = w.tape) ∧ ∀ a, w'.frozen? a = w.frozen? a :=
  (Eng.afunB_ok hC hN (Eng.eng_ok hC hN hK hfol n) h (Eng.HRel.start w hw m) (ha _)).2.mono fun e w' ⟨cv, σ', e1, e2, e3⟩ => ⟨by rw [e1, e2.bool_inv], Eng.Leads.start e3⟩
theorem walk (W : World) (a b c : Value) (hg : W.cell? ⟨0, 0, none⟩ = some (.iface 170 (.agg #[.pointer (some ⟨1, 28, none⟩)]))) :
    Calls Tryz.prog 8 #[a, b, c] W fun e w' => e = .returned (.bool true) ∧ Grown W w' ∧ Below W.heap.size W w' := by
  obtain ⟨H', hH⟩ := Eng.Z.Nil.yes_ok Eng.Z.Nil.names
  letI : Eng.Base := ⟨W⟩
  have hC : Eng.CtxOk Eng.Z.C Tryz.prog := Eng.ctxOf_ok _ _
  exact (calls_of hC namesOk (Eng.Z.hook_ok hg) (by kernel_rfl) hH (fun _ => .cons (.any _) (.cons (.any _) (.cons (.any _) .nil))) W rfl).mono fun e w' h => ⟨h.1, grown_of h.2, ⟨h.2.2.2.1.1, h.2.2.2.1.2.2, h.2.2.2.1.2.1, h.2.1, h.2.2.1⟩⟩
/-- Arguments read as they did where nothing old has turned. -/
theorem trodAll_stays {H : Type} {enc : TypeId × Value → H} {P : Program} (hl : laidOutB P = true) {W W' : World} (hb : Below W.heap.size W W') {sp : Nat → Bool} :
    ∀ {ts : List TypeId} {vs : List Value} {ds : List (DataW H)} {ps : List MemPlace}, (∀ t ∈ ts, P.readableRec t = true ∧ t < P.types.size) → DataW.TrodAll enc P W 0 (fun _ => true) true ts vs ds ps →
      (∀ x ∈ ps, x.block < W.heap.size) → (∀ x ∈ ps, sp x.block = true) → DataW.TrodAll enc P W' 0 sp true ts vs ds ps
  | [], [], [], _, _, h, _, _ => h
  | t :: ts, v :: vs, d :: ds, ps, ht, ⟨p, q, h1, h2, e⟩, hlt, hsp => by
    subst e
    exact ⟨p, q, WideElems.Trod_stays hl (ht t (by simp)).1 (ht t (by simp)).2 h1 (fun x hx => hb.same (hlt x (by simp [hx]))) (fun x hx => hsp x (by simp [hx])),
      trodAll_stays hl hb (fun t' h' => ht t' (by simp [h'])) h2 (fun x hx => hlt x (by simp [hx])) (fun x hx => hsp x (by simp [hx])), rfl⟩
theorem laidOut : laidOutB Tryz.prog = true := by kernel_rfl
set_option maxRecDepth 100000 in
theorem contract (H : Type) (enc : TypeId × Value → H) (W : World) (_base : Nat) (args : Array Value) (ds gs : List (DataW H)) (before : List MemPlace)
    (hW : DataW.Whole enc Tryz.prog Tryz.f8.params.toList Rows.systemNilSpec.vars false W args.toList ds gs before) (hL : laidMetH Tryz.prog Rows.systemNilRow.laid W) :
    Calls Tryz.prog 8 args W fun e W' => ∃ v, e = .returned v ∧ Rows.systemNilSpec.post enc Tryz.prog Tryz.f8 false true false false W args v W' := by
  have hW' := hW
  have hlt : ∀ x ∈ before, x.block < W.heap.size := fun x hx => hW.lt x hx
  obtain ⟨p, q, hA0, hV, rfl, hfz, hnd⟩ := hW
  have hA : DataW.TrodAll enc Tryz.prog W 0 (fun _ => true) true Tryz.f8.params.toList args.toList ds p := hA0
  have hA1 := hA
  rw [Tryz.params8] at hA1
  obtain ⟨v0, vs1, d0, ds1, p0, q0, e1, e2, e3, k1, r1⟩ := trodAll_cons hA1
  obtain ⟨v1, vs2, d1, ds2, p1, q1, e4, e5, e6, k2, r2⟩ := trodAll_cons r1
  obtain ⟨v2, vs3, d2, ds3, p2, q2, e7, e8, e9, k3, r3⟩ := trodAll_cons r2
  obtain ⟨e10, e11, e12⟩ := trodAll_nil r3
  subst e10; subst e11
  obtain ⟨e13, e14⟩ := trodVars_none hV
  subst e13; subst e14
  have hargs : args = #[v0, v1, v2] := by
    apply Array.ext'
    rw [e1, e4, e7]
  have hds : ds = [d0, d1, d2] := by rw [e2, e5, e8]
  subst hargs
  refine (walk W v0 v1 v2 (handle_of_laid hL)).mono fun e W' ⟨he, hg, hb⟩ => ?_
  subst he
  refine ⟨_, rfl, post_of_same (pa := p) (pv := []) hW' (fun _ _ _ => ?_) (fun sp hsp => ?_) (fun _ _ => ?_) rfl
    (hg.frame _) hg.2.1 (ok_one (by kernel_rfl) rfl (okWide_bool_mk Tryz.underlying4 _))⟩
  · subst hds
    exact trodAll_cons_mk (shut_bool Tryz.underlying4 _) trodAll_mk0
  · have := trodAll_stays laidOut hb (sp := sp) (by
      intro t ht
      rw [Tryz.params8] at ht
      simp at ht
      rcases ht with rfl | rfl | rfl
      · exact ⟨by kernel_rfl, of_decide_eq_true (by kernel_rfl)⟩
      · exact ⟨by kernel_rfl, of_decide_eq_true (by kernel_rfl)⟩
      · exact ⟨by kernel_rfl, of_decide_eq_true (by kernel_rfl)⟩) hA (fun x hx => hlt x (by simp [hx])) (fun x hx => hsp x (by simp [hx]))
    subst hds
    exact this
  · subst hds; rfl

/-- A world for the witness: the settled one, the variable's cell laid. -/
noncomputable def laidWorld (os : Os) : World :=
  { World.holding Tryz.prog os ⟨#[], #[], []⟩ with heap := (World.holding Tryz.prog os ⟨#[], #[], []⟩).heap.modify 0 fun
      | .cells _ t frozen => .cells #[.iface 170 (.agg #[.pointer (some ⟨1, 28, none⟩)])] t frozen
      | o => o }
theorem laid_met (os : Os) : laidMetH Tryz.prog Rows.systemNilRow.laid ((laidWorld os).forCall (fun _ _ => 0) ⟨#[], #[.slice none 0 0, .slice none 0 0, .int .i64 0], []⟩).memory :=
  laidMetH_of_parts (laidMet_nil _ _) (by kernel_rfl)
theorem reads (os : Os) {H : Type} (enc : TypeId × Value → H) : ∃ places, DataW.whole enc Tryz.prog ((laidWorld os).forCall (fun _ _ => 0) ⟨#[], #[.slice none 0 0, .slice none 0 0, .int .i64 0], []⟩).memory Tryz.f8.params.toList Rows.systemNilSpec.vars false (#[.slice none 0 0, .slice none 0 0, .int .i64 0] : Array Value).toList 8 = some ([.nil, .nil, .lit (.int .i64 0)], [], places) :=
  ⟨[], by kernel_rfl⟩

set_option maxRecDepth 100000 in
theorem lifted (os : Os) (started : os.Started) (H : Type) (enc : TypeId × Value → H) (F : Stop.Interp) :
    ReturnsInHanded {} Tryz.checked os 8 .any ((OpenSpec.ofChange Rows.systemNilSpec).preRow enc Tryz.prog Tryz.f8 Rows.systemNilRow.domain false Rows.systemNilRow.laid) (((OpenSpec.ofChange Rows.systemNilSpec).at F).post enc Tryz.prog Tryz.f8 false true false false) := by
  obtain ⟨places, hx⟩ := reads os enc
  refine returnsInHanded_of_row (C := Tryz.checked) (s := OpenSpec.ofChange Rows.systemNilSpec) own started (by kernel_rfl) Tryz.func8
    (witness_row_at (enc := enc) (C := Tryz.checked) false (laidWorld os) #[.slice none 0 0, .slice none 0 0, .int .i64 0] rfl (by kernel_rfl) (by kernel_rfl) (by kernel_rfl)
      (OpenSpec.preRow_of_cond 8 hx (by kernel_rfl) (fun k hk => by cases hk) (by kernel_rfl) (laid_met os))) ?_
  intro W base args ds gs before hval hW _ _ _ hL _ _
  exact contract H enc W base args ds gs before hW hL

theorem said : Rows.SystemNilSaid :=
  OpenClaim.holds_of_cond 8 Tryz.f8 rfl rfl rfl rfl rfl rfl rfl ⟨rfl, rfl, rfl, rfl, rfl⟩ rfl rfl rfl rfl rfl (by kernel_rfl) Tryz.func8 (by kernel_rfl)
    (of_decide_eq_true (by kernel_rfl)) (by unfold Func.isWrapper; first | (rw [if_pos (by decide +kernel)]; kernel_rfl) | (rw [if_neg (by decide +kernel)]; exact ⟨rfl, rfl⟩))
    (fun os started H enc _ F => by rw [OpenClaim.pre_eq_preRow]; exact lifted os started H enc F)

theorem plain (f : FuncId) (fn : Func) (hf : Tryz.pinned.checked.prog.funcNamed "ropewalk/ropewalklaw10.SystemNil" = some f) (hfn : Tryz.pinned.checked.prog.funcs[f]? = some fn) :
    true = Tryz.pinned.checked.prog.looks [] ∧ ∀ (j : Nat) t, fn.params[j]? = some t → Tryz.pinned.checked.prog.wantsStandIn t = false := by
  obtain rfl : f = 8 := Option.some.inj ((show Tryz.prog.funcNamed "ropewalk/ropewalklaw10.SystemNil" = some 8 by kernel_rfl).symm.trans hf) |>.symm
  obtain rfl : fn = Tryz.f8 := (Option.some.inj (Tryz.func8.symm.trans hfn)).symm
  refine ⟨by kernel_rfl, fun j t ht => ?_⟩
  rw [Tryz.params8] at ht
  have hm : t = 22 ∨ t = 23 ∨ t = 3 := by
    have := Array.mem_of_getElem? ht
    simpa using this
  have h22 : Tryz.pinned.checked.prog.wantsStandIn 22 = false := by kernel_rfl
  have h23 : Tryz.pinned.checked.prog.wantsStandIn 23 = false := by kernel_rfl
  have h3 : Tryz.pinned.checked.prog.wantsStandIn 3 = false := by kernel_rfl
  rcases hm with h | h | h
  · rw [h]; exact h22
  · rw [h]; exact h23
  · rw [h]; exact h3

/-- THE CARD. -/
theorem card : Rows.SystemNilCardSaid :=
  Claim7.holds_tied_plain_at .later [] _ _ _ _ said (fun _ h => by cases h) (by kernel_rfl) (fun _ h => by cases h) systemNil_row_tie rfl ⟨rfl, rfl⟩ (by kernel_rfl) rfl plain (by kernel_rfl)
end Go.Proofs.YtmldepgkclpbeaaGreatDoor.systemNil
