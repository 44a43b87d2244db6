/- What reads the heap, what makes a block: sound. -/
import Derived.Test.YtcnamndapofimaaGreatDoorEngF
import Derived.Laws.BytesArg
import Derived.LaidEqlPtr
namespace Go.Eng
open Go
section
variable {P : Program} {C : Ctx} {σ : Ren} {H : AH} {w : World}

theorem HRel.cells [Base] (hH : HRel σ H w) {b cb δ e : Nat} {k : Blk} (hb : H.get b = some (.cells k)) (hσ : σ b = .to cb δ e) :
    ∃ (cs : Array Value) (t : TypeId) (fz : Nat × Nat), w.heap[cb]? = some (.cells cs t fz) ∧ cs.size = δ + k.n + e * k.sz ∧ (∀ i, i < k.n → VRel σ (k.cell i) (cs.getD (δ + i) undef)) ∧ (k.ro = false → fz = (0, 0)) := by
  obtain ⟨o, h1, h2⟩ := hH.obj b cb δ e hσ
  rw [hb] at h1; cases h1
  exact h2
theorem HRel.map [Base] (hH : HRel σ H w) {b cb δ e : Nat} {es : List (Value × Value)} (hb : H.get b = some (.map es)) (hσ : σ b = .to cb δ e) :
    ∃ (ces : Array MapEntry) (clock : Nat), w.heap[cb]? = some (.map ces clock) ∧ δ = 0 ∧ e = 0 ∧
      VRelL σ (es.map (·.1)) (ces.toList.map (·.key)) ∧ VRelL σ (es.map (·.2)) (ces.toList.map (·.val)) := by
  obtain ⟨o, h1, h2⟩ := hH.obj b cb δ e hσ
  rw [hb] at h1; cases h1
  exact h2
theorem HRel.alive [Base] (hH : HRel σ H w) {b : Nat} {o : AObj} (hb : H.get b = some o) : σ b ≠ .dead := fun e => by have := hH.dead b e; rw [hb] at this; cases this
theorem cell_at {cb i : Nat} {cs : Array Value} {t : TypeId} {fz : Nat × Nat} (h : w.heap[cb]? = some (.cells cs t fz)) (hi : i < cs.size) : w.cell? ⟨cb, i, none⟩ = some (cs.getD i undef) := by
  simp [World.cell?, h, hi]
theorem acellsF_length (b : Blk) : ∀ (n o : Nat), (acellsF b n o).length = n
  | 0, o => rfl
  | n + 1, o => by show (acellsF b n (o + 1)).length + 1 = n + 1; rw [acellsF_length b n (o + 1)]
theorem acellsF_get (b : Blk) : ∀ (n o i : Nat), (acellsF b n o)[i]? = if i < n then some (b.cell (o + i)) else none
  | 0, o, i => by show ([] : List Value)[i]? = _; simp
  | n + 1, o, 0 => by simp; rfl
  | n + 1, o, i + 1 => by
    show (acellsF b n (o + 1))[i]? = _
    rw [acellsF_get b n (o + 1) i, show o + 1 + i = o + (i + 1) by omega]
    simp
theorem acells_rel [Base] {k : Blk} {δ : Nat} {cs : Array Value} (h : ∀ i, i < k.n → VRel σ (k.cell i) (cs.getD (δ + i) undef)) (n o : Nat) (hn : o + n ≤ k.n) :
    VRelL σ (acellsF k n o) ((List.range n).map fun j => cs.getD (o + δ + j) undef) := by
  refine VRelL.of (by simp [acellsF_length]) fun i x y hx hy => ?_
  rw [acellsF_get] at hx
  split at hx
  · rename_i hi
    cases hx
    simp [List.getElem?_map, List.getElem?_range hi] at hy
    subst hy
    have := h (o + i) (by omega)
    simp only [Array.getD_eq_getD_getElem?] at this
    rwa [show δ + (o + i) = o + δ + i by omega] at this
  · simp at hx
theorem run_loadRow [Base] {cb off n : Nat} {cs : Array Value} {t : TypeId} {fz : Nat × Nat} (h : w.heap[cb]? = some (.cells cs t fz)) (hn : off + n ≤ cs.size) :
    (loadCells ⟨cb, off, none⟩ n).run P w = .ok ⟨(List.range n).map fun j => cs.getD (off + j) undef⟩ w :=
  run_loadCells w ⟨cb, off, none⟩ n (fun j => cs.getD (off + j) undef) fun j hj => by rw [Addr.add_lit]; exact cell_at h (by omega)

theorem alive_stands [Base] (hH : HRel σ H w) {a : Option Addr} {n k : Nat} (h : Eng.alive H (.slice a n k) = true) : Stands σ a := by
  intro x hx hd
  subst hx
  obtain ⟨b, o, sp⟩ := x
  simp only [Eng.alive] at h
  rw [hH.dead b hd] at h
  simp at h

theorem hpOk_eq [Base] (hH : HRel σ H w) : HpOk P σ w (aptrEq H) := by
  intro a b ca cb r ha hb h
  unfold aptrEq at h
  split at h
  · rename_i x o y p
    split at h
    · rename_i k1 k2 h1 h2
      cases hro : (k1.ro || k2.ro) with
      | true => simp [hro] at h
      | false =>
      rw [hro, cond_false] at h
      simp only [Bool.or_eq_false_iff] at hro
      rcases ha.ptr_inv with ⟨c1, δ1, e1, s1, hc1⟩ | ⟨_, s1, _⟩
      · rcases hb.ptr_inv with ⟨c2, δ2, e2, s2, hc2⟩ | ⟨_, s2, _⟩
        · cases hc1; cases hc2
          obtain ⟨cs1, t1, fz1, w1, z1, _, f1⟩ := hH.cells h1 s1
          rw [f1 hro.1] at w1
          obtain ⟨cs2, t2, fz2, w2, z2, _, f2⟩ := hH.cells h2 s2
          rw [f2 hro.2] at w2
          cases hxy : Nat.beq x y with
          | true =>
            rw [Nat.beq_eq] at hxy; subst hxy
            rw [s1] at s2; cases s2
            simp only [Nat.beq_refl, cond_true, Option.some.injEq] at h
            subst h
            unfold sameAddr
            simp only [beq_self_eq_true, if_true, Sem.run_pure]
            congr 1
            cases hop : Nat.beq o p with
            | true => rw [Nat.beq_eq] at hop; subst hop; simp
            | false =>
              have : o ≠ p := fun e => by rw [e] at hop; simp at hop
              simp; omega
          | false =>
            have hne : x ≠ y := fun e => by rw [e] at hxy; simp at hxy
            rw [hxy, cond_false] at h
            cases h
            have hcc : c1 ≠ c2 := fun e => hne (by subst e; exact hH.inj _ _ _ _ _ _ _ s1 s2)
            exact run_sameAddr_other (w := w) (a := ⟨c1, o + δ1, none⟩) (b := ⟨c2, p + δ2, none⟩) (by simp [hcc]) w1 w2
        · exact absurd s2 (hH.alive h2)
      · exact absurd s1 (hH.alive h1)
    · simp at h
  · simp at h

/-! ### Maps -/
theorem isKey_check {d : TypeDesc} {kt : TypeId} {k : Value} (hu : P.underlying kt = some d) (hk : isKeyD d k = true) (em : Bool) (n : Nat) (w : World) :
    (Instr.checkKey em (n + 1) kt k).run P w = .ok () w := by
  unfold isKeyD at hk
  split at hk
  · simp [Instr.checkKey, run_underlying hu]
  · simp [Instr.checkKey, run_underlying hu]
  · simp [Instr.checkKey, run_underlying hu]
  · simp at hk
theorem isKeyD_rel {d : TypeDesc} {a b : Value} (h : VRel σ a b) (k : isKeyD d a = true) : isKeyD d b = true := by
  unfold isKeyD at k
  split at k
  · rw [h.int_inv]; rfl
  · rw [h.string_inv]; rfl
  · rw [h.bool_inv]; rfl
  · simp at k
theorem akeyEq_ok {d : TypeDesc} {k e ck ce : Value} {r : Bool} (hk : VRel σ k ck) (he : VRel σ e ce) (h : akeyEq d k e = some r) : Instr.sameNow d ck ce = some r := by
  unfold akeyEq at h
  split at h
  · rename_i q j x l y
    rw [hk.int_inv, he.int_inv]
    cases hj : kindEq j l with
    | false => simp [hj] at h
    | true =>
      rw [hj, cond_true] at h
      rw [kindEq_eq] at hj; subst hj
      cases h
      simp [Instr.sameNow, ieq_eq]
  · rw [hk.string_inv, he.string_inv]
    cases h
    simp [Instr.sameNow, strEq_eq']
  · rw [hk.bool_inv, he.bool_inv]
    cases h
    simp [Instr.sameNow]
  · simp at h
theorem afind_cons (d : TypeDesc) (k : Value) (e : Value × Value) (es : List (Value × Value)) (i : Nat) : afind d k (e :: es) i = match akeyEq d k e.1 with
      | some true => some (some (i, e.2))
      | some false => afind d k es (i + 1)
      | none => none := rfl
theorem afind_ok [Base] {d : TypeDesc} {k ck : Value} (hk : VRel σ k ck) : ∀ (es : List (Value × Value)) (ces : List MapEntry) (i : Nat) (r : Option (Nat × Value)),
    VRelL σ (es.map (·.1)) (ces.map (·.key)) → VRelL σ (es.map (·.2)) (ces.map (·.val)) → afind d k es i = some r →
    ∃ cr, Instr.findNow d ck ces i = some cr ∧ (match r, cr with
      | none, none => True
      | some (j, v), some (cj, cv) => j = cj ∧ VRel σ v cv ∧ i ≤ j ∧ j < i + es.length
      | _, _ => False)
  | [], [], i, r, _, _, h => by
    have : none = r := by simpa [afind] using h
    subst this
    exact ⟨none, rfl, trivial⟩
  | [], _ :: _, i, r, h1, _, _ => by cases h1
  | _ :: _, [], i, r, h1, _, _ => by cases h1
  | e :: es, ce :: ces, i, r, h1, h2, h => by
    simp only [List.map_cons] at h1 h2
    cases h1 with | cons a1 b1 => cases h2 with | cons a2 b2 =>
    rw [afind_cons] at h
    split at h
    · rename_i hkk
      cases h
      exact ⟨some (i, ce.val), by simp only [Instr.findNow, akeyEq_ok hk a1 hkk], rfl, a2, Nat.le_refl _, by simp⟩
    · rename_i hkk
      obtain ⟨cr, h3, h4⟩ := afind_ok hk es ces (i + 1) r b1 b2 h
      refine ⟨cr, by simp only [Instr.findNow, akeyEq_ok hk a1 hkk]; exact h3, ?_⟩
      split at h4
      · trivial
      · obtain ⟨q1, q2, q3, q4⟩ := h4
        exact ⟨q1, q2, by omega, by simp; omega⟩
      · exact h4.elim
    · simp at h
theorem run_findKey_of {d : TypeDesc} {kt : TypeId} {ck : Value} {ces : List MapEntry} {cr : Option (Nat × Value)} (hu : P.underlying kt = some d) (h : Instr.findNow d ck ces 0 = some cr) (w : World) :
    (Instr.findKey kt ck ces).run P w = .ok cr w := by
  simp [Instr.findKey, run_underlying hu, h]
theorem run_getMap {r clock : Nat} {es : Array MapEntry} (hb : w.heap[r]? = some (.map es clock)) : (getObj r).run P w = .ok (.map es clock) w := by
  simp [getObj, Sem.run, hb]

set_option maxHeartbeats 4000000 in
theorem abytes_cons (v : Value) (l : List Value) : abytes (v :: l) = match v with
        | .int .u8 n => match abytes l with
          | some ns => some (n :: ns)
          | none => none
        | _ => none := rfl
theorem abytes_rel {σ : Ren} : ∀ (l cl : List Value) (ns : List Int), abytes l = some ns → VRelL σ l cl → cl = ns.map (.int .u8)
  | [], cl, ns, h, hr => by
    cases hr
    have h : some [] = some ns := h
    cases h
    rfl
  | v :: l, cl, ns, h, hr => by
    cases hr with
    | cons h1 h2 =>
      rw [abytes_cons] at h
      split at h
      · split at h
        · rename_i n _ ns' hns
          cases h
          rw [h1.int_inv, abytes_rel l _ ns' hns h2]
          rfl
        · cases h
      · cases h
theorem aread_ok [Base] (hC : CtxOk C P) (hH : HRel σ H w) {ev cev : Operand → Value} (hev : ∀ x, VRel σ (ev x) (cev x)) {o : Oper} {v : Value} (h : aread C ev o.op H = some v) :
    ∃ cv, (execOp cev o).run P w = .ok (.value cv) w ∧ VRel σ v cv := by
  unfold execOp
  generalize o.op = op at h ⊢
  cases op
  case slice t x lo hi mx =>
    simp only [aread] at h
    have hx := hev x
    cases ha : Eng.alive H (ev x) with
    | false => simp [ha] at h
    | true =>
    rw [ha, cond_true] at h
    unfold aslice at h
    split at h
    · simp at h
    · rename_i i hti
      have T := hC.ty _ _ hti
      have hu := T.under
      generalize hd : i.desc = dd at h hu
      split at h
      · rename_i e a len cap e2
        rw [e2] at hx ha
        split at h
        · rename_i j hj
          have Tj := hC.ty _ _ hj
          obtain ⟨ca, ccap, l, h', m, hc, hrun, hv⟩ := asliceSl_ok (P := P) hH.nil (alive_stands hH ha) hx (ORelV.map hev lo) (ORelV.map hev hi) (ORelV.map hev mx) h w
          refine ⟨_, run_v ?_, hv⟩
          rw [hc]
          simp only [Instr.sliceAt, Sem.run_bind, run_underlying hu, Result.andThen_ok, Instr.slice, hrun true, Tj.run_size w, Sem.run_pure]
        · simp at h
      · rename_i s e2
        rw [e2] at hx
        split at h
        · rename_i hh hmx hhh
          split at h
          · rename_i l hl
            cases h
            have hmx' : mx.map cev = none := by cases mx <;> simp at hmx ⊢
            have B := bounds_none (P := P) (ORelV.map hev lo) (ORelV.map hev hi) hhh hl (Nat.le_refl _) false w
            refine ⟨_, run_v ?_, .string _⟩
            rw [hx.string_inv]
            simp only [Instr.sliceAt, Sem.run_bind, run_underlying hu, Result.andThen_ok, Instr.slice, hmx', Option.isSome_none, Bool.false_eq_true, if_false, B, Sem.run_pure]
          · simp at h
        · simp at h
      · rename_i n e b off e2
        rw [e2] at hx ha
        split at h
        · rename_i j hj
          have Tj := hC.ty _ _ hj
          rcases hx.ptr_inv with ⟨cb, δ, e', hb, hc⟩ | ⟨ca, hb, hc⟩
          · have hs : Stands σ (some ⟨b, off, none⟩) := by
              intro x hxx hd
              cases hxx
              simp only [Eng.alive] at ha
              rw [hH.dead b hd] at ha
              simp at ha
            have hx' : VRel σ (.slice (some ⟨b, off, none⟩) n n) (.slice (some ⟨cb, off + δ, none⟩) n n) := .slice b off none n n cb δ e' hb
            obtain ⟨ca, ccap, l, h', m, hc', hrun, hv⟩ := asliceSl_ok (P := P) hH.nil hs hx' (ORelV.map hev lo) (ORelV.map hev hi) (ORelV.map hev mx) h w
            cases hc'
            refine ⟨_, run_v ?_, hv⟩
            rw [hc]
            simp only [Instr.sliceAt, Sem.run_bind, run_underlying hu, Result.andThen_ok, Instr.sureAddr, Sem.run_pure, hrun false, Tj.run_size w]
            by_cases hml : m = l <;> simp [hml]
          · simp only [Eng.alive] at ha
            rw [hH.dead b hb] at ha
            simp at ha
        · simp at h
      · simp at h
  case convert src dst x =>
    simp only [aread] at h
    have hx := hev x
    split at h
    · rename_i i j hi hj
      have hu := (hC.ty _ _ hi).under
      have huj := (hC.ty _ _ hj).under
      generalize i.desc = d at h hu
      generalize j.desc = dj at h huj
      split at h
      · rename_i e
        split at h
        · rename_i ei c he hxv
          rw [hxv] at hx
          have hue := (hC.ty _ _ he).under
          cases h8 : isU8 ei.desc with
          | false => simp [h8] at h
          | true =>
            rw [h8, cond_true] at h
            cases h
            have hue : P.underlying e = some (.int .u8) := by
              rw [hue]
              unfold isU8 at h8
              split at h8
              · rename_i e8; rw [e8]
              · cases h8
            obtain ⟨ca, k', hc, hh⟩ := hx.sliceAny_inv
            refine ⟨.string (strOfBytes []), run_v ?_, .string _⟩
            have hc0 : ∃ k', cev x = .slice none 0 k' := by
              generalize cev x = cx at hx
              cases hx
              exact ⟨_, rfl⟩
            obtain ⟨k', hc0⟩ := hc0
            rw [hc0, run_convert_bytes_string w src dst e _ _ _ hu hue huj]
            simp [Conv.bytesToString, strOfBytes, ByteArray.empty, ByteArray.emptyWithCapacity]
            rfl
        · rename_i ei b o sp n c he hxv
          rw [hxv] at hx
          have hue := (hC.ty _ _ he).under
          cases h8 : isU8 ei.desc with
          | false => simp [h8] at h
          | true =>
            rw [h8, cond_true] at h
            have hue : P.underlying e = some (.int .u8) := by
              rw [hue]
              unfold isU8 at h8
              split at h8
              · rename_i e8; rw [e8]
              · cases h8
            split at h
            · rename_i k hk
              cases hle : Nat.ble (o + n) k.n with
              | false => simp [hle] at h
              | true =>
                rw [hle, cond_true] at h
                rw [Nat.ble_eq] at hle
                split at h
                · rename_i ns hns
                  cases h
                  rcases hx.slice_inv with ⟨cb, δ, e', hb, hc⟩ | ⟨ca, k', hb, hc⟩
                  · obtain ⟨cs, ct, fz, h1, h2, h3, _⟩ := hH.cells hk hb
                    have hcl := abytes_rel _ _ _ hns (acells_rel h3 n o hle)
                    refine ⟨.string (strOfBytes ns), run_v ?_, .string _⟩
                    rw [hc, run_convert_bytes_string w src dst e _ _ _ hu hue huj, run_bytesToString w _ _ _ ns (by rw [run_loadRow h1 (by omega), hcl]), foldl_push_bytes]
                    simp [strOfBytes, ByteArray.empty, ByteArray.emptyWithCapacity]
                    rfl
                  · exact absurd hb (hH.alive hk)
                · cases h
            · cases h
        · cases h
      · cases h
    · cases h
  case load t x =>
    simp only [aread] at h
    have hx := hev x
    split at h
    · rename_i b off i e2 hi
      rw [e2] at hx
      have T := hC.ty _ _ hi
      split at h
      · rename_i k hk
        rcases hx.ptr_inv with ⟨cb, δ, e', hb, hc⟩ | ⟨ca, hb, hc⟩
        · obtain ⟨cs, ct, fz, h1, h2, h3, _⟩ := hH.cells hk hb
          cases hag : i.agg with
          | true =>
            rw [hag, cond_true] at h
            cases hle : Nat.ble (off + i.size) k.n with
            | false => simp [hle] at h
            | true =>
              rw [hle, cond_true] at h
              rw [Nat.ble_eq] at hle
              cases h
              refine ⟨_, run_v ?_, .agg _ _ (acells_rel h3 i.size off hle)⟩
              rw [hc]
              simp only [Instr.loadAt, Sem.run_bind, Instr.sureAddr, Sem.run_pure, Result.andThen_ok, loadVar, T.run_agg w, hag, if_true, T.run_size w]
              rw [run_loadRow h1 (by omega)]
              rfl
          | false =>
            rw [hag, cond_false] at h
            cases hlt : Nat.blt off k.n with
            | false => simp [hlt] at h
            | true =>
              rw [hlt, cond_true] at h
              rw [Nat.blt_eq] at hlt
              cases h
              refine ⟨cs.getD (δ + off) undef, run_v ?_, h3 off hlt⟩
              rw [hc]
              simp only [Instr.loadAt, Sem.run_bind, Instr.sureAddr, Sem.run_pure, Result.andThen_ok, loadVar, T.run_agg w, hag, Bool.false_eq_true, if_false]
              rw [run_load, cell_at h1 (by omega), show off + δ = δ + off by omega]
        · exact absurd hb (hH.alive hk)
      · simp at h
    · simp at h
  case lookup t x ix ok =>
    simp only [aread] at h
    have hx := hev x
    have hix := hev ix
    split at h
    · simp at h
    · rename_i i hi
      have T := hC.ty _ _ hi
      have hu := T.under
      generalize hd : i.desc = dd at h hu
      split at h
      · rename_i kt et
        split at h
        · rename_i ki ei hki hei
          have Tk := hC.ty _ _ hki
          have Te := hC.ty _ _ hei
          cases hkd : isKeyD ki.desc (ev ix) with
          | false => simp [hkd] at h
          | true =>
            rw [hkd, cond_true] at h
            have hkc : isKeyD ki.desc (cev ix) = true := isKeyD_rel hix hkd
            have CK : ∀ em, (Instr.checkKey em 10000 kt (cev ix)).run P w = .ok () w := fun em => isKey_check (n := 9999) Tk.under hkc em w
            have FIN : ∀ (u cu : Value) (q : Bool), VRel σ u cu → v = (bif ok then .tuple ⟨[u, .bool q]⟩ else u) → VRel σ v (if ok then .tuple #[cu, .bool q] else cu) := by
              intro u cu q hu hv
              subst hv
              cases ok with
              | true => exact .tuple _ _ (.cons hu (.cons (.bool _) .nil))
              | false => exact hu
            split at h
            · rename_i e2; rw [e2] at hx
              have hv : v = (bif ok then .tuple ⟨[ei.zval, .bool false]⟩ else ei.zval) := by cases ok <;> simpa using h.symm
              refine ⟨_, run_v ?_, FIN _ _ false Te.zrel hv⟩
              rw [hx.nilMap_inv]
              simp [Instr.lookup, run_underlying hu, CK, run_findKey_of (ces := []) (cr := none) Tk.under rfl w, Te.run_zero w]
            · rename_i r e2; rw [e2] at hx
              split at h
              · rename_i es hes
                rcases hx.map_inv with ⟨cr, δ, e', hb, hc⟩ | ⟨cr, hb, hc⟩
                · obtain ⟨ces, clock, h1, _, _, h4, h5⟩ := hH.map hes hb
                  split at h
                  · rename_i j u hf
                    obtain ⟨cf, h6, h7⟩ := afind_ok hix es ces.toList 0 _ h4 h5 hf
                    split at h7
                    · rename_i heq; cases heq
                    · rename_i j' u' cj cv heq
                      cases heq
                      obtain ⟨_, h8, _⟩ := h7
                      have hv : v = (bif ok then .tuple ⟨[u, .bool true]⟩ else u) := by cases ok <;> simpa using h.symm
                      refine ⟨_, run_v ?_, FIN _ _ true h8 hv⟩
                      rw [hc]
                      simp [Instr.lookup, run_underlying hu, run_getMap h1, CK, run_findKey_of Tk.under h6 w]
                    · exact h7.elim
                  · rename_i hf
                    obtain ⟨cf, h6, h7⟩ := afind_ok hix es ces.toList 0 _ h4 h5 hf
                    split at h7
                    · have hv : v = (bif ok then .tuple ⟨[ei.zval, .bool false]⟩ else ei.zval) := by cases ok <;> simpa using h.symm
                      refine ⟨_, run_v ?_, FIN _ _ false Te.zrel hv⟩
                      rw [hc]
                      simp [Instr.lookup, run_underlying hu, run_getMap h1, CK, run_findKey_of Tk.under h6 w, Te.run_zero w]
                    · rename_i heq; cases heq
                    · exact h7.elim
                  · simp at h
                · exact absurd hb (hH.alive hes)
              · simp at h
            · simp at h
        · simp at h
      · simp at h
  case binOp op t x y u =>
    simp only [aread] at h
    obtain ⟨h1, h2⟩ := abin_ok hC (hpOk_eq hH) (hev x) (hev y) h
    exact ⟨v, run_v h1, h2⟩
  case call c =>
    obtain ⟨callee, args, argTypes⟩ := c
    simp only [aread] at h
    cases callee
    case value f => simp at h
    case invoke r m => simp at h
    case builtin b =>
    have R : ∀ cv, (builtin b argTypes o.type (args.map fun | .const _ => true | _ => false) (args.map cev)).run P w = .ok (.value cv) w →
        (do let d ← resolve cev { callee := .builtin b, args := args, argTypes := argTypes } o.type; Go.invoke d.target d.args : Sem Next).run P w = .ok (.value cv) w := by
      intro cv hr
      simp only [resolve, Go.invoke, Sem.run_bind, Sem.run_pure, Result.andThen_ok]
      exact hr
    cases b
    case len =>
      simp only at h
      split at h
      · rename_i x t ha ht
        have ha := args_one ha
        have ht := args_one ht
        subst ha; subst ht
        have hx := hev x
        split at h
        · simp at h
        · rename_i i hi
          have T := hC.ty _ _ hi
          have hu := T.under
          generalize hd : i.desc = dd at h hu
          split at h
          · rename_i e1 e3 r e2; rw [e2] at hx
            split at h
            · rename_i es hes
              cases h
              rcases hx.map_inv with ⟨cr, δ, e', hb, hc⟩ | ⟨cr, hb, hc⟩
              · obtain ⟨ces, clock, h1, _, _, h4, _⟩ := hH.map hes hb
                have hl : ces.size = es.length := by have := h4.length; simpa using this.symm
                refine ⟨_, R (goInt es.length) ?_, .int _ _⟩
                simp [builtin, Builtin.len_, run_underlying hu, run_getMap h1, hl, hc]
              · exact absurd hb (hH.alive hes)
            · simp at h
          · simp at h
      · simp at h
    case cap =>
      simp only at h
      split at h
      · rename_i x t ha ht
        have ha := args_one ha
        have ht := args_one ht
        subst ha; subst ht
        have hx := hev x
        split at h
        · simp at h
        · rename_i i hi
          have T := hC.ty _ _ hi
          have hu := T.under
          generalize hd : i.desc = dd at h hu
          cases hal : Eng.alive H (ev x) with
          | false => simp [hal] at h
          | true =>
            rw [hal, cond_true] at h
            split at h
            · rename_i e1 n k e2; rw [e2] at hx
              cases h
              generalize hcx : cev x = cx at hx
              cases hx
              exact ⟨goInt k, R _ (by simp [builtin, Builtin.cap_, run_underlying hu, hcx]), .int _ _⟩
            · rename_i e1 b off n k e2; rw [e2] at hx hal
              cases h
              rcases hx.slice_inv with ⟨cb, δ, e', hb, hc⟩ | ⟨ca, k', hb, hc⟩
              · exact ⟨goInt k, R _ (by simp [builtin, Builtin.cap_, run_underlying hu, hc]), .int _ _⟩
              · simp only [Eng.alive] at hal
                rw [hH.dead b hb] at hal
                simp at hal
            · simp at h
      · simp at h
    all_goals simp at h
  all_goals simp [aread] at h
end
end Go.Eng
