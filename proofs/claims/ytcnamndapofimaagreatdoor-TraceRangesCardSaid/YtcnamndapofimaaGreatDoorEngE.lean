/- The engine's operations are sound, one by one: slicing, assertions; and all that hang on values alone. -/
import Derived.Test.YtcnamndapofimaaGreatDoorEngD
namespace Go.Eng
open Go
section
variable {P : Program} {C : Ctx} {σ : Ren}

theorem abound_ok {v cv : Value} {m n cm : Nat} (hv : VRel σ v cv) (h : abound v m = some n) (hm : m ≤ cm) (code : BoundsCode) (w : World) :
    (Instr.sliceBound cv cm code).run P w = .ok n w ∧ n ≤ m := by
  unfold abound at h
  split at h
  · rename_i k q
    cases hb : Nat.ble q m with
    | false => simp [hb] at h
    | true =>
      simp [hb] at h; subst h
      rw [Nat.ble_eq] at hb
      cases hv
      refine ⟨?_, hb⟩
      simp only [Instr.sliceBound, Sem.run_bind, asIntOf, Sem.run_pure, Result.andThen_ok]
      rw [if_pos (by constructor; exact Int.natCast_nonneg _; rw [Int.ofNat_eq_natCast]; omega)]
      rfl
  · simp at h
def ORelV (σ : Ren) : Option Value → Option Value → Prop
  | none, none => True
  | some v, some w => VRel σ v w
  | _, _ => False
theorem ORelV.map {ev cev : Operand → Value} (h : ∀ x, VRel σ (ev x) (cev x)) (o : Option Operand) : ORelV σ (o.map ev) (o.map cev) := by
  cases o with
  | none => trivial
  | some x => exact h x

theorem bounds_none {lo hi clo chi : Option Value} {len cap ccap hh l : Nat} (hlo : ORelV σ lo clo) (hhi : ORelV σ hi chi)
    (h1 : aboundO hi cap len = some hh) (h2 : aboundO lo hh 0 = some l) (hc : cap ≤ ccap) (b : Bool) (w : World) :
    (Instr.sliceBounds b len ccap clo chi none).run P w = .ok (l, hh, ccap) w := by
  have HL : ∀ code, clo = none ∧ l = 0 ∨ ∃ cv, clo = some cv ∧ (Instr.sliceBound cv hh code).run P w = .ok l w := by
    intro code
    cases lo with
    | none =>
      cases clo with
      | none => simp [aboundO] at h2; exact .inl ⟨rfl, h2.symm⟩
      | some _ => exact hlo.elim
    | some lv => cases clo with
      | none => exact hlo.elim
      | some clv => exact .inr ⟨clv, rfl, (abound_ok hlo h2 (Nat.le_refl _) code w).1⟩
  have HH : ∀ code, chi = none ∧ hh = len ∨ ∃ cv, chi = some cv ∧ (Instr.sliceBound cv ccap code).run P w = .ok hh w := by
    intro code
    cases hi with
    | none =>
      cases chi with
      | none => simp [aboundO] at h1; exact .inl ⟨rfl, h1.symm⟩
      | some _ => exact hhi.elim
    | some lv => cases chi with
      | none => exact hhi.elim
      | some clv => exact .inr ⟨clv, rfl, (abound_ok hhi h1 hc code w).1⟩
  unfold Instr.sliceBounds
  rcases HH (if b then .sliceAcap else .sliceAlen) with ⟨rfl, rfl⟩ | ⟨cv, rfl, hv⟩
  · rcases HL .sliceB with ⟨rfl, rfl⟩ | ⟨cl, rfl, hl⟩
    · simp
    · simp [hl]
  · rcases HL .sliceB with ⟨rfl, rfl⟩ | ⟨cl, rfl, hl⟩
    · simp [hv]
    · simp [hv, hl]
theorem bounds_some {lo clo : Option Value} {hv chv mv cmv : Value} {len cap ccap hh l m : Nat} (hlo : ORelV σ lo clo) (hhi : VRel σ hv chv) (hmx : VRel σ mv cmv)
    (h0 : abound mv cap = some m) (h1 : abound hv m = some hh) (h2 : aboundO lo hh 0 = some l) (hc : cap ≤ ccap) (b : Bool) (w : World) :
    (Instr.sliceBounds b len ccap clo (some chv) (some cmv)).run P w = .ok (l, hh, m) w := by
  have HM := (abound_ok (P := P) hmx h0 hc (if b then .slice3Acap else .slice3Alen) w).1
  have HH := (abound_ok (P := P) hhi h1 (Nat.le_refl _) .slice3B w).1
  have HL : ∀ code, clo = none ∧ l = 0 ∨ ∃ cv, clo = some cv ∧ (Instr.sliceBound cv hh code).run P w = .ok l w := by
    intro code
    cases lo with
    | none =>
      cases clo with
      | none => simp [aboundO] at h2; exact .inl ⟨rfl, h2.symm⟩
      | some _ => exact hlo.elim
    | some lv => cases clo with
      | none => exact hlo.elim
      | some clv => exact .inr ⟨clv, rfl, (abound_ok hlo h2 (Nat.le_refl _) code w).1⟩
  unfold Instr.sliceBounds
  rcases HL .slice3C with ⟨rfl, rfl⟩ | ⟨cl, rfl, hl⟩
  · simp [HM, HH]
  · simp [HM, HH, hl]

/-- Is the value a slice of a block that stands (or of none)? -/
def Stands (σ : Ren) (a : Option Addr) : Prop := ∀ x, a = some x → σ x.block ≠ .dead
set_option maxHeartbeats 1000000 in
theorem asliceSl_ok {size : Nat} {a : Option Addr} {len cap : Nat} {lo hi mx clo chi cmx : Option Value} {v cx : Value} (hz : σ 0 = .dead) (hs : Stands σ a)
    (hx : VRel σ (.slice a len cap) cx) (hlo : ORelV σ lo clo) (hhi : ORelV σ hi chi) (hmx : ORelV σ mx cmx)
    (h : asliceSl size a len cap lo hi mx = some v) (w : World) :
    ∃ ca ccap l h' m, cx = .slice ca len ccap ∧ (∀ b, (Instr.sliceBounds b len ccap clo chi cmx).run P w = .ok (l, h', m) w) ∧
      VRel σ v (.slice (if m = l then ca else ca.map (·.add (l * size))) (h' - l) (m - l)) := by
  have hadd : ∀ (cb o n : Nat), (⟨cb, o, none⟩ : Addr).add n = ⟨cb, o + n, none⟩ := fun cb o n => Addr.add_lit cb o n
  have hle : ∀ {v : Value} {m n : Nat}, abound v m = some n → n ≤ m := by
    intro v m n h
    unfold abound at h
    split at h
    · rename_i k q
      cases hb : Nat.ble q m with
      | false => simp [hb] at h
      | true => simp [hb] at h; subst h; rwa [Nat.ble_eq] at hb
    · simp at h
  unfold asliceSl at h
  split at h
  · obtain rfl : cmx = none := by cases cmx with | none => rfl | some _ => exact hmx.elim
    split at h
    · simp at h
    · rename_i hh hhh
      split at h
      · simp at h
      · rename_i l hl
        split at h
        · cases h
          cases hx
          refine ⟨none, cap, l, hh, cap, rfl, fun b => bounds_none hlo hhi hhh hl (Nat.le_refl _) b w, ?_⟩
          simp only [Option.map_none, ite_self]
          exact .nilSlice _ _
        · rename_i b o
          cases h
          cases hx with
          | slice _ _ _ _ _ cb δ e hb =>
            refine ⟨_, cap, l, hh, cap, rfl, fun b => bounds_none hlo hhi hhh hl (Nat.le_refl _) b w, ?_⟩
            cases hq : Nat.beq cap l with
            | true =>
              rw [Nat.beq_eq] at hq
              simp only [hq, if_true, cond_true]
              exact .slice _ _ none _ _ _ _ _ hb
            | false =>
              have hq : ¬ cap = l := fun e => by rw [e] at hq; simp at hq
              simp only [hq, if_false, cond_false, Option.map_some, hadd]
              rw [show o + δ + l * size = o + l * size + δ by omega]
              exact .slice _ _ none _ _ _ _ _ hb
          | sliceDead _ _ _ _ _ ca c' hb => exact absurd hb (hs _ rfl)
        · rename_i b o s
          cases hq : ((Nat.beq cap l && !(Nat.beq l 0)) || !(Nat.ble l cap)) with
          | true =>
            rw [hq, cond_true] at h
            cases hq2 : Nat.beq cap l with
            | false => simp [hq2] at h
            | true =>
            rw [hq2, cond_true] at h
            obtain rfl := Nat.eq_of_beq_eq_true hq2
            cases h
            cases hx with
            | slice _ _ _ _ _ cb δ e hb =>
              refine ⟨_, cap + e, cap, hh, cap + e, rfl, fun b => bounds_none hlo hhi hhh hl (by omega) b w, ?_⟩
              by_cases hm : cap + e = cap
              · rw [if_pos hm]; exact .sliceDead _ _ _ _ _ _ _ hz
              · rw [if_neg hm]; exact .sliceDead _ _ _ _ _ _ _ hz
            | sliceDead _ _ _ _ _ ca c' hb => exact absurd hb (hs _ rfl)
          | false =>
            simp only [hq, cond_false, Option.some.injEq] at h
            subst h
            simp only [Bool.or_eq_false_iff, Bool.and_eq_false_iff, Bool.not_eq_false', Nat.ble_eq, Nat.beq_eq] at hq
            obtain ⟨hq1, hq2⟩ := hq
            have hq1 : cap ≠ l ∨ l = 0 := hq1.imp (fun e e' => by rw [e'] at e; simp at e) id
            cases hx with
            | slice _ _ _ _ _ cb δ e hb =>
              refine ⟨_, cap + e, l, hh, cap + e, rfl, fun b => bounds_none hlo hhi hhh hl (by omega) b w, ?_⟩
              have := VRel.slice b (o + l * size) (some s) (hh - l) (cap - l) cb δ e hb
              simp only [Option.isSome_some, if_true] at this
              by_cases hm : cap + e = l
              · have h0 : l = 0 := by omega
                subst h0
                simp only [hm, if_true]
                have e0 : cap = 0 := by omega
                have e1 : e = 0 := by omega
                subst e0; subst e1
                simpa using this
              · simp only [hm, if_false, Option.map_some, hadd]
                rw [show o + δ + l * size = o + l * size + δ by omega, show cap + e - l = cap - l + e by omega]
                exact this
            | sliceDead _ _ _ _ _ ca c' hb => exact absurd hb (hs _ rfl)
  · rename_i mv
    cases cmx with
    | none => exact hmx.elim
    | some cmv =>
    split at h
    · simp at h
    · rename_i m hm
      split at h
      · simp at h
      · rename_i hv
        cases chi with
        | none => exact hhi.elim
        | some chv =>
        split at h
        · simp at h
        · rename_i hh hhh
          split at h
          · simp at h
          · rename_i l hl
            split at h
            · cases h
              cases hx
              refine ⟨none, cap, l, hh, m, rfl, fun b => bounds_some hlo hhi hmx hm hhh hl (Nat.le_refl _) b w, ?_⟩
              simp only [Option.map_none, ite_self]
              exact .nilSlice _ _
            · rename_i b o sp
              cases h
              cases hx with
              | slice _ _ _ _ _ cb δ e hb =>
                refine ⟨_, _, l, hh, m, rfl, fun b => bounds_some hlo hhi hmx hm hhh hl (by split <;> omega) b w, ?_⟩
                cases hq : Nat.beq m l with
                | true =>
                  rw [Nat.beq_eq] at hq
                  simp only [hq, if_true, cond_true]
                  exact .slice _ _ none _ _ _ _ _ hb
                | false =>
                  have hq : ¬ m = l := fun e => by rw [e] at hq; simp at hq
                  simp only [hq, if_false, cond_false, Option.map_some, hadd]
                  rw [show o + δ + l * size = o + l * size + δ by omega]
                  exact .slice _ _ none _ _ _ _ _ hb
              | sliceDead _ _ _ _ _ ca c' hb => exact absurd hb (hs _ rfl)

/-! ### Assertions -/
theorem hasAll_ok (want : Array (String × TypeId)) (got : Array Method) : (hasAll want got = true → Instr.missingMethod want got = none) ∧ (hasAll want got = false → ∃ m, Instr.missingMethod want got = some m) := by
  have e : ∀ x : String × TypeId, (got.toList.any fun m => m.name == x.1 && m.sig == x.2) = (got.any fun m => m.name == x.1 && m.sig == x.2) := fun x => by simp
  constructor
  · intro h
    unfold hasAll at h
    rw [List.all_eq_true] at h
    have : (want.toList.filter fun x => !got.any fun m => m.name == x.1 && m.sig == x.2) = [] := by
      rw [List.filter_eq_nil_iff]
      intro x hx
      rw [← e x, h x hx]; simp
    unfold Instr.missingMethod
    simp only [this]
    rfl
  · intro h
    unfold hasAll at h
    have hne : ∃ x ∈ want.toList, (got.toList.any fun m => m.name == x.1 && m.sig == x.2) = false := by
      rcases List.all_eq_false.1 h with ⟨x, hx, hf⟩
      exact ⟨x, hx, by simpa using hf⟩
    obtain ⟨x, hx, hf⟩ := hne
    have hmem : x.1 ∈ ((want.toList.filter fun x => !got.any fun m => m.name == x.1 && m.sig == x.2).map (·.1)) :=
      List.mem_map.2 ⟨x, List.mem_filter.2 ⟨hx, by rw [← e x, hf]; rfl⟩, rfl⟩
    generalize hL : ((want.toList.filter fun x => !got.any fun m => m.name == x.1 && m.sig == x.2).map (·.1)) = L at hmem
    have hM : Instr.missingMethod want got = (Instr.least (L.partition (·.contains (Char.ofNat 46))).2 <|> Instr.least ((L.partition (·.contains (Char.ofNat 46))).1.map fun id => (id.splitOn ".").getLastD id)) := by rw [← hL]; rfl
    rw [hM]
    rcases hp : L.partition (·.contains (Char.ofNat 46)) with ⟨u, ex⟩
    rw [hp]
    have hls : ∀ l : List String, l ≠ [] → ∃ m, Instr.least l = some m := by
      intro l hl
      cases l with
      | nil => exact absurd rfl hl
      | cons a l => exact ⟨_, rfl⟩
    by_cases hex : ex = []
    · subst hex
      have hu : u ≠ [] := by
        intro hu
        subst hu
        rw [List.partition_eq_filter_filter] at hp
        simp only [Prod.mk.injEq] at hp
        by_cases hc : x.1.contains (Char.ofNat 46)
        · have : x.1 ∈ L.filter (·.contains (Char.ofNat 46)) := List.mem_filter.2 ⟨hmem, hc⟩
          rw [hp.1] at this; simp at this
        · have : x.1 ∈ L.filter (not ∘ (·.contains (Char.ofNat 46))) := List.mem_filter.2 ⟨hmem, by simp at hc ⊢; exact hc⟩
          rw [hp.2] at this; simp at this
      obtain ⟨m, hm⟩ := hls (u.map fun id => (id.splitOn ".").getLastD id) (by simpa using hu)
      exact ⟨m, by show (Instr.least [] <|> Instr.least _) = _; rw [hm]; rfl⟩
    · obtain ⟨m, hm⟩ := hls ex hex
      exact ⟨m, by rw [hm]; rfl⟩

theorem aassert_ok (hC : CtxOk C P) {x cx v : Value} {xT asserted : TypeId} {ok : Bool} (hx : VRel σ x cx) (h : aassert C x asserted ok = some v) (w : World) :
    ∃ cv, (Instr.typeAssert cx xT asserted ok).run P w = .ok cv w ∧ VRel σ v cv := by
  unfold aassert at h
  split at h
  · simp at h
  · rename_i i hi
    have T := hC.ty _ _ hi
    have hu := T.under
    have hf : ∀ (s d : Option TypeId) (m : String), ok = true → ((do
        if ok then pure (.tuple #[← zeroValue asserted, .bool false])
        else runtimePanic (.typeAssertion s d asserted m) : Sem Value)).run P w = .ok (.tuple ⟨[i.zval, .bool false]⟩) w := by
      intro s d m hok; subst hok; simp [T.run_zero w]
    have hz : VRel σ (.tuple ⟨[i.zval, .bool false]⟩) (.tuple ⟨[i.zval, .bool false]⟩) := .tuple _ _ (.cons T.zrel (.cons (.bool _) .nil))
    generalize hd : i.desc = dd at h hu
    split at h
    · cases hx
      cases ok with
      | false => simp at h
      | true =>
        simp at h; subst h
        refine ⟨_, ?_, hz⟩
        simp only [Instr.typeAssert, Sem.run_bind, run_underlying hu, Result.andThen_ok]
        exact hf none none "" rfl
    · rename_i want t u
      cases hx with | iface _ _ cu hu' =>
      split at h
      · simp at h
      · rename_i j hj
        have Tj := hC.ty _ _ hj
        obtain ⟨inf, k1, _, _, k2⟩ := Tj.run_info w
        obtain ⟨hA, hB⟩ := hasAll_ok want j.methods
        simp only [Instr.typeAssert, Sem.run_bind, run_underlying hu, Result.andThen_ok, k1, k2]
        cases hh : hasAll want j.methods with
        | true =>
          simp only [hh, cond_true] at h
          rw [hA hh]
          cases ok with
          | true => simp at h; subst h; exact ⟨_, rfl, .tuple _ _ (.cons (.iface _ _ _ hu') (.cons (.bool _) .nil))⟩
          | false => simp at h; subst h; exact ⟨_, rfl, .iface _ _ _ hu'⟩
        | false =>
          simp only [hh, cond_false] at h
          obtain ⟨m, hm⟩ := hB hh
          rw [hm]
          cases ok with
          | false => simp at h
          | true => simp at h; subst h; exact ⟨_, hf none (some t) m rfl, hz⟩
    · rename_i hne
      cases hx
      cases ok with
      | false => simp at h
      | true =>
        simp at h; subst h
        refine ⟨_, ?_, hz⟩
        cases dd with
        | interface ms => exact absurd rfl (hne ms)
        | _ =>
          simp only [Instr.typeAssert, Sem.run_bind, run_underlying hu, Result.andThen_ok]
          exact hf (some xT) none "" rfl
    · rename_i t u hne
      cases hx with | iface _ _ cu hu' =>
      cases dd with
      | interface ms => exact absurd rfl (hne ms)
      | _ =>
        simp only [Instr.typeAssert, Sem.run_bind, run_underlying hu, Result.andThen_ok]
        cases hb : Nat.beq t asserted with
        | true =>
          rw [Nat.beq_eq] at hb; subst hb
          simp only [Nat.beq_refl, cond_true] at h
          simp only [if_true]
          cases ok with
          | true => simp at h; subst h; exact ⟨_, rfl, .tuple _ _ (.cons hu' (.cons (.bool _) .nil))⟩
          | false => simp at h; subst h; exact ⟨_, rfl, hu'⟩
        | false =>
          have hne' : t ≠ asserted := fun e => by rw [e] at hb; simp at hb
          simp only [hb, cond_false] at h
          simp only [hne', if_false]
          cases ok with
          | false => simp at h
          | true => simp at h; subst h; exact ⟨_, hf (some xT) (some t) "" rfl, hz⟩
    · simp at h
end
end Go.Eng
