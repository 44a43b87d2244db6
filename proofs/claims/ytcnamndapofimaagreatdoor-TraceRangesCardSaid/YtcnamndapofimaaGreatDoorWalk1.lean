/- The engine's answers, whatever the fuel: rules by which code is walked with inputs that are not known. -/
import Derived.Test.YtcnamndapofimaaGreatDoorEngK
import Derived.Test.YtcnamndapofimaaGreatDoorEngG
namespace Go.Eng
open Go
section
variable (C : Ctx)
def Runs (c : Code) (fr : AFr) (H : AH) (e : AExit) (fr' : AFr) (H' : AH) : Prop := ∃ N, ∀ n, N ≤ n → eng C n c fr H = .ok e fr' H'
/-- The code comes to an end of which Q holds. -/
def W (c : Code) (fr : AFr) (H : AH) (Q : AExit → AFr → AH → Prop) : Prop := ∃ e fr' H', Runs C c fr H e fr' H' ∧ Q e fr' H'
/-- The function answers, and Q holds of it. -/
def FW (f : FuncId) (args : List Value) (H : AH) (Q : Value → AH → Prop) : Prop := ∃ v H', (∃ N, ∀ n, N ≤ n → afun C (eng C n) f args H = .ok v H') ∧ Q v H'
/-- A call of whatever can be called. -/
noncomputable def atgt (ih : Code → AFr → AH → Out) (t : ATgt) (H : AH) : CRes := match t with
  | .fn f args => afun C ih f args H
  | .round l args => around ih l args H
def CW (t : ATgt) (H : AH) (Q : Value → AH → Prop) : Prop := ∃ v H', (∃ N, ∀ n, N ≤ n → atgt C (eng C n) t H = .ok v H') ∧ Q v H'
variable {C}
theorem eng_succ (n : Nat) : eng C (n + 1) = engStep C (eng C n) := rfl
theorem W.mono {c : Code} {fr : AFr} {H : AH} {Q Q' : AExit → AFr → AH → Prop} (h : W C c fr H Q) (k : ∀ e fr' H', Q e fr' H' → Q' e fr' H') : W C c fr H Q' := by
  obtain ⟨e, fr', H', r, q⟩ := h; exact ⟨e, fr', H', r, k _ _ _ q⟩
theorem FW.mono {f : FuncId} {args : List Value} {H : AH} {Q Q' : Value → AH → Prop} (h : FW C f args H Q) (k : ∀ v H', Q v H' → Q' v H') : FW C f args H Q' := by
  obtain ⟨v, H', r, q⟩ := h; exact ⟨v, H', r, k _ _ q⟩
theorem FW.cw {f : FuncId} {args : List Value} {H : AH} {Q : Value → AH → Prop} (h : FW C f args H Q) : CW C (.fn f args) H Q := h
theorem Runs.of_step {c : Code} {fr fr' : AFr} {H H' : AH} {e : AExit} (N : Nat) (h : ∀ n, N ≤ n → engStep C (eng C n) c fr H = .ok e fr' H') : Runs C c fr H e fr' H' :=
  ⟨N + 1, fun n hn => by obtain ⟨m, rfl⟩ : ∃ m, n = m + 1 := ⟨n - 1, by omega⟩; exact h m (by omega)⟩

def Seqd (C : Ctx) (b : Code) (Q : AExit → AFr → AH → Prop) : AExit → AFr → AH → Prop
  | .normal => fun fr H => W C b fr H Q
  | e => fun fr H => Q e fr H
theorem W.seq {a b : Code} {fr : AFr} {H : AH} {Q : AExit → AFr → AH → Prop} (h : W C a fr H (Seqd C b Q)) : W C (.seq a b) fr H Q := by
  obtain ⟨e, fr1, H1, ⟨N, hN⟩, q⟩ := h
  cases e with
  | normal =>
    obtain ⟨e2, fr2, H2, ⟨M, hM⟩, q2⟩ := q
    refine ⟨e2, fr2, H2, .of_step (max N M) fun n hn => ?_, q2⟩
    simp only [engStep, hN n (by omega), hM n (by omega)]
  | exit id =>
    refine ⟨_, fr1, H1, .of_step N fun n hn => ?_, q⟩
    simp only [engStep, hN n hn]
  | ret =>
    refine ⟨_, fr1, H1, .of_step N fun n hn => ?_, q⟩
    simp only [engStep, hN n hn]
theorem W.skip {fr : AFr} {H : AH} {Q : AExit → AFr → AH → Prop} (h : Q .normal fr H) : W C .skip fr H Q := ⟨_, _, _, .of_step 0 fun _ _ => rfl, h⟩
theorem W.exit {id : Nat} {fr : AFr} {H : AH} {Q : AExit → AFr → AH → Prop} (h : Q (.exit id) fr H) : W C (.exit id) fr H Q := ⟨_, _, _, .of_step 0 fun _ _ => rfl, h⟩
theorem W.ret {fr : AFr} {H : AH} {Q : AExit → AFr → AH → Prop} (h : Q .ret fr H) : W C .ret fr H Q := ⟨_, _, _, .of_step 0 fun _ _ => rfl, h⟩
theorem W.cond {x : Operand} {a b : Code} {fr : AFr} {H : AH} {Q : AExit → AFr → AH → Prop} {c : Bool} (hx : aev fr.tm x = .bool c) (h1 : c = true → W C a fr H Q) (h2 : c = false → W C b fr H Q) : W C (.cond x a b) fr H Q := by
  cases c with
  | true =>
    obtain ⟨e, fr1, H1, ⟨N, hN⟩, q⟩ := h1 rfl
    refine ⟨_, fr1, H1, .of_step N fun n hn => ?_, q⟩
    simp only [engStep, hx, hN n hn]
  | false =>
    obtain ⟨e, fr1, H1, ⟨N, hN⟩, q⟩ := h2 rfl
    refine ⟨_, fr1, H1, .of_step N fun n hn => ?_, q⟩
    simp only [engStep, hx, hN n hn]
def Blkd (id : Nat) (Q : AExit → AFr → AH → Prop) : AExit → AFr → AH → Prop
  | .exit j => fun fr H => bif Nat.beq j id then Q .normal fr H else Q (.exit j) fr H
  | e => fun fr H => Q e fr H
theorem W.block {id : Nat} {b : Code} {fr : AFr} {H : AH} {Q : AExit → AFr → AH → Prop} (h : W C b fr H (Blkd id Q)) : W C (.block id b) fr H Q := by
  obtain ⟨e, fr1, H1, ⟨N, hN⟩, q⟩ := h
  cases e with
  | normal => exact ⟨_, fr1, H1, .of_step N fun n hn => by simp only [engStep, hN n hn], q⟩
  | ret => exact ⟨_, fr1, H1, .of_step N fun n hn => by simp only [engStep, hN n hn], q⟩
  | exit j =>
    simp only [Blkd] at q
    cases hj : Nat.beq j id with
    | true => rw [hj, cond_true] at q; exact ⟨_, fr1, H1, .of_step N fun n hn => by simp only [engStep, hN n hn, hj, cond_true], q⟩
    | false => rw [hj, cond_false] at q; exact ⟨_, fr1, H1, .of_step N fun n hn => by simp only [engStep, hN n hn, hj, cond_false], q⟩
theorem W.scope {b : Code} {fr : AFr} {H : AH} {Q : AExit → AFr → AH → Prop} (h : W C b fr H Q) : W C (.scope b) fr H Q := by
  obtain ⟨e, fr1, H1, ⟨N, hN⟩, q⟩ := h
  exact ⟨_, fr1, H1, .of_step N fun n hn => by simp only [engStep, hN n hn], q⟩
def Lpd (I : Nat → AFr → AH → Prop) (m : Nat) (Q : AExit → AFr → AH → Prop) : AExit → AFr → AH → Prop
  | .normal => fun fr H => ∃ m', m' < m ∧ I m' fr H
  | e => fun fr H => Q e fr H
/-- A loop: I holds at its head, with a measure that falls. -/
theorem W.loop (I : Nat → AFr → AH → Prop) {b : Code} {Q : AExit → AFr → AH → Prop} (hI : ∀ m fr H, I m fr H → W C b fr H (Lpd I m Q)) : ∀ {m : Nat} {fr : AFr} {H : AH}, I m fr H → W C (.loop b) fr H Q := by
  intro m
  induction m using Nat.strongRecOn with
  | _ m ih =>
    intro fr H h
    obtain ⟨e, fr1, H1, ⟨N, hN⟩, q⟩ := hI m fr H h
    cases e with
    | normal =>
      obtain ⟨m', hm, h'⟩ := q
      obtain ⟨e2, fr2, H2, ⟨M, hM⟩, q2⟩ := ih m' hm h'
      exact ⟨e2, fr2, H2, .of_step (max N M) fun n hn => by simp only [engStep, hN n (by omega), hM n (by omega)], q2⟩
    | exit id => exact ⟨_, fr1, H1, .of_step N fun n hn => by simp only [engStep, hN n hn], q⟩
    | ret => exact ⟨_, fr1, H1, .of_step N fun n hn => by simp only [engStep, hN n hn], q⟩

/-! ### Operations one behind the other -/
variable (C)
/-- An operation that is no call of a function. -/
noncomputable def aopN (ev : Operand → Value) (o : Op) (H : AH) : Option (Value × AH) := match apure C ev o with
  | some v => some (v, H)
  | none => match aread C ev o H with
    | some v => some (v, H)
    | none => match aalloc C ev o with
      | some (obj, nv) => some (nv.val H.next, H.push obj)
      | none => aeff C ev o H
def opCall : Op → Option Call
  | .call c => match c.callee with
    | .builtin _ => none
    | _ => some c
  | _ => none
def opPlain : Op → Bool
  | .defer _ => false
  | o => !isRecover o
/-- One operation. -/
def Wo (ev : Operand → Value) (o : Op) (H : AH) (K : Value → AH → Prop) : Prop := match opCall o with
  | some c => ∃ t, acallee C ev c = some t ∧ CW C t H K
  | none => opPlain o = true ∧ ∃ v H', aopN C ev o H = some (v, H') ∧ K v H'
def Wops (all : List Oper) : List Oper → AFr → AH → (AFr → AH → Prop) → Prop
  | [], fr, H, Q => Q fr H
  | o :: l, fr, H, Q => ∃ w, awanted all o fr.n fr.tm = some w ∧ (if w = true then Wo C (aev fr.tm) o.op H fun v H' => Wops all l { fr with tm := tset fr.n fr.tm o.dst v } H' Q
      else Wops all l { fr with tm := tset fr.n fr.tm o.dst undef } H Q)
variable {C}
theorem aopV_of_aopN {ih : Code → AFr → AH → Out} {ev : Operand → Value} {o : Op} {H H' : AH} {v : Value} (h : aopN C ev o H = some (v, H')) : aopV C ih ev o H = .ok v H' := by
  unfold aopN at h
  unfold aopV
  cases hx : apure C ev o with
  | some x => simp only [hx] at h; cases h; rfl
  | none =>
    cases hy : aread C ev o H with
    | some y => simp only [hx, hy] at h; cases h; rfl
    | none =>
      cases hz : aalloc C ev o with
      | some p => simp only [hx, hy, hz] at h; cases h; rfl
      | none => simp only [hx, hy, hz] at h; simp only [h]
theorem aoper_plain {ih : Code → AFr → AH → Out} {o : Oper} {fr : AFr} {H H' : AH} {v : Value} (hp : opPlain o.op = true) (h : aopV C ih (aev fr.tm) o.op H = .ok v H') :
    aoper C ih o fr H = .ok .normal { fr with tm := tset fr.n fr.tm o.dst v } H' := by
  unfold aoper
  generalize o.op = op at hp h ⊢
  cases op
  case defer c => simp [opPlain] at hp
  all_goals
    simp only [opPlain, Bool.not_eq_true'] at hp
    simp only [hp, cond_false, h]
theorem callee_noBuiltin {ev : Operand → Value} {c : Call} {t : ATgt} (h : acallee C ev c = some t) : ∀ b, c.callee ≠ .builtin b := by
  intro b e
  unfold acallee at h
  rw [e] at h
  cases h
theorem aopV_call {ih : Code → AFr → AH → Out} {ev : Operand → Value} {c : Call} {t : ATgt} {H : AH} (h : acallee C ev c = some t) :
    aopV C ih ev (.call c) H = atgt C ih t H := by
  have hb := callee_noBuiltin h
  have e : acall C ih ev c H = atgt C ih t H := by
    simp only [acall, h]
    cases t <;> rfl
  rw [← e]
  obtain ⟨callee, args, tys⟩ := c
  cases callee with
  | builtin b => exact absurd rfl (hb b)
  | value f => rfl
  | invoke r m => rfl
theorem opCall_some {o : Op} {c : Call} (h : opCall o = some c) : o = .call c := by
  cases o
  case call d => simp only [opCall] at h; split at h <;> cases h; rfl
  all_goals cases h
theorem opCall_plain {c : Call} (h : opCall (.call c) = some c) : opPlain (.call c) = true := by
  obtain ⟨callee, args, tys⟩ := c
  cases callee with
  | builtin b => cases h
  | value f => rfl
  | invoke r m => rfl
theorem Wops.run (all : List Oper) : ∀ (l : List Oper) (i : Nat) (fr : AFr) (H : AH) (Q : AFr → AH → Prop), Wops C all l fr H Q →
    ∃ fr' H', (∃ N, ∀ n, N ≤ n → aseq C (eng C n) all l i fr H = .ok .normal fr' H') ∧ Q fr' H'
  | [], i, fr, H, Q, h => ⟨fr, H, ⟨0, fun _ _ => rfl⟩, h⟩
  | o :: l, i, fr, H, Q, h => by
    obtain ⟨w, hw, h⟩ := h
    cases w with
    | false =>
      rw [if_neg (by simp)] at h
      obtain ⟨fr', H', ⟨N, hN⟩, q⟩ := Wops.run all l (i + 1) _ _ Q h
      refine ⟨fr', H', ⟨N, fun n hn => ?_⟩, q⟩
      show (match awanted all o fr.n fr.tm with | none => Out.bad [40003, i] | some false => aseq C (eng C n) all l (i + 1) _ H | some true => _) = _
      rw [hw]
      exact hN n hn
    | true =>
      rw [if_pos rfl] at h
      have key : ∃ v H1, (∃ N, ∀ n, N ≤ n → aoper C (eng C n) o fr H = .ok .normal { fr with tm := tset fr.n fr.tm o.dst v } H1) ∧ Wops C all l { fr with tm := tset fr.n fr.tm o.dst v } H1 Q := by
        unfold Wo at h
        split at h
        · rename_i c hc
          obtain ⟨t, ht, v, H1, ⟨N, hN⟩, q⟩ := h
          refine ⟨v, H1, ⟨N, fun n hn => ?_⟩, q⟩
          have ho := opCall_some hc
          refine aoper_plain ?_ ?_
          · rw [ho]; exact opCall_plain (by rw [← ho]; exact hc)
          · rw [ho, aopV_call ht]; exact hN n hn
        · obtain ⟨hp, v, H1, h1, q⟩ := h
          exact ⟨v, H1, ⟨0, fun n _ => aoper_plain hp (aopV_of_aopN h1)⟩, q⟩
      obtain ⟨v, H1, ⟨N, hN⟩, h⟩ := key
      obtain ⟨fr', H', ⟨M, hM⟩, q⟩ := Wops.run all l (i + 1) _ _ Q h
      refine ⟨fr', H', ⟨max N M, fun n hn => ?_⟩, q⟩
      show (match awanted all o fr.n fr.tm with | none => Out.bad [40003, i] | some false => aseq C (eng C n) all l (i + 1) _ H | some true => (match aoper C (eng C n) o fr H with | .ok _ fr1 H1 => aseq C (eng C n) all l (i + 1) fr1 H1 | .bad w => .bad (w ++ [30000 + i]))) = _
      rw [hw]
      simp only [hN n (by omega)]
      exact hM n (by omega)
theorem W.region {id : Nat} {ops : Array Oper} {fr : AFr} {H : AH} {Q : AExit → AFr → AH → Prop} (h : Wops C ops.toList ops.toList fr H (Q .normal)) : W C (.region id ops false) fr H Q := by
  obtain ⟨fr', H', ⟨N, hN⟩, q⟩ := Wops.run ops.toList ops.toList 0 fr H _ h
  exact ⟨_, fr', H', .of_step N fun n hn => by simp only [engStep, cond_false, hN n hn], q⟩
end
end Go.Eng
/- Functions, walked: entry, end; registers; what simple operations answer. -/
namespace Go.Eng
open Go
section
variable {C : Ctx}
/-- The deferred calls of a function that has none but its loops' marks. -/
inductive Adf : List ADef → AH → AH → Prop
  | nil (H : AH) : Adf [] H H
  | mark {b : Nat} {ds : List ADef} {H H' : AH} : H.get b = some (.deferred true) → Adf ds (H.set b (.deferred false)) H' → Adf (.mark b :: ds) H H'
theorem Adf.run {ih : Code → AFr → AH → Out} : ∀ {ds : List ADef} {H H' : AH}, Adf ds H H' → adefers C ih ds H = some H'
  | _, _, _, .nil H => rfl
  | _, _, _, .mark (b := b) (ds := ds) (H := H) h k => by
    show (match H.get b with | some (.deferred true) => adefers C ih ds (H.set b (.deferred false)) | _ => none) = _
    rw [h]
    exact k.run
/-- What a function's end asks. -/
def Fin (C : Ctx) (fn : Func) (Q : Value → AH → Prop) : AExit → AFr → AH → Prop
  | .exit _ => fun _ _ => False
  | _ => fun fr H => ∃ H2 v, Adf fr.ds H H2 ∧ aresults C fn fr.tm H2 = some v ∧ Q v H2
theorem FW.of_body {f : FuncId} {args : List Value} {H : AH} {Q : Value → AH → Prop} {fn : Func} {c : Code} (hk : C.hook f args H = none) (hf : C.fn f = some fn) (hb : fn.body = some c)
    (h : W C c { tm := T.lay args .leaf 0, n := Nat.max args.length fn.ntmps, ds := [], rnd := none } H (Fin C fn Q)) : FW C f args H Q := by
  obtain ⟨e, fr, H1, ⟨N, hN⟩, q⟩ := h
  have key : ∀ (e : AExit), (∀ id, e ≠ .exit id) → (∃ H2 v, Adf fr.ds H1 H2 ∧ aresults C fn fr.tm H2 = some v ∧ Q v H2) → (∀ n, N ≤ n → eng C n c { tm := T.lay args .leaf 0, n := Nat.max args.length fn.ntmps, ds := [], rnd := none } H = .ok e fr H1) → FW C f args H Q := by
    intro e he q hN
    obtain ⟨H2, v, h1, h2, h3⟩ := q
    refine ⟨v, H2, ⟨N, fun n hn => ?_⟩, h3⟩
    unfold afun
    rw [hk]
    unfold afunB abody
    simp only [hf, hb, hN n hn]
    cases e with
    | exit id => exact absurd rfl (he id)
    | normal => simp only [h1.run, h2]
    | ret => simp only [h1.run, h2]
  cases e with
  | exit id => exact q.elim
  | normal => exact key .normal (by simp) q hN
  | ret => exact key .ret (by simp) q hN
theorem tget_set (tm : T Value) (d j : Nat) (v : Value) : tget (tm.set d v) j = if j = d then v else tget tm j := by
  unfold tget; rw [T.get_set]; by_cases h : j = d <;> simp [h]
theorem tset_some {n : Nat} (tm : T Value) {d : Tmp} (v : Value) (h : d < n) : tset n tm (some d) v = tm.set d v := by
  show (bif Nat.blt d n then _ else _) = _
  rw [show Nat.blt d n = true from by rw [Nat.blt_eq]; exact h, cond_true]
theorem tset_none (n : Nat) (tm : T Value) (v : Value) : tset n tm none v = tm := rfl
theorem tget_lay (l : List Value) (j : Nat) : tget (T.lay l .leaf 0) j = l.getD j undef := by
  unfold tget
  rw [T.get_lay]
  by_cases h : j < l.length
  · rw [if_pos ⟨Nat.zero_le _, by omega⟩]; simp [List.getD, h]
  · rw [if_neg (by omega)]; simp [List.getD, List.getElem?_eq_none (Nat.le_of_not_lt h)]
theorem aev_tmp (tm : T Value) (t : Tmp) : aev tm (.tmp t) = tget tm t := rfl
theorem aev_const {tm : T Value} {v : Value} (h : closedV 4 v = true) : aev tm (.const v) = v := by
  show (bif closedV 4 v then v else junk) = v
  rw [h, cond_true]
theorem aev_func (tm : T Value) (f : FuncId) : aev tm (.func f) = .func (.func f) ⟨[]⟩ ⟨[]⟩ := rfl
theorem awanted_none {ops : List Oper} {o : Oper} {n : Nat} {tm : T Value} (h : o.guard = none) : awanted ops o n tm = some true := by
  unfold awanted; rw [h]
/-- One operation that is no call, no guard before it. -/
theorem Wops.cons {all l : List Oper} {o : Oper} {fr : AFr} {H H' : AH} {v : Value} {Q : AFr → AH → Prop} (hg : o.guard = none) (hc : opCall o.op = none) (hp : opPlain o.op = true)
    (h : aopN C (aev fr.tm) o.op H = some (v, H')) (k : Wops C all l { fr with tm := tset fr.n fr.tm o.dst v } H' Q) : Wops C all (o :: l) fr H Q :=
  ⟨true, awanted_none hg, by rw [if_pos rfl]; unfold Wo; rw [hc]; exact ⟨hp, v, H', h, k⟩⟩
theorem Wops.call {all l : List Oper} {o : Oper} {fr : AFr} {H : AH} {c : Call} {t : ATgt} {Q : AFr → AH → Prop} (hg : o.guard = none) (hc : opCall o.op = some c) (ht : acallee C (aev fr.tm) c = some t)
    (k : CW C t H fun v H' => Wops C all l { fr with tm := tset fr.n fr.tm o.dst v } H' Q) : Wops C all (o :: l) fr H Q :=
  ⟨true, awanted_none hg, by rw [if_pos rfl]; unfold Wo; rw [hc]; exact ⟨t, ht, k⟩⟩
theorem aopN_pure {ev : Operand → Value} {o : Op} {H : AH} {v : Value} (h : apure C ev o = some v) : aopN C ev o H = some (v, H) := by
  unfold aopN; rw [h]
end
end Go.Eng
/- Memory as lists of cells; what each operation asks and does. -/
namespace Go.Eng
open Go
/-! ### Memory -/
noncomputable def AH.cel (H : AH) (b i : Nat) : Option Value := match H.get b with
  | some (.cells k) => if i < k.n then some (k.cell i) else none
  | _ => none
noncomputable def AH.row (H : AH) (b o n : Nat) : Option (List Value) := match H.get b with
  | some (.cells k) => if o + n ≤ k.n then some (acellsF k n o) else none
  | _ => none
/-- The block b holds the cells l; may it be written (ro = false); of what size its elements are. -/
def Mem (H : AH) (b : Nat) (l : List Value) (ro : Bool) (sz : Nat) : Prop := ∃ k, H.get b = some (.cells k) ∧ k.ro = ro ∧ k.sz = sz ∧ k.n = l.length ∧ ∀ i, i < k.n → l[i]? = some (k.cell i)
theorem Mem.cel {H : AH} {b : Nat} {l : List Value} {ro : Bool} {sz : Nat} (h : Mem H b l ro sz) (i : Nat) : H.cel b i = l[i]? := by
  obtain ⟨k, h1, _, _, h2, h3⟩ := h
  unfold AH.cel
  simp only [h1]
  by_cases hi : i < k.n
  · rw [if_pos hi, h3 i hi]
  · rw [if_neg hi, List.getElem?_eq_none (by omega)]
theorem Mem.row {H : AH} {b : Nat} {l : List Value} {ro : Bool} {sz : Nat} (h : Mem H b l ro sz) (o n : Nat) (hn : o + n ≤ l.length) : H.row b o n = some ((l.drop o).take n) := by
  obtain ⟨k, h1, _, _, h2, h3⟩ := h
  unfold AH.row
  simp only [h1]
  rw [if_pos (by omega)]
  congr 1
  apply List.ext_getElem?
  intro i
  rw [acellsF_get, List.getElem?_take]
  split
  · rename_i hi; rw [List.getElem?_drop, h3 _ (by omega)]
  · rfl
theorem Mem.get {H : AH} {b : Nat} {l : List Value} {ro : Bool} {sz : Nat} (h : Mem H b l ro sz) : ∃ k, H.get b = some (.cells k) := ⟨_, h.choose_spec.1⟩
theorem Mem.congr {H H' : AH} {b : Nat} {l : List Value} {ro : Bool} {sz : Nat} (h : Mem H b l ro sz) (e : H'.get b = H.get b) : Mem H' b l ro sz := by
  obtain ⟨k, h1, h2⟩ := h; exact ⟨k, e.trans h1, h2⟩
/-- Cells are put into a block. -/
noncomputable def AH.put (H : AH) (b o : Nat) (vs : List Value) : AH := match H.get b with
  | some (.cells k) => H.set b (.cells { k with tr := T.lay vs k.tr o })
  | _ => H
theorem AH.put_next (H : AH) (b o : Nat) (vs : List Value) : (H.put b o vs).next = H.next := by unfold AH.put; split <;> rfl
theorem AH.put_get_ne (H : AH) {b b' o : Nat} (vs : List Value) (h : b' ≠ b) : (H.put b o vs).get b' = H.get b' := by
  unfold AH.put; split
  · rw [AH.get_set, if_neg h]
  · rfl
theorem blk_lay_cell (k : Blk) (vs : List Value) (o i : Nat) : ({ k with tr := T.lay vs k.tr o } : Blk).cell i = if o ≤ i ∧ i < o + vs.length then vs.getD (i - o) undef else k.cell i := by
  rw [Blk.cell_eq, Blk.cell_eq, T.get_lay]
  split
  · rename_i h
    simp [List.getD, List.getElem?_eq_getElem (show i - o < vs.length by omega)]
  · rfl
theorem Mem.put {H : AH} {b : Nat} {l : List Value} {ro : Bool} {sz : Nat} (h : Mem H b l ro sz) (o : Nat) (vs : List Value) (hn : o + vs.length ≤ l.length) : Mem (H.put b o vs) b (l.take o ++ vs ++ l.drop (o + vs.length)) ro sz := by
  obtain ⟨k, h1, h2, h3, h4, h5⟩ := h
  refine ⟨{ k with tr := T.lay vs k.tr o }, ?_, h2, h3, ?_, ?_⟩
  · unfold AH.put; simp only [h1]; rw [AH.get_set, if_pos rfl]
  · simp only [List.length_append, List.length_take, List.length_drop]; omega
  · intro i hi
    simp only at hi
    rw [blk_lay_cell]
    have ht : (l.take o).length = o := by rw [List.length_take]; omega
    by_cases c : o ≤ i ∧ i < o + vs.length
    · rw [if_pos c, List.append_assoc, List.getElem?_append_right (by omega), ht, List.getElem?_append_left (by omega)]
      simp [List.getD, List.getElem?_eq_getElem (show i - o < vs.length by omega)]
    · rw [if_neg c, ← h5 i hi]
      by_cases c1 : i < o
      · rw [List.append_assoc, List.getElem?_append_left (by omega), List.getElem?_take, if_pos c1]
      · rw [List.getElem?_append_right (by rw [List.length_append]; omega), List.length_append, ht, List.getElem?_drop]
        congr 1; omega
/-- A new block. -/
theorem Mem.push {H : AH} {k : Blk} {l : List Value} (hn : k.n = l.length) (h : ∀ i, i < k.n → l[i]? = some (k.cell i)) : Mem (H.push (.cells k)) H.next l k.ro k.sz :=
  ⟨k, by rw [AH.get_push, if_pos rfl], rfl, rfl, hn, h⟩
theorem cell_lay0 (n sz : Nat) (z : List Value) (l : List Value) (i : Nat) (hi : i < l.length) : ({ n := n, sz := sz, tr := T.lay l .leaf 0, zero := z } : Blk).cell i = l[i] := by
  rw [Blk.cell_eq, T.get_lay, if_pos ⟨Nat.zero_le _, by omega⟩]
  simp [hi]
theorem Mem.push_lay (H : AH) (sz : Nat) (z l : List Value) {n : Nat} (hn : n = l.length) : Mem (H.push (.cells { n := n, sz := sz, tr := T.lay l .leaf 0, zero := z })) H.next l false sz :=
  Mem.push hn fun i hi => by subst hn; rw [cell_lay0 _ _ _ _ _ hi]; exact List.getElem?_eq_getElem hi
theorem Mem.push_zero (H : AH) (n sz : Nat) (z : List Value) : Mem (H.push (.cells { n := n, sz := sz, tr := .leaf, zero := z })) H.next ((List.range n).map fun i => z.getD (i % z.length) undef) false sz :=
  Mem.push (by simp) fun i hi => by
    rw [Blk.cell_eq]
    show _ = some (z.getD (i % z.length) undef)
    have hi : i < n := hi
    rw [List.getElem?_map, List.getElem?_range hi]; rfl
/-- Where nothing was laid yet there is nothing. -/
def WF (H : AH) : Prop := ∀ b, H.next ≤ b → H.get b = none
theorem Mem.lt {H : AH} {b : Nat} {l : List Value} {ro : Bool} {sz : Nat} (h : Mem H b l ro sz) (w : WF H) : b < H.next := by
  obtain ⟨k, h1, _⟩ := h
  rcases Nat.lt_or_ge b H.next with q | q
  · exact q
  · rw [w b q] at h1; cases h1
theorem WF.push {H : AH} (w : WF H) (o : AObj) : WF (H.push o) := fun b hb => by
  have hb : H.next + 1 ≤ b := hb
  rw [AH.get_push, if_neg (by omega)]; exact w b (by omega)
theorem WF.put {H : AH} (w : WF H) (b o : Nat) (vs : List Value) : WF (H.put b o vs) := fun c hc => by
  rw [AH.put_next] at hc
  by_cases e : c = b
  · subst e; unfold AH.put; rw [w c hc]; exact w c hc
  · rw [AH.put_get_ne _ _ e]; exact w c hc
theorem WF.kill {H : AH} (w : WF H) (b : Nat) : WF (H.kill b) := fun c hc => by
  rw [AH.get_kill]; split
  · rfl
  · exact w c hc
theorem WF.set {H : AH} (w : WF H) {b : Nat} (o : AObj) (hb : b < H.next) : WF (H.set b o) := fun c hc => by
  have hc : H.next ≤ c := hc
  rw [AH.get_set, if_neg (by omega)]; exact w c hc
/-- What was there, but for the blocks of a list, is as it was; new blocks may have come. -/
structure Keep (H H' : AH) (S : List Nat) : Prop where
  next : H.next ≤ H'.next
  get : ∀ b, b < H.next → b ∉ S → H'.get b = H.get b
theorem Keep.refl (H : AH) (S : List Nat) : Keep H H S := ⟨Nat.le_refl _, fun _ _ _ => rfl⟩
theorem Keep.trans {H H' H'' : AH} {S : List Nat} (h : Keep H H' S) (k : Keep H' H'' S) : Keep H H'' S :=
  ⟨Nat.le_trans h.next k.next, fun b hb hs => (k.get b (Nat.lt_of_lt_of_le hb h.next) hs).trans (h.get b hb hs)⟩
theorem Keep.mono {H H' : AH} {S S' : List Nat} (h : Keep H H' S) (hs : ∀ b, b ∈ S → b ∈ S') : Keep H H' S' :=
  ⟨h.next, fun b hb k => h.get b hb fun q => k (hs b q)⟩
/-- What is new to H may be touched at will. -/
theorem Keep.old {H H' : AH} {S S' : List Nat} (h : Keep H H' S) (hs : ∀ b, b ∈ S → b < H.next → b ∈ S') : Keep H H' S' :=
  ⟨h.next, fun b hb k => h.get b hb fun q => k (hs b q hb)⟩
theorem Keep.push (H : AH) (o : AObj) (S : List Nat) : Keep H (H.push o) S := ⟨by simp, fun b hb _ => by rw [AH.get_push, if_neg (by omega)]⟩
theorem Keep.put (H : AH) (b o : Nat) (vs : List Value) {S : List Nat} (hb : b ∈ S) : Keep H (H.put b o vs) S :=
  ⟨by rw [AH.put_next]; exact Nat.le_refl _, fun c _ hc => AH.put_get_ne _ _ fun e => hc (by rw [e]; exact hb)⟩
theorem Keep.kill (H : AH) (b : Nat) {S : List Nat} (hb : b ∈ S) : Keep H (H.kill b) S :=
  ⟨Nat.le_refl _, fun c _ hc => by rw [AH.get_kill, if_neg fun e => hc (by rw [e]; exact hb)]⟩
theorem Keep.set (H : AH) (b : Nat) (o : AObj) {S : List Nat} (hb : b ∈ S) : Keep H (H.set b o) S :=
  ⟨Nat.le_refl _, fun c _ hc => by rw [AH.get_set, if_neg fun e => hc (by rw [e]; exact hb)]⟩
theorem Mem.keep {H H' : AH} {b : Nat} {l : List Value} {ro : Bool} {sz : Nat} {S : List Nat} (h : Mem H b l ro sz) (w : WF H) (k : Keep H H' S) (hb : b ∉ S) : Mem H' b l ro sz := h.congr (k.get b (h.lt w) hb)
end Go.Eng
/- What an operation asks, and what it does: rules. -/
namespace Go.Eng
open Go
section
variable (C : Ctx)
def withTI (t : TypeId) (K : TI → Prop) : Prop := match C.ti t with
  | some i => K i
  | none => False
def AH.canPut (H : AH) (b o n : Nat) : Prop := ∃ k, H.get b = some (.cells k) ∧ o + n ≤ k.n ∧ k.ro = false
noncomputable def AH.new (H : AH) (vs : List Value) : AH := H.push (.cells { n := vs.length, sz := 1, tr := .leaf, zero := vs })
def wPtr (v : Value) (K : Nat → Nat → Prop) : Prop := match v with
  | .pointer (some ⟨b, o, none⟩) => K b o
  | _ => False
def wSl (v : Value) (K : Option Addr → Nat → Nat → Prop) : Prop := match v with
  | .slice a n c => K a n c
  | _ => False
def wInt (v : Value) (K : Int → Prop) : Prop := match v with
  | .int _ n => K n
  | _ => False
def wNil (v : Value) (K : Value → Prop) : Prop := match v with
  | .pointer (some a) => K (.pointer (some a))
  | .func (.func f) a b => K (.func (.func f) a b)
  | _ => False
def wPick (c a b : Value) (K : Value → Prop) : Prop := match c with
  | .bool x => K (if x = true then a else b)
  | _ => False
def wLoad (H : AH) (i : TI) (v : Value) (K : Value → Prop) : Prop := wPtr v fun b o =>
  bif i.agg then (∃ l, H.row b o i.size = some l ∧ K (.agg ⟨l⟩)) else ∃ x, H.cel b o = some x ∧ K x
def wStore (H : AH) (i : TI) (a x : Value) (K : AH → Prop) : Prop := wPtr a fun b o =>
  (cellsOfV x).length = i.size ∧ 0 < i.size ∧ (cellsOfV x).all oneCellV = true ∧ H.canPut b o i.size ∧ K (H.put b o (cellsOfV x))
def wFld (i : TI) (f : Nat) (v : Value) (K : Value → Prop) : Prop := wPtr v fun b o => match i.desc with
  | .struct _ => ∃ p, i.places[f]? = some p ∧ 0 < p.2 ∧ K (.pointer (some ⟨b, o + p.1, none⟩))
  | _ => False
def wIdx (i : TI) (x ix : Value) (K : Value → Prop) : Prop := wInt ix fun z => match i.desc, x with
  | .slice e, .slice (some ⟨b, o, _⟩) len _ => withTI C e fun j => 0 ≤ z ∧ z < len ∧ K (.pointer (some ⟨b, o + z.toNat * j.size, none⟩))
  | .array len e, .pointer (some ⟨b, o, none⟩) => withTI C e fun j => 0 ≤ z ∧ z < len ∧ K (.pointer (some ⟨b, o + z.toNat * j.size, none⟩))
  | _, _ => False
def wBin (H : AH) (op : BinOp) (t : TypeId) (cst : Bool) (x y : Value) (K : Value → Prop) : Prop := match op, x, y with
  | .add, .int j a, .int k b => j = k ∧ K (.int j (awrap j (a + b)))
  | .sub, .int j a, .int k b => j = k ∧ K (.int j (awrap j (a - b)))
  | .mul, .int j a, .int k b => j = k ∧ K (.int j (awrap j (a * b)))
  | .rem, .int j a, .int k b => j = k ∧ b ≠ 0 ∧ K (.int j (Int.tmod a b))
  | .eql, .int j a, .int k b => j = k ∧ K (.bool (decide (a = b)))
  | .neq, .int j a, .int k b => j = k ∧ K (.bool (!decide (a = b)))
  | .lss, .int j a, .int k b => j = k ∧ K (.bool (decide (a < b)))
  | .leq, .int j a, .int k b => j = k ∧ K (.bool (decide (a ≤ b)))
  | .gtr, .int j a, .int k b => j = k ∧ K (.bool (decide (b < a)))
  | .geq, .int j a, .int k b => j = k ∧ K (.bool (decide (b ≤ a)))
  | op, x, y => ∃ v, (match abin C (fun _ _ => none) op t cst x y with | some v => some v | none => abin C (aptrEq H) op t cst x y) = some v ∧ K v
def wUn (op : UnOp) (x : Value) (K : Value → Prop) : Prop := match op, x with
  | .neg, .int k n => K (.int k (awrap k (-n)))
  | .not, .bool b => K (.bool (!b))
  | _, _ => False
def wCall (ev : Operand → Value) (c : Call) (H : AH) (K : Value → AH → Prop) : Prop := match c.callee with
  | .value f => (match ev f with
    | .func (.func g) ⟨first⟩ ⟨cap⟩ => CW C (.fn g ((first ++ c.args.toList.map ev) ++ cap)) H K
    | .func (.yield l) ⟨[]⟩ ⟨[]⟩ => CW C (.round l (c.args.toList.map ev)) H K
    | _ => False)
  | .invoke _ _ => ∃ t, acallee C ev c = some t ∧ CW C t H K
  | .builtin _ => False
def wLen (i : TI) (x : Value) (K : Value → Prop) : Prop := match i.desc, x with
  | .slice _, .slice _ n _ => K (.int .i64 (n : Int))
  | .string, .string s => K (.int .i64 (s.data.toList.length : Int))
  | _, _ => False
/-- One operation. -/
def wo (ev : Operand → Value) (o : Op) (H : AH) (K : Value → AH → Prop) : Prop := match o with
  | .move x => K (ev x) H
  | .assign x => K (ev x) H
  | .pick c a b => wPick (ev c) (ev a) (ev b) fun v => K v H
  | .alloc t => withTI C t fun i => K (.pointer (some ⟨H.next, 0, none⟩)) (H.new i.zero)
  | .box _ x => 0 < (cellsOfV (ev x)).length ∧ K (.pointer (some ⟨H.next, 0, none⟩)) (H.new (cellsOfV (ev x)))
  | .nilCheck x => wNil (ev x) fun v => K v H
  | .binOp op t x y _ => wBin C H op t (isConstO x || isConstO y) (ev x) (ev y) fun v => K v H
  | .unOp op _ x => wUn op (ev x) fun v => K v H
  | .fieldAddr t x f => withTI C t fun i => wFld i f (ev x) fun v => K v H
  | .load t x => withTI C t fun i => wLoad H i (ev x) fun v => K v H
  | .store t a x => withTI C t fun i => wStore H i (ev a) (ev x) fun H' => K undef H'
  | .indexAddr t x ix => withTI C t fun i => wIdx C i (ev x) (ev ix) fun v => K v H
  | .extract x ix => (match ev x with
    | .tuple ⟨vs⟩ => ∃ v, vs[ix]? = some v ∧ K v H
    | _ => False)
  | .call c => (match c.callee with
    | .builtin .len => (match c.args.toList, c.argTypes.toList with
      | [x], [t] => withTI C t fun i => wLen i (ev x) fun v => K v H
      | _, _ => False)
    | .builtin b => (match b with
      | .recover => False
      | _ => ∃ v H', aopN C ev (.call c) H = some (v, H') ∧ K v H')
    | _ => wCall C ev c H K)
  | .defer _ => False
  | o => ∃ v H', aopN C ev o H = some (v, H') ∧ K v H'
variable {C}
theorem withTI_iff {t : TypeId} {K : TI → Prop} (h : withTI C t K) : ∃ i, C.ti t = some i ∧ K i := by
  unfold withTI at h; split at h
  · rename_i i hi; exact ⟨i, hi, h⟩
  · exact h.elim
theorem wPtr_iff {v : Value} {K : Nat → Nat → Prop} (h : wPtr v K) : ∃ b o, v = .pointer (some ⟨b, o, none⟩) ∧ K b o := by
  unfold wPtr at h; split at h
  · exact ⟨_, _, rfl, h⟩
  · exact h.elim
theorem wInt_iff {v : Value} {K : Int → Prop} (h : wInt v K) : ∃ k n, v = .int k n ∧ K n := by
  unfold wInt at h; split at h
  · exact ⟨_, _, rfl, h⟩
  · exact h.elim
theorem ilt_dec (a b : Int) : ilt a b = decide (a < b) := by
  cases a with
  | ofNat a => cases b with
    | ofNat b => 
      show Nat.blt a b = _
      rw [Bool.eq_iff_iff, Nat.blt_eq]; simp
    | negSucc b => show false = _; rw [Bool.eq_iff_iff]; simp; omega
  | negSucc a => cases b with
    | ofNat b => show true = _; rw [Bool.eq_iff_iff]; simp; omega
    | negSucc b => show Nat.blt b a = _; rw [Bool.eq_iff_iff, Nat.blt_eq]; simp; omega
theorem ieq_dec (a b : Int) : ieq a b = decide (a = b) := by
  cases a with
  | ofNat a => cases b with
    | ofNat b => show Nat.beq a b = _; rw [Bool.eq_iff_iff, Nat.beq_eq]; simp [Int.natCast_inj]
    | negSucc b => show false = _; rw [Bool.eq_iff_iff]; simp
  | negSucc a => cases b with
    | ofNat b => show false = _; rw [Bool.eq_iff_iff]; simp
    | negSucc b => show Nat.beq a b = _; rw [Bool.eq_iff_iff, Nat.beq_eq]; simp
theorem kindEq_self (k : IntKind) : kindEq k k = true := by cases k <;> rfl
theorem awrap_id {n : Int} (h1 : -9223372036854775808 ≤ n) (h2 : n < 9223372036854775808) : awrap .i64 n = n := by
  cases n with
  | ofNat m => show (bif Nat.blt m 9223372036854775808 then _ else _) = _; rw [show Nat.blt m 9223372036854775808 = true by rw [Nat.blt_eq]; simp at h2; omega, cond_true]
  | negSucc m => show (bif Nat.blt m 9223372036854775808 then _ else _) = _; rw [show Nat.blt m 9223372036854775808 = true by rw [Nat.blt_eq]; omega, cond_true]
theorem wBin_ok {H : AH} {op : BinOp} {t : TypeId} {x y : Operand} {u : TypeId} {ev : Operand → Value} {K : Value → Prop} (h : wBin C H op t (isConstO x || isConstO y) (ev x) (ev y) K) :
    ∃ v, aopN C ev (.binOp op t x y u) H = some (v, H) ∧ K v := by
  have key : ∀ v, (match abin C (fun _ _ => none) op t (isConstO x || isConstO y) (ev x) (ev y) with | some v => some v | none => abin C (aptrEq H) op t (isConstO x || isConstO y) (ev x) (ev y)) = some v →
      aopN C ev (.binOp op t x y u) H = some (v, H) := by
    intro v hv
    unfold aopN
    show (match abin C (fun _ _ => none) op t (isConstO x || isConstO y) (ev x) (ev y) with
      | some v => some (v, H)
      | none => (match abin C (aptrEq H) op t (isConstO x || isConstO y) (ev x) (ev y) with
        | some v => some (v, H)
        | none => _)) = _
    cases hq : abin C (fun _ _ => none) op t (isConstO x || isConstO y) (ev x) (ev y) with
    | some q => simp only [hq] at hv ⊢; cases hv; rfl
    | none => simp only [hq] at hv ⊢; simp only [hv]
  have ik : ∀ {j k : IntKind} {a b : Int} {r : Value}, ev x = .int j a → ev y = .int k b → j = k → aint op j a b = some r → aopN C ev (.binOp op t x y u) H = some (r, H) := by
    intro j k a b r e1 e2 e3 e4
    subst e3
    refine key _ ?_
    rw [e1, e2]
    show (match (bif kindEq j j then aint op j a b else none) with | some v => some v | none => _) = _
    rw [kindEq_self, cond_true, e4]
  unfold wBin at h
  split at h
  · rename_i e1 e2; exact ⟨_, ik e1 e2 h.1 rfl, h.2⟩
  · rename_i e1 e2; exact ⟨_, ik e1 e2 h.1 rfl, h.2⟩
  · rename_i e1 e2; exact ⟨_, ik e1 e2 h.1 rfl, h.2⟩
  · rename_i e1 e2
    refine ⟨_, ik e1 e2 h.1 ?_, h.2.2⟩
    show (bif ieq _ 0 then none else _) = _
    rw [ieq_dec, decide_eq_false h.2.1, cond_false]
  · rename_i e1 e2; refine ⟨_, ik e1 e2 h.1 ?_, h.2⟩; show some (Value.bool (ieq _ _)) = _; rw [ieq_dec]
  · rename_i e1 e2; refine ⟨_, ik e1 e2 h.1 ?_, h.2⟩; show some (Value.bool (!ieq _ _)) = _; rw [ieq_dec]
  · rename_i e1 e2; refine ⟨_, ik e1 e2 h.1 ?_, h.2⟩; show some (Value.bool (ilt _ _)) = _; rw [ilt_dec]
  · rename_i e1 e2; refine ⟨_, ik e1 e2 h.1 ?_, h.2⟩; show some (Value.bool (!ilt _ _)) = _; rw [ilt_dec]; congr 2; rw [Bool.eq_iff_iff]; simp
  · rename_i e1 e2; refine ⟨_, ik e1 e2 h.1 ?_, h.2⟩; show some (Value.bool (ilt _ _)) = _; rw [ilt_dec]
  · rename_i e1 e2; refine ⟨_, ik e1 e2 h.1 ?_, h.2⟩; show some (Value.bool (!ilt _ _)) = _; rw [ilt_dec]; congr 2; rw [Bool.eq_iff_iff]; simp
  · obtain ⟨v, hv, k⟩ := h
    exact ⟨v, key v hv, k⟩
theorem AH.row_load {H : AH} {i : TI} {t : TypeId} {x : Operand} {ev : Operand → Value} {b o : Nat} {K : Value → Prop} (ht : C.ti t = some i) (hx : ev x = .pointer (some ⟨b, o, none⟩))
    (h : bif i.agg then (∃ l, H.row b o i.size = some l ∧ K (.agg ⟨l⟩)) else ∃ x, H.cel b o = some x ∧ K x) : ∃ v, aopN C ev (.load t x) H = some (v, H) ∧ K v := by
  have L : ∀ v, aread C ev (.load t x) H = some v → aopN C ev (.load t x) H = some (v, H) := fun v hv => by
    unfold aopN
    show (match aread C ev (.load t x) H with | some v => some (v, H) | none => _) = _
    rw [hv]
  cases ha : i.agg with
  | true =>
    rw [ha, cond_true] at h
    obtain ⟨l, h1, h2⟩ := h
    refine ⟨_, L _ ?_, h2⟩
    unfold AH.row at h1
    unfold aread
    simp only [hx, ht]
    split at h1
    · rename_i k hk
      simp only [hk, ha, cond_true]
      split at h1
      · rename_i hn
        cases h1
        rw [show Nat.ble (o + i.size) k.n = true by rw [Nat.ble_eq]; exact hn, cond_true]
      · cases h1
    · cases h1
  | false =>
    rw [ha, cond_false] at h
    obtain ⟨l, h1, h2⟩ := h
    refine ⟨_, L _ ?_, h2⟩
    unfold AH.cel at h1
    unfold aread
    simp only [hx, ht]
    split at h1
    · rename_i k hk
      simp only [hk, ha, cond_false]
      split at h1
      · rename_i hn
        cases h1
        rw [show Nat.blt o k.n = true by rw [Nat.blt_eq]; exact hn, cond_true]
      · cases h1
    · cases h1
theorem wStore_ok {H : AH} {i : TI} {t : TypeId} {a x : Operand} {ev : Operand → Value} {K : AH → Prop} (ht : C.ti t = some i) (h : wStore H i (ev a) (ev x) K) : ∃ H', aopN C ev (.store t a x) H = some (undef, H') ∧ K H' := by
  obtain ⟨b, o, ha, h1, h2, h3, ⟨k, k1, k2, k3⟩, h5⟩ := wPtr_iff h
  refine ⟨_, ?_, h5⟩
  unfold aopN
  show aeff C ev (.store t a x) H = _
  unfold aeff
  simp only [ha, ht]
  rw [show someCells (ev x) i.size = true by unfold someCells; rw [h1]; simp [Nat.blt_eq, h2], cond_true]
  unfold astoreAt AH.put
  simp only [k1]
  rw [show (Nat.ble (o + (cellsOfV (ev x)).length) k.n && (cellsOfV (ev x)).all oneCellV && !k.ro) = true by rw [h1]; simp [k2, k3, h3], cond_true]
/-- The rules are true. -/
theorem wo_ok {ev : Operand → Value} {o : Op} {H : AH} {K : Value → AH → Prop} (h : wo C ev o H K) : Wo C ev o H K := by
  have N : ∀ {v : Value} {H' : AH}, opCall o = none → opPlain o = true → aopN C ev o H = some (v, H') → K v H' → Wo C ev o H K := fun h1 h2 h3 h4 => by
    unfold Wo; rw [h1]; exact ⟨h2, _, _, h3, h4⟩
  cases o
  case move x => exact N rfl rfl (aopN_pure rfl) h
  case assign x => exact N rfl rfl (aopN_pure rfl) h
  case pick c a b =>
    have h : wPick (ev c) (ev a) (ev b) (fun v => K v H) := h
    unfold wPick at h
    split at h
    · rename_i x hx
      refine N rfl rfl (aopN_pure ?_) h
      show (match ev c with | .bool true => some (ev a) | .bool false => some (ev b) | _ => none) = _
      rw [hx]; cases x <;> rfl
    · exact h.elim
  case alloc t =>
    obtain ⟨i, hi, k⟩ := withTI_iff (show withTI C t (fun i => K (.pointer (some ⟨H.next, 0, none⟩)) (H.new i.zero)) from h)
    refine N rfl rfl ?_ k
    unfold aopN
    show (match aalloc C ev (.alloc t) with | some (obj, nv) => _ | none => _) = _
    unfold aalloc
    simp only [hi]
    rfl
  case box t x =>
    have h : 0 < (cellsOfV (ev x)).length ∧ K (.pointer (some ⟨H.next, 0, none⟩)) (H.new (cellsOfV (ev x))) := h
    refine N rfl rfl ?_ h.2
    unfold aopN
    show (match aalloc C ev (.box t x) with | some (obj, nv) => _ | none => _) = _
    unfold aalloc
    simp only
    rw [show Nat.blt 0 (cellsOfV (ev x)).length = true by rw [Nat.blt_eq]; exact h.1, cond_true]
    rfl
  case nilCheck x =>
    have h : wNil (ev x) (fun v => K v H) := h
    unfold wNil at h
    split at h
    · rename_i hx; refine N rfl rfl (aopN_pure ?_) h; simp only [apure, hx]
    · rename_i hx; refine N rfl rfl (aopN_pure ?_) h; simp only [apure, hx]
    · exact h.elim
  case binOp op t x y u =>
    obtain ⟨v, h1, h2⟩ := wBin_ok (u := u) (show wBin C H op t (isConstO x || isConstO y) (ev x) (ev y) (fun v => K v H) from h)
    exact N rfl rfl h1 h2
  case unOp op t x =>
    have h2 : wUn op (ev x) (fun v => K v H) := h
    clear h
    unfold wUn at h2
    split at h2
    · rename_i k n hx
      refine N rfl rfl (aopN_pure ?_) h2
      show (match UnOp.neg, ev x with | .neg, .int k n => some (Value.int k (awrap k (Int.sub 0 n))) | .not, .bool b => some (Value.bool (!b)) | _, _ => none) = _
      rw [hx]
      show some (Value.int k (awrap k (0 - n))) = _
      rw [Int.zero_sub]
    · rename_i b hx
      refine N rfl rfl (aopN_pure ?_) h2
      show (match UnOp.not, ev x with | .neg, .int k n => some (Value.int k (awrap k (Int.sub 0 n))) | .not, .bool b => some (Value.bool (!b)) | _, _ => none) = _
      rw [hx]
    · exact h2.elim
  case fieldAddr t x f =>
    obtain ⟨i, hi, k⟩ := withTI_iff (show withTI C t (fun i => wFld i f (ev x) fun v => K v H) from h)
    obtain ⟨b, o, hx, k⟩ := wPtr_iff k
    split at k
    · rename_i fs hd
      obtain ⟨p, p1, p2, p3⟩ := k
      refine N rfl rfl (aopN_pure ?_) p3
      obtain ⟨p, q⟩ := p
      simp only [apure, hi, hx, hd, p1]
      rw [show Nat.beq q 0 = false by rw [Bool.eq_false_iff, Ne, Nat.beq_eq]; simp at p2; omega, cond_false]
    · exact k.elim
  case load t x =>
    obtain ⟨i, hi, k⟩ := withTI_iff (show withTI C t (fun i => wLoad H i (ev x) fun v => K v H) from h)
    obtain ⟨b, o, hx, k⟩ := wPtr_iff k
    obtain ⟨v, h1, h2⟩ := AH.row_load (H := H) (K := fun v => K v H) hi hx k
    exact N rfl rfl h1 h2
  case store t a x =>
    obtain ⟨i, hi, k⟩ := withTI_iff (show withTI C t (fun i => wStore H i (ev a) (ev x) fun H' => K undef H') from h)
    obtain ⟨H', h1, h2⟩ := wStore_ok hi k
    exact N rfl rfl h1 h2
  case indexAddr t x ix =>
    obtain ⟨i, hi, k⟩ := withTI_iff (show withTI C t (fun i => wIdx C i (ev x) (ev ix) fun v => K v H) from h)
    obtain ⟨kk, z, hz, k⟩ := wInt_iff k
    split at k
    · rename_i e b o sp len cp hd hx
      obtain ⟨j, hj, k1, k2, k3⟩ := withTI_iff k
      refine N rfl rfl (aopN_pure ?_) k3
      obtain ⟨n, rfl⟩ := Int.eq_ofNat_of_zero_le k1
      simp only [apure, hi, hz, hd, hx, hj]
      show (bif Nat.blt n len then _ else _) = _
      rw [show Nat.blt n len = true by rw [Nat.blt_eq]; omega, cond_true]
      rfl
    · rename_i len e b o hd hx
      obtain ⟨j, hj, k1, k2, k3⟩ := withTI_iff k
      refine N rfl rfl (aopN_pure ?_) k3
      obtain ⟨n, rfl⟩ := Int.eq_ofNat_of_zero_le k1
      simp only [apure, hi, hz, hd, hx, hj]
      show (bif Nat.blt n len then _ else _) = _
      rw [show Nat.blt n len = true by rw [Nat.blt_eq]; omega, cond_true]
      rfl
    · exact k.elim
  case extract x ix =>
    have h : (match ev x with | .tuple ⟨vs⟩ => ∃ v, vs[ix]? = some v ∧ K v H | _ => False) := h
    split at h
    · rename_i vs hx
      obtain ⟨v, h1, h2⟩ := h
      refine N rfl rfl (aopN_pure ?_) h2
      simp only [apure, hx]; exact h1
    · exact h.elim
  case call c =>
    obtain ⟨callee, args, tys⟩ := c
    cases callee with
    | builtin b =>
      cases b
      case len =>
        have h : (match args.toList, tys.toList with | [x], [t] => withTI C t fun i => wLen i (ev x) fun v => K v H | _, _ => False) := h
        split at h
        · rename_i x t h1 h2
          obtain ⟨i, hi, k⟩ := withTI_iff h
          unfold wLen at k
          split at k
          · rename_i hd hx
            refine N rfl rfl (aopN_pure ?_) k
            simp only [apure, h1, h2, hi, hd, hx]; rfl
          · rename_i hd hx
            refine N rfl rfl (aopN_pure ?_) k
            simp only [apure, h1, h2, hi, hd, hx]; rfl
          · exact k.elim
        · exact h.elim
      case recover => exact (show False from h).elim
      all_goals
        obtain ⟨v, H', h1, h2⟩ := (show ∃ v H', _ ∧ _ from h)
        exact N rfl rfl h1 h2
    | value f =>
      have h : (match ev f with
        | .func (.func g) ⟨first⟩ ⟨cap⟩ => CW C (.fn g ((first ++ args.toList.map ev) ++ cap)) H K
        | .func (.yield l) ⟨[]⟩ ⟨[]⟩ => CW C (.round l (args.toList.map ev)) H K
        | _ => False) := h
      unfold Wo
      show ∃ t, acallee C ev ⟨.value f, args, tys⟩ = some t ∧ CW C t H K
      unfold acallee
      simp only
      split at h
      · rename_i hx; rw [hx]; exact ⟨_, rfl, h⟩
      · rename_i hx; rw [hx]; exact ⟨_, rfl, h⟩
      · exact h.elim
    | invoke r m => exact h
  case defer => exact (show False from h).elim
  all_goals
    obtain ⟨v, H', h1, h2⟩ := (show ∃ v H', _ ∧ _ from h)
    exact N rfl rfl h1 h2
end
end Go.Eng
/- Code, walked by rewriting: each rule turns what is asked of a piece of code into what is asked of its parts. -/
namespace Go.Eng
open Go
section
variable (C : Ctx)
def wIf (b : Bool) (P Q : Prop) : Prop := (b = true → P) ∧ (b = false → Q)
def wBool (v : Value) (K : Bool → Prop) : Prop := match v with
  | .bool b => K b
  | _ => False
def wops (all : List Oper) : List Oper → AFr → AH → (AFr → AH → Prop) → Prop
  | [], fr, H, Q => Q fr H
  | o :: l, fr, H, Q => match o.guard with
    | none => wo C (aev fr.tm) o.op H fun v H' => wops all l { fr with tm := tset fr.n fr.tm o.dst v } H' Q
    | some _ => match awanted all o fr.n fr.tm with
      | some w => wIf w (wo C (aev fr.tm) o.op H fun v H' => wops all l { fr with tm := tset fr.n fr.tm o.dst v } H' Q) (wops all l { fr with tm := tset fr.n fr.tm o.dst undef } H Q)
      | none => False
mutual
def wp : Code → AFr → AH → (AExit → AFr → AH → Prop) → Prop
  | .skip, fr, H, Q => Q .normal fr H
  | .label _, fr, H, Q => Q .normal fr H
  | .seq a b, fr, H, Q => wp a fr H fun e fr1 H1 => match e with
    | .normal => wp b fr1 H1 Q
    | e => Q e fr1 H1
  | .cond x a b, fr, H, Q => wBool (aev fr.tm x) fun c => wIf c (wp a fr H Q) (wp b fr H Q)
  | .block id b, fr, H, Q => wp b fr H (Blkd id Q)
  | .scope b, fr, H, Q => wp b fr H Q
  | .exit id, fr, H, Q => Q (.exit id) fr H
  | .ret, fr, H, Q => Q .ret fr H
  | .region _ ops false, fr, H, Q => wops C ops.toList ops.toList fr H (Q .normal)
  | c, fr, H, Q => W C c fr H Q
end
end
section
variable {C : Ctx}
theorem wops_ok (all : List Oper) : ∀ (l : List Oper) (fr : AFr) (H : AH) (Q : AFr → AH → Prop), wops C all l fr H Q → Wops C all l fr H Q
  | [], fr, H, Q, h => h
  | o :: l, fr, H, Q, h => by
    have KO : ∀ (w : Bool), awanted all o fr.n fr.tm = some w → (w = true → wo C (aev fr.tm) o.op H fun v H' => wops C all l { fr with tm := tset fr.n fr.tm o.dst v } H' Q) →
        (w = false → wops C all l { fr with tm := tset fr.n fr.tm o.dst undef } H Q) → Wops C all (o :: l) fr H Q := by
      intro w hw h1 h2
      refine ⟨w, hw, ?_⟩
      cases w with
      | true =>
        rw [if_pos rfl]
        have := wo_ok (h1 rfl)
        unfold Wo at this ⊢
        split at this
        · obtain ⟨t, ht, v, H', r, q⟩ := this
          exact ⟨t, ht, v, H', r, wops_ok all l _ _ _ q⟩
        · obtain ⟨hp, v, H', r, q⟩ := this
          exact ⟨hp, v, H', r, wops_ok all l _ _ _ q⟩
      | false => rw [if_neg (by simp)]; exact wops_ok all l _ _ _ (h2 rfl)
    unfold wops at h
    split at h
    · rename_i hg
      exact KO true (awanted_none hg) (fun _ => h) (by simp)
    · split at h
      · rename_i w hw; exact KO w hw h.1 h.2
      · exact h.elim
theorem wp_ok : ∀ (c : Code) (fr : AFr) (H : AH) (Q : AExit → AFr → AH → Prop), wp C c fr H Q → W C c fr H Q := by
  intro c
  induction c with
  | skip => intro fr H Q h; exact W.skip h
  | label l => intro fr H Q h; exact ⟨_, _, _, .of_step 0 fun _ _ => rfl, h⟩
  | seq a b iha ihb =>
    intro fr H Q h
    refine W.seq ((iha fr H _ h).mono fun e fr1 H1 q => ?_)
    cases e with
    | normal => exact ihb _ _ _ q
    | exit id => exact q
    | ret => exact q
  | cond x a b iha ihb =>
    intro fr H Q h
    have h : wBool (aev fr.tm x) _ := h
    unfold wBool at h
    split at h
    · rename_i c hc; exact W.cond hc (fun e => iha _ _ _ (h.1 e)) (fun e => ihb _ _ _ (h.2 e))
    · exact h.elim
  | block id b ih => intro fr H Q h; exact W.block (ih _ _ _ h)
  | scope b ih => intro fr H Q h; exact W.scope (ih _ _ _ h)
  | exit id => intro fr H Q h; exact W.exit h
  | ret => intro fr H Q h; exact W.ret h
  | region id ops d =>
    intro fr H Q h
    cases d with
    | false => exact W.region (wops_ok _ _ _ _ _ h)
    | true => exact h
  | loop b => intro fr H Q h; exact h
  | rangeFunc f ps a b => intro fr H Q h; exact h
  | goto l => intro fr H Q h; exact h
  | refuse w => intro fr H Q h; exact h

def isStr : TypeDesc → Bool
  | .struct _ => true
  | _ => false
def isIfc : TypeDesc → Bool
  | .interface _ => true
  | _ => false
def isTxt : TypeDesc → Bool
  | .string => true
  | _ => false
def slEl : TypeDesc → Option TypeId
  | .slice e => some e
  | _ => none
def arEl : TypeDesc → Option (Nat × TypeId)
  | .array n e => some (n, e)
  | _ => none
@[simp] theorem slEl_slice (e : TypeId) : slEl (.slice e) = some e := rfl
@[simp] theorem arEl_array (n : Nat) (e : TypeId) : arEl (.array n e) = some (n, e) := rfl
@[simp] theorem isTxt_string : isTxt .string = true := rfl
noncomputable def tiOf (C : Ctx) (t : TypeId) : TI := match C.ti t with
  | some i => i
  | none => ⟨.tuple #[], 0, 0, undef, false, false, false, [], #[]⟩
def emptyStr : ByteArray := ⟨#[]⟩

/-! ### The rules as rewritings: what is asked next is looked at when what it hangs on is known: the tag keeps it shut till then -/
theorem nr {α : Sort _} {a b : α} (h : a = b) : a = b := h
inductive Tg {α : Type} (x : α) : Type
  | mk
inductive Tg2 (P Q : Prop) : Type
  | mk
def tIf (b : Bool) (P Q : Prop) (_ : Tg2 P Q) : Prop := wIf b P Q
@[simp] theorem tIf_true (P Q : Prop) (t : Tg2 P Q) : tIf true P Q t = P := by simp [tIf, wIf]
@[simp] theorem tIf_false (P Q : Prop) (t : Tg2 P Q) : tIf false P Q t = Q := by simp [tIf, wIf]
def tBool (v : Value) (K : Bool → Prop) (_ : Tg K) : Prop := wBool v K
@[simp] theorem tBool_bool (b : Bool) (K : Bool → Prop) (t : Tg K) : tBool (.bool b) K t = K b := rfl
def tPtr (v : Value) (K : Nat → Nat → Prop) (_ : Tg K) : Prop := wPtr v K
@[simp] theorem tPtr_ptr (b o : Nat) (K : Nat → Nat → Prop) (t : Tg K) : tPtr (.pointer (some ⟨b, o, none⟩)) K t = K b o := rfl
theorem wInt_int (k : IntKind) (n : Int) (K : Int → Prop) : wInt (.int k n) K = K n := rfl
def tLet (v : Value) (K : Value → Prop) (_ : Tg K) : Prop := K v
@[simp] theorem tLet_eq (v : Value) (K : Value → Prop) (t : Tg K) : tLet v K t = K v := nr rfl
def tNil (v : Value) (K : Value → Prop) (_ : Tg K) : Prop := wNil v K
@[simp] theorem tNil_ptr (a : Addr) (K : Value → Prop) (t : Tg K) : tNil (.pointer (some a)) K t = K (.pointer (some a)) := rfl
@[simp] theorem tNil_func (f : FuncId) (a b : Array Value) (K : Value → Prop) (t : Tg K) : tNil (.func (.func f) a b) K t = K (.func (.func f) a b) := rfl
def tPick (c a b : Value) (K : Value → Prop) (_ : Tg K) : Prop := wPick c a b K
@[simp] theorem tPick_true (a b : Value) (K : Value → Prop) (t : Tg K) : tPick (.bool true) a b K t = K a := rfl
@[simp] theorem tPick_false (a b : Value) (K : Value → Prop) (t : Tg K) : tPick (.bool false) a b K t = K b := rfl
theorem tPick_bool (x : Bool) (a b : Value) (K : Value → Prop) (t : Tg K) : tPick (.bool x) a b K t = tIf x (K a) (K b) .mk := by cases x <;> simp
def wSome {α : Type} (x : Option α) (K : α → Prop) : Prop := ∃ v, x = some v ∧ K v
@[simp] theorem wSome_some {α : Type} (v : α) (K : α → Prop) : wSome (some v) K = K v := by simp [wSome]
def tSome {α : Type} (x : Option α) (K : α → Prop) (_ : Tg K) : Prop := wSome x K
@[simp] theorem tSome_some {α : Type} (v : α) (K : α → Prop) (t : Tg K) : tSome (some v) K t = K v := by simp [tSome]
@[simp] theorem tSome_map {α β : Type} (x : Option α) (f : α → β) (K : β → Prop) (t : Tg K) : tSome (x.map f) K t = tSome x (fun v => K (f v)) .mk := by cases x <;> simp [tSome, wSome]
theorem withTI_some (t : TypeId) (K : TI → Prop) : withTI C t K = tSome (C.ti t) K .mk := by unfold withTI tSome wSome; cases C.ti t <;> simp
attribute [simp ↓] withTI_some
def tLoad (H : AH) (i : TI) (v : Value) (K : Value → Prop) (_ : Tg K) : Prop := wLoad H i v K
@[simp] theorem tLoad_ptr (H : AH) (i : TI) (b o : Nat) (K : Value → Prop) (t : Tg K) : tLoad H i (.pointer (some ⟨b, o, none⟩)) K t = tIf i.agg (tSome (H.row b o i.size) (fun l => K (.agg ⟨l⟩)) .mk) (tSome (H.cel b o) K .mk) .mk := by
  unfold tLoad wLoad tIf wIf tSome wSome
  show (bif i.agg then _ else _) = _
  cases i.agg <;> simp
def tStore (H : AH) (i : TI) (a x : Value) (K : AH → Prop) (_ : Tg K) : Prop := wStore H i a x K
@[simp] theorem tStore_ptr (H : AH) (i : TI) (b o : Nat) (x : Value) (K : AH → Prop) (t : Tg K) : tStore H i (.pointer (some ⟨b, o, none⟩)) x K t =
    ((cellsOfV x).length = i.size ∧ 0 < i.size ∧ (cellsOfV x).all oneCellV = true ∧ H.canPut b o i.size ∧ K (H.put b o (cellsOfV x))) := rfl
def tFld (i : TI) (f : Nat) (v : Value) (K : Value → Prop) (_ : Tg K) : Prop := wFld i f v K
@[simp] theorem tFld_ptr (i : TI) (f b o : Nat) (K : Value → Prop) (t : Tg K) : tFld i f (.pointer (some ⟨b, o, none⟩)) K t = tIf (isStr i.desc) (tSome (i.places[f]?) (fun p => 0 < p.2 ∧ K (.pointer (some ⟨b, o + p.1, none⟩))) .mk) False .mk := by
  unfold tFld wFld tSome wSome tIf wIf isStr
  show (match i.desc with | .struct _ => _ | _ => _) = _
  cases i.desc <;> simp
def tIdx (C : Ctx) (i : TI) (x ix : Value) (K : Value → Prop) (_ : Tg K) : Prop := wIdx C i x ix K
@[simp] theorem tIdx_slice (i : TI) (b o : Nat) (sp : Option Nat) (len cp : Nat) (k : IntKind) (z : Int) (K : Value → Prop) (t : Tg K) : tIdx C i (.slice (some ⟨b, o, sp⟩) len cp) (.int k z) K t =
    tSome (slEl i.desc) (fun e => tSome (C.ti e) (fun j => 0 ≤ z ∧ z < len ∧ K (.pointer (some ⟨b, o + z.toNat * j.size, none⟩))) .mk) .mk := by
  unfold tIdx wIdx slEl tSome wSome
  rw [wInt_int]
  cases i.desc <;> simp [withTI_some, tSome, wSome]
@[simp] theorem tIdx_array (i : TI) (b o : Nat) (k : IntKind) (z : Int) (K : Value → Prop) (t : Tg K) : tIdx C i (.pointer (some ⟨b, o, none⟩)) (.int k z) K t =
    tSome (arEl i.desc) (fun p => tSome (C.ti p.2) (fun j => 0 ≤ z ∧ z < p.1 ∧ K (.pointer (some ⟨b, o + z.toNat * j.size, none⟩))) .mk) .mk := by
  unfold tIdx wIdx arEl tSome wSome
  rw [wInt_int]
  cases i.desc <;> simp [withTI_some, tSome, wSome]
def tBin (C : Ctx) (H : AH) (op : BinOp) (t : TypeId) (cst : Bool) (x y : Value) (K : Value → Prop) (_ : Tg K) : Prop := wBin C H op t cst x y K
section
variable (H : AH) (t : TypeId) (c : Bool) (k : IntKind) (a b : Int) (K : Value → Prop) (g : Tg K)
@[simp] theorem tBin_add : tBin C H .add t c (.int k a) (.int k b) K g = K (.int k (awrap k (a + b))) := by simp [tBin, wBin]
@[simp] theorem tBin_sub : tBin C H .sub t c (.int k a) (.int k b) K g = K (.int k (awrap k (a - b))) := by simp [tBin, wBin]
@[simp] theorem tBin_mul : tBin C H .mul t c (.int k a) (.int k b) K g = K (.int k (awrap k (a * b))) := by simp [tBin, wBin]
@[simp] theorem tBin_rem : tBin C H .rem t c (.int k a) (.int k b) K g = (b ≠ 0 ∧ K (.int k (Int.tmod a b))) := by simp [tBin, wBin]
@[simp] theorem tBin_eql : tBin C H .eql t c (.int k a) (.int k b) K g = K (.bool (decide (a = b))) := by simp [tBin, wBin]
@[simp] theorem tBin_neq : tBin C H .neq t c (.int k a) (.int k b) K g = K (.bool (!decide (a = b))) := by simp [tBin, wBin]
@[simp] theorem tBin_lss : tBin C H .lss t c (.int k a) (.int k b) K g = K (.bool (decide (a < b))) := by simp [tBin, wBin]
@[simp] theorem tBin_leq : tBin C H .leq t c (.int k a) (.int k b) K g = K (.bool (decide (a ≤ b))) := by simp [tBin, wBin]
@[simp] theorem tBin_gtr : tBin C H .gtr t c (.int k a) (.int k b) K g = K (.bool (decide (b < a))) := by simp [tBin, wBin]
@[simp] theorem tBin_geq : tBin C H .geq t c (.int k a) (.int k b) K g = K (.bool (decide (b ≤ a))) := by simp [tBin, wBin]
end
def tUn (op : UnOp) (x : Value) (K : Value → Prop) (_ : Tg K) : Prop := wUn op x K
@[simp] theorem tUn_not (b : Bool) (K : Value → Prop) (t : Tg K) : tUn .not (.bool b) K t = K (.bool (!b)) := rfl
@[simp] theorem tUn_neg (k : IntKind) (n : Int) (K : Value → Prop) (t : Tg K) : tUn .neg (.int k n) K t = K (.int k (awrap k (-n))) := rfl
def tCW (C : Ctx) (t : ATgt) (H : AH) (Q : Value → AH → Prop) (_ : Tg Q) : Prop := CW C t H Q
def tLen (i : TI) (x : Value) (K : Value → Prop) (_ : Tg K) : Prop := wLen i x K
@[simp] theorem tLen_slice (i : TI) (a : Option Addr) (n c : Nat) (K : Value → Prop) (t : Tg K) : tLen i (.slice a n c) K t = tSome (slEl i.desc) (fun _ => K (.int .i64 (n : Int))) .mk := by
  unfold tLen wLen slEl tSome wSome
  cases i.desc <;> simp
@[simp] theorem tLen_string (i : TI) (s : ByteArray) (K : Value → Prop) (t : Tg K) : tLen i (.string s) K t = tIf (isTxt i.desc) (K (.int .i64 (s.data.toList.length : Int))) False .mk := by
  unfold tLen wLen isTxt tIf wIf
  cases i.desc <;> simp
/-- Of a called value. -/
def tFun (C : Ctx) (v : Value) (args : List Value) (H : AH) (K : Value → AH → Prop) (_ : Tg K) : Prop := match v with
  | .func (.func g) ⟨first⟩ ⟨cap⟩ => CW C (.fn g ((first ++ args) ++ cap)) H K
  | .func (.yield l) ⟨[]⟩ ⟨[]⟩ => CW C (.round l args) H K
  | _ => False
@[simp] theorem tFun_func (g : FuncId) (first cap args : List Value) (H : AH) (K : Value → AH → Prop) (t : Tg K) : tFun C (.func (.func g) ⟨first⟩ ⟨cap⟩) args H K t = tCW C (.fn g ((first ++ args) ++ cap)) H K t := rfl
@[simp] theorem tFun_yield (l : Nat) (args : List Value) (H : AH) (K : Value → AH → Prop) (t : Tg K) : tFun C (.func (.yield l) ⟨[]⟩ ⟨[]⟩) args H K t = tCW C (.round l args) H K t := rfl
section
variable (ev : Operand → Value) (H : AH) (K : Value → AH → Prop)
@[simp ↓] theorem wo_move (x : Operand) : wo C ev (.move x) H K = tLet (ev x) (fun v => K v H) .mk := nr rfl
@[simp ↓] theorem wo_assign (x : Operand) : wo C ev (.assign x) H K = tLet (ev x) (fun v => K v H) .mk := nr rfl
@[simp ↓] theorem wo_pick (c a b : Operand) : wo C ev (.pick c a b) H K = tPick (ev c) (ev a) (ev b) (fun v => K v H) .mk := nr rfl
@[simp ↓] theorem wo_alloc (t : TypeId) : wo C ev (.alloc t) H K = tSome (C.ti t) (fun i => K (.pointer (some ⟨H.next, 0, none⟩)) (H.new i.zero)) .mk := withTI_some t _
@[simp ↓] theorem wo_box (t : TypeId) (x : Operand) : wo C ev (.box t x) H K = (0 < (cellsOfV (ev x)).length ∧ K (.pointer (some ⟨H.next, 0, none⟩)) (H.new (cellsOfV (ev x)))) := nr rfl
@[simp ↓] theorem wo_nilCheck (x : Operand) : wo C ev (.nilCheck x) H K = tNil (ev x) (fun v => K v H) .mk := nr rfl
@[simp ↓] theorem wo_binOp (op : BinOp) (t : TypeId) (x y : Operand) (u : TypeId) : wo C ev (.binOp op t x y u) H K = tBin C H op t (isConstO x || isConstO y) (ev x) (ev y) (fun v => K v H) .mk := nr rfl
@[simp ↓] theorem wo_unOp (op : UnOp) (t : TypeId) (x : Operand) : wo C ev (.unOp op t x) H K = tUn op (ev x) (fun v => K v H) .mk := nr rfl
@[simp ↓] theorem wo_fieldAddr (t : TypeId) (x : Operand) (f : Nat) : wo C ev (.fieldAddr t x f) H K = tSome (C.ti t) (fun i => tFld i f (ev x) (fun v => K v H) .mk) .mk := withTI_some t _
@[simp ↓] theorem wo_load (t : TypeId) (x : Operand) : wo C ev (.load t x) H K = tSome (C.ti t) (fun i => tLoad H i (ev x) (fun v => K v H) .mk) .mk := withTI_some t _
@[simp ↓] theorem wo_store (t : TypeId) (a x : Operand) : wo C ev (.store t a x) H K = tSome (C.ti t) (fun i => tStore H i (ev a) (ev x) (fun H' => K undef H') .mk) .mk := withTI_some t _
@[simp ↓] theorem wo_indexAddr (t : TypeId) (x ix : Operand) : wo C ev (.indexAddr t x ix) H K = tSome (C.ti t) (fun i => tIdx C i (ev x) (ev ix) (fun v => K v H) .mk) .mk := withTI_some t _
@[simp ↓] theorem wo_len (x : Operand) (t : TypeId) : wo C ev (.call ⟨.builtin .len, #[x], #[t]⟩) H K = tSome (C.ti t) (fun i => tLen i (ev x) (fun v => K v H) .mk) .mk := withTI_some t _
@[simp ↓] theorem wo_call (f : Operand) (args : Array Operand) (tys : Array TypeId) : wo C ev (.call ⟨.value f, args, tys⟩) H K = tFun C (ev f) (args.toList.map ev) H K .mk := nr rfl
def tTup (v : Value) (K : List Value → Prop) (_ : Tg K) : Prop := match v with
  | .tuple ⟨l⟩ => K l
  | _ => False
@[simp] theorem tTup_tuple (l : List Value) (K : List Value → Prop) (t : Tg K) : tTup (.tuple ⟨l⟩) K t = K l := rfl
@[simp ↓] theorem wo_extract (x : Operand) (ix : Nat) : wo C ev (.extract x ix) H K = tTup (ev x) (fun vs => tSome (vs[ix]?) (fun v => K v H) .mk) .mk := nr rfl
end
@[simp ↓] theorem wops_nil (all : List Oper) (fr : AFr) (H : AH) (Q : AFr → AH → Prop) : wops C all [] fr H Q = Q fr H := nr rfl
@[simp ↓] theorem wops_cons (all l : List Oper) (dst : Option Tmp) (op : Op) (ty : TypeId) (pos : String) (after : Array Edge) (fr : AFr) (H : AH) (Q : AFr → AH → Prop) :
    wops C all ({ dst := dst, op := op, type := ty, pos := pos, after := after, guard := none } :: l) fr H Q = wo C (aev fr.tm) op H fun v H' => wops C all l { fr with tm := tset fr.n fr.tm dst v } H' Q := nr rfl
def wWant (x : Option Bool) (P Q : Prop) : Prop := match x with
  | some w => wIf w P Q
  | none => False
def tWant (x : Option Bool) (P Q : Prop) (_ : Tg2 P Q) : Prop := wWant x P Q
@[simp] theorem tWant_some (w : Bool) (P Q : Prop) (t : Tg2 P Q) : tWant (some w) P Q t = tIf w P Q t := rfl
@[simp ↓] theorem wops_guard (all l : List Oper) (dst : Option Tmp) (op : Op) (ty : TypeId) (pos : String) (after : Array Edge) (g : Nat × Bool) (fr : AFr) (H : AH) (Q : AFr → AH → Prop) :
    wops C all ({ dst := dst, op := op, type := ty, pos := pos, after := after, guard := some g } :: l) fr H Q =
      tWant (awanted all { dst := dst, op := op, type := ty, pos := pos, after := after, guard := some g } fr.n fr.tm)
        (wo C (aev fr.tm) op H fun v H' => wops C all l { fr with tm := tset fr.n fr.tm dst v } H' Q) (wops C all l { fr with tm := tset fr.n fr.tm dst undef } H Q) .mk := by
  show (match awanted all _ fr.n fr.tm with | some w => _ | none => False) = tWant _ _ _ _
  cases awanted all { dst := dst, op := op, type := ty, pos := pos, after := after, guard := some g } fr.n fr.tm <;> rfl
/-- Behind the first part of a row. -/
def Sq (C : Ctx) (b : Code) (Q : AExit → AFr → AH → Prop) (e : AExit) (fr : AFr) (H : AH) : Prop := match e with
  | .normal => wp C b fr H Q
  | e => Q e fr H
@[simp ↓] theorem wp_seq (a b : Code) (fr : AFr) (H : AH) (Q : AExit → AFr → AH → Prop) : wp C (.seq a b) fr H Q = wp C a fr H (Sq C b Q) := nr rfl
@[simp ↓] theorem Sq_normal (b : Code) (fr : AFr) (H : AH) (Q : AExit → AFr → AH → Prop) : Sq C b Q .normal fr H = wp C b fr H Q := nr rfl
@[simp ↓] theorem Sq_exit (b : Code) (j : Nat) (fr : AFr) (H : AH) (Q : AExit → AFr → AH → Prop) : Sq C b Q (.exit j) fr H = Q (.exit j) fr H := nr rfl
@[simp ↓] theorem Sq_ret (b : Code) (fr : AFr) (H : AH) (Q : AExit → AFr → AH → Prop) : Sq C b Q .ret fr H = Q .ret fr H := nr rfl
@[simp ↓] theorem wp_skip (fr : AFr) (H : AH) (Q : AExit → AFr → AH → Prop) : wp C .skip fr H Q = Q .normal fr H := nr rfl
@[simp ↓] theorem wp_exit (id : Nat) (fr : AFr) (H : AH) (Q : AExit → AFr → AH → Prop) : wp C (.exit id) fr H Q = Q (.exit id) fr H := nr rfl
@[simp ↓] theorem wp_ret (fr : AFr) (H : AH) (Q : AExit → AFr → AH → Prop) : wp C .ret fr H Q = Q .ret fr H := nr rfl
@[simp ↓] theorem wp_scope (b : Code) (fr : AFr) (H : AH) (Q : AExit → AFr → AH → Prop) : wp C (.scope b) fr H Q = wp C b fr H Q := nr rfl
@[simp ↓] theorem wp_block (id : Nat) (b : Code) (fr : AFr) (H : AH) (Q : AExit → AFr → AH → Prop) : wp C (.block id b) fr H Q = wp C b fr H (Blkd id Q) := nr rfl
@[simp ↓] theorem Blkd_normal (id : Nat) (fr : AFr) (H : AH) (Q : AExit → AFr → AH → Prop) : Blkd id Q .normal fr H = Q .normal fr H := nr rfl
@[simp ↓] theorem Blkd_ret (id : Nat) (fr : AFr) (H : AH) (Q : AExit → AFr → AH → Prop) : Blkd id Q .ret fr H = Q .ret fr H := nr rfl
@[simp ↓] theorem Blkd_exit (id j : Nat) (fr : AFr) (H : AH) (Q : AExit → AFr → AH → Prop) : Blkd id Q (.exit j) fr H = tIf (Nat.beq j id) (Q .normal fr H) (Q (.exit j) fr H) .mk := by
  show (bif Nat.beq j id then _ else _) = _
  unfold tIf wIf
  cases h : Nat.beq j id
  · rw [cond_false]; exact propext ⟨fun q => ⟨fun e => (by cases e), fun _ => q⟩, fun q => q.2 rfl⟩
  · rw [cond_true]; exact propext ⟨fun q => ⟨fun _ => q, fun e => (by cases e)⟩, fun q => q.1 rfl⟩
@[simp ↓] theorem wp_cond (x : Operand) (a b : Code) (fr : AFr) (H : AH) (Q : AExit → AFr → AH → Prop) : wp C (.cond x a b) fr H Q = tBool (aev fr.tm x) (fun c => tIf c (wp C a fr H Q) (wp C b fr H Q) .mk) .mk := nr rfl
@[simp ↓] theorem wp_region (id : Nat) (l : List Oper) (fr : AFr) (H : AH) (Q : AExit → AFr → AH → Prop) : wp C (.region id ⟨l⟩ false) fr H Q = wops C l l fr H (Q .normal) := nr rfl
theorem wp_draw (id : Nat) (l : Array Oper) (fr : AFr) (H : AH) (Q : AExit → AFr → AH → Prop) : wp C (.region id l true) fr H Q = W C (.region id l true) fr H Q := rfl
theorem wp_loop (b : Code) (fr : AFr) (H : AH) (Q : AExit → AFr → AH → Prop) : wp C (.loop b) fr H Q = W C (.loop b) fr H Q := rfl
theorem wp_rangeFunc (f : Operand) (ps : Array Tmp) (a b : Code) (fr : AFr) (H : AH) (Q : AExit → AFr → AH → Prop) : wp C (.rangeFunc f ps a b) fr H Q = W C (.rangeFunc f ps a b) fr H Q := rfl
attribute [simp] wp_draw wp_loop wp_rangeFunc
def resV : List Value → Value
  | [v] => v
  | vs => .tuple ⟨vs⟩
@[simp] theorem resV_one (v : Value) : resV [v] = v := rfl
@[simp] theorem resV_two (a b : Value) (l : List Value) : resV (a :: b :: l) = .tuple ⟨a :: b :: l⟩ := rfl
@[simp] theorem resV_nil : resV [] = .tuple ⟨[]⟩ := rfl
/-- The end of a function. -/
def FnEnd (C : Ctx) (rs : List ResultVar) (Q : Value → AH → Prop) (e : AExit) (fr : AFr) (H : AH) : Prop := match e with
  | .exit _ => False
  | _ => ∃ H2, Adf (AFr.ds fr) H H2 ∧ wSome (aresList C fr.tm H2 rs) fun l => Q (resV l) H2
theorem FnEnd_fin {fn : Func} {rs : List ResultVar} {Q : Value → AH → Prop} (hr : fn.results.toList = rs) : ∀ e fr H, FnEnd C rs Q e fr H → Fin C fn Q e fr H := by
  have key : ∀ (fr : AFr) H, (∃ H2, Adf fr.ds H H2 ∧ wSome (aresList C fr.tm H2 rs) fun l => Q (resV l) H2) → ∃ H2 v, Adf fr.ds H H2 ∧ aresults C fn fr.tm H2 = some v ∧ Q v H2 := by
    rintro fr H ⟨H2, h1, l, h2, h3⟩
    refine ⟨H2, _, h1, ?_, h3⟩
    unfold aresults
    rw [hr, h2]
    cases l with
    | nil => rfl
    | cons a l => cases l <;> rfl
  intro e fr H h
  cases e with
  | exit id => exact h.elim
  | normal => exact key fr H h
  | ret => exact key fr H h
/-- A function is walked. -/
theorem FW.walk {f : FuncId} {args : List Value} {H : AH} {Q : Value → AH → Prop} {fn : Func} {c : Code} {rs : List ResultVar} {n : Nat} (hk : C.hook f args H = none) (hf : C.fn f = some fn) (hb : fn.body = some c)
    (hr : fn.results.toList = rs) (hn : Nat.max args.length fn.ntmps = n)
    (h : wp C c { tm := T.lay args .leaf 0, n := n, ds := [], rnd := none } H (FnEnd C rs Q)) : FW C f args H Q :=
  FW.of_body hk hf hb ((wp_ok _ _ _ _ (by rw [hn]; exact h)).mono (FnEnd_fin hr))
@[simp ↓] theorem FnEnd_ret (rs : List ResultVar) (Q : Value → AH → Prop) (fr : AFr) (H : AH) : FnEnd C rs Q .ret fr H = ∃ H2, Adf fr.ds H H2 ∧ tSome (aresList C fr.tm H2 rs) (fun l => Q (resV l) H2) .mk := nr rfl
@[simp ↓] theorem FnEnd_normal (rs : List ResultVar) (Q : Value → AH → Prop) (fr : AFr) (H : AH) : FnEnd C rs Q .normal fr H = ∃ H2, Adf fr.ds H H2 ∧ tSome (aresList C fr.tm H2 rs) (fun l => Q (resV l) H2) .mk := nr rfl
@[simp ↓] theorem FnEnd_exit (rs : List ResultVar) (Q : Value → AH → Prop) (j : Nat) (fr : AFr) (H : AH) : FnEnd C rs Q (.exit j) fr H = False := nr rfl
@[simp] theorem Adf_nil (H H' : AH) : Adf [] H H' ↔ H' = H := ⟨fun h => by cases h; rfl, fun h => h ▸ .nil _⟩
@[simp] theorem aresList_nil (tm : T Value) (H : AH) : aresList C tm H [] = some [] := rfl
@[simp] theorem aresList_tmp (tm : T Value) (H : AH) (t : Tmp) (l : List ResultVar) : aresList C tm H (.tmp t :: l) = (aresList C tm H l).map (tget tm t :: ·) := by
  show (match aresList C tm H l with | none => none | some vs => some (tget tm t :: vs)) = _
  cases aresList C tm H l <;> rfl
theorem aresList_cell1 {tm : T Value} {H : AH} {a : Tmp} {t : TypeId} {i : TI} {b o : Nat} {v : Value} (l : List ResultVar) (ht : C.ti t = some i) (ha : i.agg = false) (hp : tget tm a = .pointer (some ⟨b, o, none⟩)) (hc : H.cel b o = some v) :
    aresList C tm H (.cell a t :: l) = (aresList C tm H l).map (v :: ·) := by
  obtain ⟨v', h1, h2⟩ := AH.row_load (C := C) (ev := fun _ => tget tm a) (x := .tmp 0) (t := t) (K := fun r => r = v) ht hp (by rw [ha, cond_false]; exact ⟨v, hc, rfl⟩)
  subst h2
  have : aload C t (tget tm a) H = some v' := by
    unfold aload
    unfold aopN at h1
    have e1 : apure C (fun _ => tget tm a) (.load t (.tmp 0)) = none := rfl
    rw [e1] at h1
    cases hq : aread C (fun _ => tget tm a) (.load t (.tmp 0)) H with
    | some q => simp only [hq] at h1; cases h1; rfl
    | none => simp only [hq] at h1; cases h1
  show (match aresList C tm H l with | none => none | some vs => (match aload C t (tget tm a) H with | some v => some (v :: vs) | none => none)) = _
  rw [this]
  cases aresList C tm H l <;> rfl
theorem aresList_cellN {tm : T Value} {H : AH} {a : Tmp} {t : TypeId} {i : TI} {b o : Nat} {vs : List Value} (l : List ResultVar) (ht : C.ti t = some i) (ha : i.agg = true) (hp : tget tm a = .pointer (some ⟨b, o, none⟩)) (hc : H.row b o i.size = some vs) :
    aresList C tm H (.cell a t :: l) = (aresList C tm H l).map (.agg ⟨vs⟩ :: ·) := by
  obtain ⟨v', h1, h2⟩ := AH.row_load (C := C) (ev := fun _ => tget tm a) (x := .tmp 0) (t := t) (K := fun r => r = .agg ⟨vs⟩) ht hp (by rw [ha, cond_true]; exact ⟨vs, hc, rfl⟩)
  subst h2
  have : aload C t (tget tm a) H = some (.agg ⟨vs⟩) := by
    unfold aload
    unfold aopN at h1
    have e1 : apure C (fun _ => tget tm a) (.load t (.tmp 0)) = none := rfl
    rw [e1] at h1
    cases hq : aread C (fun _ => tget tm a) (.load t (.tmp 0)) H with
    | some q => simp only [hq] at h1; cases h1; rfl
    | none => simp only [hq] at h1; cases h1
  show (match aresList C tm H l with | none => none | some vs => (match aload C t (tget tm a) H with | some v => some (v :: vs) | none => none)) = _
  rw [this]
  cases aresList C tm H l <;> rfl
attribute [simp] aev_tmp aev_func tget_set tget_lay tset_none
@[simp] theorem aev_int (tm : T Value) (k : IntKind) (n : Int) : aev tm (.const (.int k n)) = .int k n := rfl
@[simp] theorem aev_bool (tm : T Value) (b : Bool) : aev tm (.const (.bool b)) = .bool b := rfl
@[simp] theorem aev_str (tm : T Value) (s : ByteArray) : aev tm (.const (.string s)) = .string s := rfl
@[simp] theorem aev_nilPtr (tm : T Value) : aev tm (.const (.pointer none)) = .pointer none := rfl
@[simp] theorem aev_nilSlice (tm : T Value) (n c : Nat) : aev tm (.const (.slice none n c)) = .slice none n c := rfl
@[simp] theorem aev_nilMap (tm : T Value) : aev tm (.const (.map none)) = .map none := rfl
@[simp] theorem aev_nilFunc (tm : T Value) : aev tm (.const .nilFunc) = .nilFunc := rfl
@[simp] theorem aev_nilIface (tm : T Value) : aev tm (.const .nilIface) = .nilIface := rfl
@[simp] theorem tset_lt (n d : Nat) (tm : T Value) (v : Value) (h : Nat.blt d n = true) : tset n tm (some d) v = tm.set d v := tset_some tm v (by rw [Nat.blt_eq] at h; exact h)
end
end Go.Eng
/- Regions whose order is drawn, walked in the engine's order; what was read is looked at again where something changed. -/
namespace Go.Eng
open Go
theorem cond_ilt {α : Type} (a b : Int) (x y : α) : (bif ilt a b then x else y) = if a < b then x else y := by
  rw [ilt_dec]; by_cases h : a < b <;> simp [h]
section
variable (C : Ctx)
def opReads : Op → Bool
  | .load _ _ | .lookup _ _ _ _ | .slice _ _ _ _ _ => true
  | _ => false
def opStill : Op → Bool
  | .move _ | .assign _ | .pick _ _ _ | .nilCheck _ | .unOp _ _ _ | .makeInterface _ _ | .makeFunc _ _ _ | .fieldAddr _ _ _ | .field _ _ _ | .indexAddr _ _ _ | .index _ _ _ | .typeAssert _ _ _ _ | .extract _ _ | .build _ _
  | .alloc _ | .box _ _ | .buildSlice _ _ _ | .makeSlice _ _ _ | .makeMap _ _ => true
  | _ => false
def wBinD (op : BinOp) (t : TypeId) (cst : Bool) (x y : Value) (K : Value → Prop) : Prop := match x, y with
  | .int j a, .int k b => wBin C { next := 0, tr := .leaf } op t cst (.int j a) (.int k b) K
  | x, y => wSome (abin C (fun _ _ => none) op t cst x y) K
def wMin (x y : Value) (K : Value → Prop) : Prop := match x, y with
  | .int k a, .int _ b => K (.int k (if b < a then b else a))
  | _, _ => False
def wMax (x y : Value) (K : Value → Prop) : Prop := match x, y with
  | .int k a, .int _ b => K (.int k (if a < b then b else a))
  | _, _ => False
def wDraw1 (o : Oper) (tm : T Value) (H : AH) (K : Value → AH → Kd → Prop) : Prop :=
  wIf (isEff o.op) (wo C (dev o tm) o.op H fun v H' => K v H' .eff) (
    wIf (opReads o.op) (wo C (dev o tm) o.op H fun v H' => K v H' .read) (
      wIf (opStill o.op) (wo C (dev o tm) o.op H fun v H' => K v H' .skip) (match o.op with
        | .binOp op t x y _ => wBinD C op t (isConstO x || isConstO y) (dev o tm x) (dev o tm y) fun v => K v H .skip
        | .call c => (match c.callee, c.args.toList, c.argTypes.toList with
          | .builtin .len, [x], [t] => withTI C t fun i => wLen i (dev o tm x) fun v => K v H .skip
          | .builtin .min, [x, y], _ => wMin (dev o tm x) (dev o tm y) fun v => K v H .skip
          | .builtin .max, [x, y], _ => wMax (dev o tm x) (dev o tm y) fun v => K v H .skip
          | _, _, _ => False)
        | _ => False)))
def wdr (all : List Oper) (n : Nat) : List Nat → T Value → AH → List Rec → (T Value → AH → List Rec → Prop) → Prop
  | [], tm, H, rs, K => K tm H rs
  | i :: π, tm, H, rs, K => match all[i]? with
    | some o => wWant (awanted all o n tm)
        (wDraw1 C o tm H fun v H' kd => wdr all n π (tset n tm o.dst v) H' (rs ++ [{ i := i, o := o, tm := tm, H := H, v := v, kd := kd }]) K)
        (wdr all n π (tset n tm o.dst undef) H (rs ++ [{ i := i, o := o, tm := tm, H := H, v := undef, kd := .skip }]) K)
    | none => False
def Tells (q : Rec) (H : AH) : Prop := wo C (dev q.o q.tm) q.o.op H fun v _ => vsame 5 v q.v = true
def stabQ (bf : List Nat) (HF : AH) (q : Rec) : List Rec → Prop
  | [] => Tells C q HF
  | r :: l => wIf r.kd.isEff (Tells C q r.H ∧ wIf ((bf.getD r.i 0).testBit q.i) True (stabQ bf HF q l)) (stabQ bf HF q l)
def stabP (bf : List Nat) (HF : AH) : List Rec → Prop
  | [] => True
  | q :: l => wIf q.kd.isRead (stabQ C bf HF q l) True ∧ stabP bf HF l
end
section
variable {C : Ctx} {ih : Code → AFr → AH → Out}
theorem opReads_aopN {ev : Operand → Value} {o : Op} {H H' : AH} {v : Value} (hr : opReads o = true) (h : aopN C ev o H = some (v, H')) : apure C ev o = none ∧ aread C ev o H = some v ∧ H' = H := by
  cases o
  case load t x =>
    have e1 : apure C ev (.load t x) = none := rfl
    have e2 : aalloc C ev (.load t x) = none := rfl
    have e3 : aeff C ev (.load t x) H = none := rfl
    unfold aopN at h
    rw [e1] at h
    cases hq : aread C ev (.load t x) H with
    | some q => simp only [hq] at h; cases h; exact ⟨e1, rfl, rfl⟩
    | none => simp only [hq, e2, e3] at h; cases h
  case lookup t x ix ok =>
    have e1 : apure C ev (.lookup t x ix ok) = none := rfl
    have e2 : aalloc C ev (.lookup t x ix ok) = none := rfl
    have e3 : aeff C ev (.lookup t x ix ok) H = none := rfl
    unfold aopN at h
    rw [e1] at h
    cases hq : aread C ev (.lookup t x ix ok) H with
    | some q => simp only [hq] at h; cases h; exact ⟨e1, rfl, rfl⟩
    | none => simp only [hq, e2, e3] at h; cases h
  case slice t x lo hi mx =>
    have e1 : apure C ev (.slice t x lo hi mx) = none := rfl
    have e2 : aalloc C ev (.slice t x lo hi mx) = none := rfl
    have e3 : aeff C ev (.slice t x lo hi mx) H = none := rfl
    unfold aopN at h
    rw [e1] at h
    cases hq : aread C ev (.slice t x lo hi mx) H with
    | some q => simp only [hq] at h; cases h; exact ⟨e1, rfl, rfl⟩
    | none => simp only [hq, e2, e3] at h; cases h
  all_goals cases hr
theorem opStill_aopN {ev : Operand → Value} {o : Op} {H H' : AH} {v : Value} (hr : opStill o = true) (h : aopN C ev o H = some (v, H')) :
    (apure C ev o = some v ∧ H' = H) ∨ (apure C ev o = none ∧ aread C ev o H = none ∧ ∃ obj nv, aalloc C ev o = some (obj, nv) ∧ v = nv.val H.next ∧ H' = H.push obj) := by
  have L : aread C ev o H = none → aeff C ev o H = none → (apure C ev o = some v ∧ H' = H) ∨ (apure C ev o = none ∧ aread C ev o H = none ∧ ∃ obj nv, aalloc C ev o = some (obj, nv) ∧ v = nv.val H.next ∧ H' = H.push obj) := by
    intro e2 e3
    unfold aopN at h
    cases hp : apure C ev o with
    | some p => simp only [hp] at h; cases h; exact .inl ⟨rfl, rfl⟩
    | none =>
      simp only [hp, e2] at h
      cases ha : aalloc C ev o with
      | some p => simp only [ha] at h; cases h; exact .inr ⟨rfl, e2, _, _, rfl, rfl, rfl⟩
      | none => simp only [ha, e3] at h; cases h
  cases o
  all_goals first | (cases hr; done) | exact L rfl rfl
theorem isEff_aopN {ev : Operand → Value} {o : Op} {H H' : AH} {v : Value} (hr : isEff o = true) (h : aopN C ev o H = some (v, H')) : aeff C ev o H = some (v, H') := by
  have L : apure C ev o = none → aread C ev o H = none → aalloc C ev o = none → aeff C ev o H = some (v, H') := by
    intro e1 e2 e3
    unfold aopN at h
    simpa only [e1, e2, e3] using h
  cases o
  case call c =>
    obtain ⟨callee, args, tys⟩ := c
    cases callee with
    | builtin b =>
      cases b
      all_goals first | (cases hr; done) | exact L rfl rfl rfl
    | value f => exact L rfl rfl rfl
    | invoke r m => exact L rfl rfl rfl
  all_goals first | (cases hr; done) | exact L rfl rfl rfl
theorem wo_split {ev : Operand → Value} {o : Op} {H : AH} {K : Value → AH → Prop} (h : wo C ev o H K) :
    (∃ c t, o = .call c ∧ acallee C ev c = some t ∧ CW C t H K) ∨ ∃ v H', aopN C ev o H = some (v, H') ∧ K v H' := by
  have := wo_ok h
  unfold Wo at this
  split at this
  · rename_i c hc
    obtain ⟨t, h1, h2⟩ := this
    exact .inl ⟨c, t, opCall_some hc, h1, h2⟩
  · exact .inr this.2
theorem wDraw1_ok {all : List Oper} {o : Oper} {n : Nat} {tm : T Value} {H : AH} {K : Value → AH → Kd → Prop} (hw : awanted all o n tm = some true) (h : wDraw1 C o tm H K) :
    ∃ v H' kd kd', (∃ N, ∀ m, N ≤ m → adrawOp C (eng C m) all o n tm H = some (v, H', kd)) ∧ K v H' kd' ∧ kd.isEff = kd'.isEff ∧ (kd.isRead = true → kd'.isRead = true) ∧ (kd'.isRead = true → opReads o.op = true) := by
  unfold wDraw1 at h
  cases he : isEff o.op with
  | true =>
    have h := h.1 he
    rcases wo_split h with ⟨c, t, e1, e2, v, H', ⟨N, hN⟩, k⟩ | ⟨v, H', e1, k⟩
    · refine ⟨v, H', .eff, .eff, ⟨N, fun m hm => ?_⟩, k, rfl, id, fun hh => by cases hh⟩
      unfold adrawOp
      rw [hw]
      simp only [he, cond_true]
      have ea : aeff C (dev o tm) o.op H = none := by
        rw [e1]
        obtain ⟨callee, args, tys⟩ := c
        cases callee with
        | builtin b => exact absurd rfl (callee_noBuiltin e2 b)
        | value f => rfl
        | invoke r m => rfl
      have ec : acall C (eng C m) (dev o tm) c H = .ok v H' := by
        have := hN m hm
        unfold acall
        rw [e2]
        cases t <;> exact this
      rw [ea]
      simp only [e1] at ec ⊢
      generalize dev o tm = d at ec
      rw [ec]
    · refine ⟨v, H', .eff, .eff, ⟨0, fun m _ => ?_⟩, k, rfl, id, fun hh => by cases hh⟩
      unfold adrawOp
      rw [hw]
      simp only [he, cond_true, isEff_aopN he e1]
  | false =>
    have h := h.2 he
    cases hr : opReads o.op with
    | true =>
      have h := h.1 hr
      rcases wo_split h with ⟨c, t, e1, _⟩ | ⟨v, H', e1, k⟩
      · rw [e1] at hr; cases hr
      · obtain ⟨p1, p2, rfl⟩ := opReads_aopN hr e1
        refine ⟨v, H', .read, .read, ⟨0, fun m _ => ?_⟩, k, rfl, id, fun _ => rfl⟩
        unfold adrawOp
        rw [hw]
        simp only [he, cond_false, p1, p2]
    | false =>
      have h := h.2 hr
      cases hs : opStill o.op with
      | true =>
        have h := h.1 hs
        rcases wo_split h with ⟨c, t, e1, _⟩ | ⟨v, H', e1, k⟩
        · rw [e1] at hs; cases hs
        · rcases opStill_aopN hs e1 with ⟨p1, rfl⟩ | ⟨p1, p2, obj, nv, p3, rfl, rfl⟩
          · refine ⟨v, H', .pure, .skip, ⟨0, fun m _ => ?_⟩, k, rfl, (fun hh => by cases hh), fun hh => by cases hh⟩
            unfold adrawOp
            rw [hw]
            simp only [he, cond_false, p1]
          · refine ⟨_, _, .alloc obj nv, .skip, ⟨0, fun m _ => ?_⟩, k, rfl, (fun hh => by cases hh), fun hh => by cases hh⟩
            unfold adrawOp
            rw [hw]
            simp only [he, cond_false, p1, p2, p3]
      | false =>
        have h := h.2 hs
        have P : ∀ v, apure C (dev o tm) o.op = some v → K v H .skip → ∃ v H' kd kd', (∃ N, ∀ m, N ≤ m → adrawOp C (eng C m) all o n tm H = some (v, H', kd)) ∧ K v H' kd' ∧ kd.isEff = kd'.isEff ∧ (kd.isRead = true → kd'.isRead = true) ∧ (kd'.isRead = true → false = true) := by
          intro v hv k
          refine ⟨v, H, .pure, .skip, ⟨0, fun m _ => ?_⟩, k, rfl, (fun hh => by cases hh), fun hh => by cases hh⟩
          unfold adrawOp
          rw [hw]
          simp only [he, cond_false, hv]
        split at h
        · rename_i op t x y u ho
          unfold wBinD at h
          split at h
          · rename_i j a k b ex ey
            obtain ⟨v, h1, h2⟩ := wBin_ok (x := x) (y := y) (u := u) (ev := dev o tm) (by rw [ex, ey]; exact h)
            refine P v ?_ h2
            rw [ho]
            unfold aopN at h1
            show abin C (fun _ _ => none) op t (isConstO x || isConstO y) (dev o tm x) (dev o tm y) = some v
            have e1 : apure C (dev o tm) (.binOp op t x y u) = abin C (fun _ _ => none) op t (isConstO x || isConstO y) (dev o tm x) (dev o tm y) := rfl
            rw [e1] at h1
            cases hq : abin C (fun _ _ => none) op t (isConstO x || isConstO y) (dev o tm x) (dev o tm y) with
            | some q => simp only [hq] at h1; cases h1; rfl
            | none =>
              simp only [hq] at h1
              have e2 : aread C (dev o tm) (.binOp op t x y u) { next := 0, tr := .leaf } = none := by
                show abin C _ op t _ (dev o tm x) (dev o tm y) = none
                rw [ex, ey] at hq ⊢
                exact hq
              have e3 : aalloc C (dev o tm) (.binOp op t x y u) = none := rfl
              have e4 : aeff C (dev o tm) (.binOp op t x y u) { next := 0, tr := .leaf } = none := rfl
              simp only [e2, e3, e4] at h1
              cases h1
          · obtain ⟨v, h1, h2⟩ := h
            refine P v ?_ h2
            rw [ho]; exact h1
        · rename_i c ho
          split at h
          · rename_i x t ec ea et
            obtain ⟨i, hi, k⟩ := withTI_iff h
            have hcl : ∀ v, wLen i (dev o tm x) (fun r => r = v) → apure C (dev o tm) o.op = some v := by
              intro v hv
              rw [ho]
              unfold apure
              simp only [ec, ea, et, hi]
              unfold wLen at hv
              split at hv
              · rename_i hd hx; simp only [hd, hx]; rw [← hv]; rfl
              · rename_i hd hx; simp only [hd, hx]; rw [← hv]; rfl
              · exact hv.elim
            unfold wLen at k
            split at k
            · rename_i hd hx; exact P _ (hcl _ (by unfold wLen; rw [hd, hx])) k
            · rename_i hd hx; exact P _ (hcl _ (by unfold wLen; rw [hd, hx])) k
            · exact k.elim
          · rename_i x y _ ec ea
            unfold wMin at h
            split at h
            · rename_i ka a kb b ex ey
              refine P _ ?_ h
              rw [ho]
              unfold apure
              simp only [ec, ea, ex, ey]
              rw [cond_ilt]
            · exact h.elim
          · rename_i x y _ ec ea
            unfold wMax at h
            split at h
            · rename_i ka a kb b ex ey
              refine P _ ?_ h
              rw [ho]
              unfold apure
              simp only [ec, ea, ex, ey]
              rw [cond_ilt]
            · exact h.elim
          · exact h.elim
        · exact h.elim
/-- A record, its kind told otherwise. -/
def RecLe (r r' : Rec) : Prop := r.i = r'.i ∧ r.o = r'.o ∧ r.tm = r'.tm ∧ r.H = r'.H ∧ r.v = r'.v ∧ r.kd.isEff = r'.kd.isEff ∧ (r.kd.isRead = true → r'.kd.isRead = true) ∧ (r'.kd.isRead = true → opReads r'.o.op = true)
inductive RecL : List Rec → List Rec → Prop
  | nil : RecL [] []
  | cons {a b : Rec} {l l' : List Rec} : RecLe a b → RecL l l' → RecL (a :: l) (b :: l')
theorem wdrRun_cons (ih : Code → AFr → AH → Out) (all : List Oper) (n i : Nat) (π : List Nat) (tm : T Value) (H : AH) : adrawRun C ih all n (i :: π) tm H = match all[i]? with
    | none => none
    | some o => match adrawOp C ih all o n tm H with
      | none => none
      | some (v, H1, kd) => match adrawRun C ih all n π (tset n tm o.dst v) H1 with
        | some (rs, tm2, H2) => some ({ i := i, o := o, tm := tm, H := H, v := v, kd := kd } :: rs, tm2, H2)
        | none => none := rfl
theorem wdr_ok {all : List Oper} {n : Nat} : ∀ (π : List Nat) (tm : T Value) (H : AH) (rs0 : List Rec) (K : T Value → AH → List Rec → Prop), wdr C all n π tm H rs0 K →
    ∃ rs rs' tm2 H2, (∃ N, ∀ m, N ≤ m → adrawRun C (eng C m) all n π tm H = some (rs, tm2, H2)) ∧ RecL rs rs' ∧ K tm2 H2 (rs0 ++ rs')
  | [], tm, H, rs0, K, h => ⟨[], [], tm, H, ⟨0, fun _ _ => rfl⟩, .nil, by rw [List.append_nil]; exact h⟩
  | i :: π, tm, H, rs0, K, h => by
    unfold wdr at h
    split at h
    · rename_i o ho
      unfold wWant at h
      split at h
      · rename_i w hw
        cases w with
        | true =>
          obtain ⟨v, H', kd, kd', ⟨N, hN⟩, k, k1, k2, k3⟩ := wDraw1_ok hw (h.1 rfl)
          obtain ⟨rs, rs', tm2, H2, ⟨M, hM⟩, q1, q2⟩ := wdr_ok π _ _ _ K k
          refine ⟨⟨i, o, tm, H, v, kd⟩ :: rs, ⟨i, o, tm, H, v, kd'⟩ :: rs', tm2, H2, ⟨max N M, fun m hm => ?_⟩, .cons ⟨rfl, rfl, rfl, rfl, rfl, k1, k2, k3⟩ q1, by simpa using q2⟩
          rw [wdrRun_cons]
          simp only [ho, hN m (by omega), hM m (by omega)]
        | false =>
          obtain ⟨rs, rs', tm2, H2, ⟨M, hM⟩, q1, q2⟩ := wdr_ok π _ _ _ K (h.2 rfl)
          refine ⟨⟨i, o, tm, H, undef, .skip⟩ :: rs, ⟨i, o, tm, H, undef, .skip⟩ :: rs', tm2, H2, ⟨M, fun m hm => ?_⟩, .cons ⟨rfl, rfl, rfl, rfl, rfl, rfl, id, fun hh => by cases hh⟩ q1, by simpa using q2⟩
          have hd : adrawOp C (eng C m) all o n tm H = some (undef, H, .skip) := by unfold adrawOp; rw [hw]
          rw [wdrRun_cons]
          simp only [ho, hd, hM m hm]
      · exact h.elim
    · exact h.elim
theorem Tells_ok {q q' : Rec} {G : AH} (hq : RecLe q q') (hr : q'.kd.isRead = true) (h : Tells C q' G) : tellsSame C q G = true := by
  obtain ⟨e1, e2, e3, e4, e5, e6, e7, e8⟩ := hq
  have ho := e8 hr
  unfold Tells at h
  rcases wo_split h with ⟨c, t, e, _⟩ | ⟨v, H', e, k⟩
  · rw [e] at ho; cases ho
  · obtain ⟨_, p2, _⟩ := opReads_aopN ho e
    unfold tellsSame
    rw [e2, e3, p2]
    show vsame 5 v q.v = true
    rw [e5]; exact k
theorem stabQ_ok {bf : List Nat} {HF : AH} {q q' : Rec} (hq : RecLe q q') (hr : q'.kd.isRead = true) : ∀ {l l' : List Rec}, RecL l l' → stabQ C bf HF q' l' → stab C bf HF q l = true
  | _, _, .nil, h => Tells_ok hq hr h
  | _, _, .cons (a := r) (b := r') (l := l) (l' := l') hr' hl, h => by
    show (bif r.kd.isEff then (tellsSame C q r.H && (bif (bf.getD r.i 0).testBit q.i then true else stab C bf HF q l)) else stab C bf HF q l) = true
    obtain ⟨e1, e2, e3, e4, e5, e6, e7, e8⟩ := hr'
    cases he : r'.kd.isEff with
    | true =>
      obtain ⟨h1, h2⟩ := h.1 he
      rw [e6, he, cond_true, e4, Tells_ok hq hr h1, Bool.true_and, e1, hq.1]
      cases hb : (bf.getD r'.i 0).testBit q'.i with
      | true => rfl
      | false => rw [cond_false]; exact stabQ_ok hq hr hl (h2.2 hb)
    | false => rw [e6, he, cond_false]; exact stabQ_ok hq hr hl (h.2 he)
theorem stabP_ok {bf : List Nat} {HF : AH} : ∀ {l l' : List Rec}, RecL l l' → stabP C bf HF l' → stabAll C bf HF l = true
  | _, _, .nil, h => rfl
  | _, _, .cons (a := r) (b := r') (l := l) (l' := l') hr' hl, h => by
    show ((bif r.kd.isRead then stab C bf HF r l else true) && stabAll C bf HF l) = true
    rw [stabP_ok hl h.2, Bool.and_true]
    cases hrd : r.kd.isRead with
    | false => rfl
    | true =>
      rw [cond_true]
      have h2 := hr'.2.2.2.2.2.2.1 hrd
      exact stabQ_ok hr' h2 hl (h.1.1 h2)
theorem W.draw {id : Nat} {ops : Array Oper} {fr : AFr} {H : AH} {Q : AExit → AFr → AH → Prop} {l : List Oper} (π bf : List Nat) (hl : ops.toList = l) (hπ : canon l = π) (hbf : bmasks l [] = bf) (hd : drawOk l π = true)
    (h : wdr C l fr.n π fr.tm H [] fun tm H' rs => stabP C bf H' rs ∧ Q .normal { fr with tm := tm } H') : W C (.region id ops true) fr H Q := by
  subst hl; subst hπ; subst hbf
  obtain ⟨rs, rs', tm2, H2, ⟨N, hN⟩, q1, q2, q3⟩ := wdr_ok _ _ _ _ _ h
  refine ⟨_, _, H2, .of_step N fun n hn => ?_, q3⟩
  simp only [engStep, cond_true]
  unfold adraw
  rw [hd, cond_true, hN n hn]
  simp only [stabP_ok q1 (by simpa using q2), cond_true]
end
end Go.Eng
