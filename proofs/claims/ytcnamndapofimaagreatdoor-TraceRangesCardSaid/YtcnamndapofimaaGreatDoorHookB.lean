/- errors.As and errors.Is, by their contracts, in the engine. -/
import Derived.Test.YtcnamndapofimaaGreatDoorEngX
import Derived.Test.YtcnamndapofimaaGreatDoorAsB
namespace Go.Eng.B
open Go Go.Proofs Go.Eng
noncomputable def hookIs (e t : Value) (H : AH) : Option HRes := match t with
  | .iface tt (.int .i64 m) => bif Nat.beq tt 24 then (match e with
    | .nilIface => some (.ret (.bool false) H)
    | .iface a b => some (.call 104 [.iface a b, .iface 24 (.int .i64 m), .bool true])
    | _ => none) else none
  | _ => none
noncomputable def hasCell (H : AH) (b o : Nat) : Bool := match H.get b with
  | some (.cells k) => Nat.blt o k.n && !k.ro
  | _ => false
noncomputable def hookAs (e t : Value) (H : AH) : Option HRes := match e with
  | .nilIface => some (.ret (.bool false) H)
  | .iface a (.pointer (some p)) => (match t with
    | .iface tt (.pointer (some ⟨b, o, none⟩)) => bif Nat.beq a 133 && Nat.beq tt 152 then (match astoreAt H b o [.pointer (some p)] with
      | some H' => some (.ret (.bool true) H')
      | none => none) else none
    | _ => none)
  | .iface a (.int .i64 n) => (match t with
    | .iface tt (.pointer (some ⟨b, o, none⟩)) => bif Nat.beq a 24 && hasCell H b o then (bif Nat.beq tt 429 then (match astoreAt H b o [.int .i64 n] with
      | some H' => some (.ret (.bool true) H')
      | none => none) else bif Nat.beq tt 152 then some (.ret (.bool false) H) else none) else none
    | _ => none)
  | _ => none
noncomputable def hook : FuncId → List Value → AH → Option HRes := fun f args H => match args with
  | [e, t] => bif Nat.beq f 48 then hookIs e t H else bif Nat.beq f 69 then hookAs e t H else none
  | _ => none
noncomputable def C : Ctx := ctxOf Tryz.prog hook

def errorType : Value := .iface 290 (.agg #[.pointer (some ⟨1, 30, none⟩)])
theorem hook_ok [Base] (h0 : Base.W0.cell? ⟨0, 0, none⟩ = some errorType) : HookOk Tryz.prog C := by
  intro f args H r hh
  have h : hook f args H = some r := hh
  clear hh
  unfold hook at h
  split at h
  · rename_i e t
    cases h26 : Nat.beq f 48 with
    | true =>
      rw [h26, cond_true] at h
      obtain rfl := Nat.eq_of_beq_eq_true h26
      refine ⟨Tryz.f48, Tryz.func48, by kernel_rfl, by kernel_rfl, fun σ w cargs hH ha => ?_⟩
      obtain ⟨ce, ct, rfl, he, htt⟩ := ha.two
      unfold hookIs at h
      split at h
      · rename_i tt m
        have hh := cond_some h; clear h; obtain ⟨hq, h⟩ := hh
        obtain rfl := Nat.eq_of_beq_eq_true hq
        obtain ⟨cm, rfl, hm⟩ := htt.iface_inv
        obtain rfl := hm.int_inv
        split at h
        · cases h
          obtain rfl := he.nilIface_inv
          exact (is_nil m w).mono fun e w' ⟨h1, h2⟩ => ⟨_, σ, h1, .bool false, by rw [h2]; exact Leads.refl hH⟩
        · rename_i a b
          cases h
          obtain ⟨cb, rfl, hb⟩ := he.iface_inv
          exact ⟨_, .cons (.iface _ _ _ hb) (.cons (.iface _ _ _ (.int _ _)) (.cons (.bool true) .nil)), fun R hR => is_open a cb m w R hR⟩
        · cases h
      · cases h
    | false =>
      rw [h26, cond_false] at h
      have hh := cond_some h; clear h; obtain ⟨h42, h⟩ := hh
      obtain rfl := Nat.eq_of_beq_eq_true h42
      refine ⟨Tryz.f69, Tryz.func69, by kernel_rfl, by kernel_rfl, fun σ w cargs hH ha => ?_⟩
      obtain ⟨ce, ct, rfl, he, htt⟩ := ha.two
      have hg := hH.start_cell h0
      unfold hookAs at h
      split at h
      · cases h
        obtain rfl := he.nilIface_inv
        exact (as_nil ct w).mono fun e w' ⟨h1, h2⟩ => ⟨_, σ, h1, .bool false, by rw [h2]; exact Leads.refl hH⟩
      · rename_i a p
        split at h
        · rename_i tt b o
          have hh := cond_some h; clear h; obtain ⟨hq, h⟩ := hh
          rw [Bool.and_eq_true] at hq
          obtain rfl := Nat.eq_of_beq_eq_true hq.1
          obtain rfl := Nat.eq_of_beq_eq_true hq.2
          split at h
          · rename_i H' hst
            cases h
            obtain ⟨cv, rfl, hv⟩ := he.iface_inv
            obtain ⟨ea, rfl⟩ := hv.somePtr_inv
            obtain ⟨ctv, rfl, htv⟩ := htt.iface_inv
            obtain ⟨ta, rfl⟩ := htv.somePtr_inv
            obtain ⟨⟨old, q1, q2⟩, _⟩ := put_ok hH htv hv hst rfl
            have L1 := Leads.untracked hH #[.pointer (some ta)] 152
            have L2 := L1.trans (Leads.untracked L1.rel #[.pointer (some ⟨1, 152, none⟩), .pointer (some ⟨w.heap.size, 0, none⟩), .int .u64 150] 246)
            have L3 := L2.trans (Leads.untracked L2.rel #[.pointer (some ⟨1, 152, none⟩), .pointer (some ⟨w.heap.size, 0, none⟩), .int .u64 150] 246)
            have L4 := L3.trans (Leads.untracked L3.rel #[.pointer (some ea)] 133)
            exact (as_133_152 ea ta old w hg q1 q2).mono fun e w' ⟨h1, h2⟩ => ⟨_, σ, h1, .bool true, by rw [h2]; exact L4.trans (put_ok L4.rel htv hv hst rfl).2⟩
          · cases h
        · cases h
      · rename_i a n
        split at h
        · rename_i tt b o
          have hh := cond_some h; clear h; obtain ⟨hq, h⟩ := hh
          rw [Bool.and_eq_true] at hq
          obtain rfl := Nat.eq_of_beq_eq_true hq.1
          obtain ⟨cv, rfl, hv⟩ := he.iface_inv
          obtain rfl := hv.int_inv
          obtain ⟨ctv, rfl, htv⟩ := htt.iface_inv
          obtain ⟨ta, rfl⟩ := htv.somePtr_inv
          cases h7 : Nat.beq tt 429 with
          | true =>
            rw [h7, cond_true] at h
            obtain rfl := Nat.eq_of_beq_eq_true h7
            split at h
            · rename_i H' hst
              cases h
              obtain ⟨⟨old, q1, q2⟩, _⟩ := put_ok hH htv hv hst rfl
              have L1 := Leads.untracked hH #[.pointer (some ta)] 429
              have L2 := L1.trans (Leads.untracked L1.rel #[.pointer (some ⟨1, 429, none⟩), .pointer (some ⟨w.heap.size, 0, none⟩), .int .u64 150] 246)
              have L3 := L2.trans (Leads.untracked L2.rel #[.pointer (some ⟨1, 429, none⟩), .pointer (some ⟨w.heap.size, 0, none⟩), .int .u64 150] 246)
              have L4 := L3.trans (Leads.untracked L3.rel #[.int .i64 n] 24)
              exact (as_24_429 n ta old w hg q1 q2).mono fun e w' ⟨h1, h2⟩ => ⟨_, σ, h1, .bool true, by rw [h2]; exact L4.trans (put_ok L4.rel htv hv hst rfl).2⟩
            · cases h
          | false =>
            rw [h7, cond_false] at h
            have hh := cond_some h; clear h; obtain ⟨h6, h⟩ := hh
            obtain rfl := Nat.eq_of_beq_eq_true h6
            cases h
            have hc := hq.2
            unfold hasCell at hc
            split at hc
            · rename_i k hk
              rw [Bool.and_eq_true, Nat.blt_eq, Bool.not_eq_true'] at hc
              obtain ⟨old, q1, q2⟩ := target_ok hH htv hk hc.2 hc.1
              have L1 := Leads.untracked hH #[.pointer (some ta)] 152
              have L2 := L1.trans (Leads.untracked L1.rel #[.pointer (some ⟨1, 152, none⟩), .pointer (some ⟨w.heap.size, 0, none⟩), .int .u64 150] 246)
              have L3 := L2.trans (Leads.untracked L2.rel #[.pointer (some ⟨1, 152, none⟩), .pointer (some ⟨w.heap.size, 0, none⟩), .int .u64 150] 246)
              exact (as_24_152 n ta old w hg q1 q2).mono fun e w' ⟨h1, h2⟩ => ⟨_, σ, h1, .bool false, by rw [h2]; exact L3⟩
            · cases hc
        · cases h
      · cases h
  · cases h
end Go.Eng.B
