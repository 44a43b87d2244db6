/- Short words for the values of entries; an entry's proof off those of the entries that it leans on. -/
import Derived.Test.YtcnamndapofimaaGreatDoorCutB
namespace Go.Eng.Lit
open Go Go.Eng
abbrev b (x : Bool) : Value := .bool x
abbrev i (n : Nat) : Value := .int .i64 (.ofNat n)
abbrev s (l : List UInt8) : Value := .string ⟨⟨l⟩⟩
abbrev p0 : Value := .pointer none
abbrev p (x o : Nat) : Value := .pointer (some ⟨x, o, none⟩)
abbrev c (x o n k : Nat) : Value := .slice (some ⟨x, o, none⟩) n k
abbrev m (x : Nat) : Value := .map (some x)
abbrev ni : Value := .nilIface
abbrev f (t : Nat) (v : Value) : Value := .iface t v
abbrev a (l : List Value) : Value := .agg ⟨l⟩
abbrev t (l : List Value) : Value := .tuple ⟨l⟩
abbrev g (x : Nat) (l k : List Value) : Value := .func (.func x) ⟨l⟩ ⟨k⟩
abbrev L : T Value := .leaf
abbrev N (v : Value) (l r : T Value) : T Value := .node (some v) l r
abbrev O (l r : T Value) : T Value := .node none l r
abbrev B (n sz : Nat) (tr : T Value) (zero : List Value) : AObj := .cells { n := n, sz := sz, tr := tr, zero := zero }
abbrev M (l : List (Value × Value)) : AObj := .map l
end Go.Eng.Lit
namespace Go.Eng
open Go
/-- All entries of a list stand. -/
def AllOk [Base] (P : Program) (es : List Ent) : Prop := ∀ e ∈ es, EntOk P e
theorem AllOk.nil [Base] {P : Program} : AllOk P [] := fun _ h => by cases h
theorem AllOk.cons [Base] {P : Program} {e : Ent} {es : List Ent} (h : EntOk P e) (k : AllOk P es) : AllOk P (e :: es) := fun x hx => by
  rcases List.mem_cons.1 hx with rfl | hx
  · exact h
  · exact k x hx
theorem AllOk.append [Base] {P : Program} {es fs : List Ent} (h : AllOk P es) (k : AllOk P fs) : AllOk P (es ++ fs) := fun x hx => by
  rcases List.mem_append.1 hx with hx | hx
  · exact h x hx
  · exact k x hx
/-- What the entries' proofs are given of the program. -/
structure Given [Base] (P : Program) (h0 : FuncId → List Value → AH → Option HRes) : Prop where
  hook : HookOk P (ctxOf P h0)
  names : ∀ h, NamesOk P (ctxOf P h)
  follows : P.follows .mixedOrders = true
theorem Given.ent [Base] {P : Program} {h0 : FuncId → List Value → AH → Option HRes} (G : Given P h0) {e : Ent} {n : Nat} (h : e.holds (ctxOf P h0) n = true) : EntOk P e :=
  Ent.ok (ctxOf_ok _ _) (G.names _) G.hook G.follows h
theorem Given.entT [Base] {P : Program} {h0 : FuncId → List Value → AH → Option HRes} (G : Given P h0) {es : List Ent} (hes : AllOk P es) {e : Ent} {n : Nat} (h : e.holds (ctxOf P (hookT h0 es)) n = true) : EntOk P e :=
  Ent.ok (ctxOf_ok _ _) (G.names _) (hookT_ok G.hook hes) G.follows h
theorem Given.calls [Base] {P : Program} {h0 : FuncId → List Value → AH → Option HRes} (G : Given P h0) {es : List Ent} (hes : AllOk P es) : HookOk P (ctxOf P (hookT h0 es)) := hookT_ok G.hook hes
end Go.Eng
