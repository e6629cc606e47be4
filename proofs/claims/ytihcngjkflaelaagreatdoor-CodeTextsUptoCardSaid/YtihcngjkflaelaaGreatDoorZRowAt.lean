/-
  A block begins with given values.
-/
import Derived.Test.YtihcngjkflaelaaGreatDoorZBase
namespace Go.Proofs.YtihcngjkflaelaaGreatDoor
set_option linter.unusedVariables false
set_option linter.unusedSimpArgs false
open Go.RowKit

theorem cellNewR (w : World) (cs : Array Value) (t : TypeId) (b k : Nat) {u : Value} (hb : b = w.heap.size) (h : cs[k]? = some u) : (w.alloc (.cells cs t)).cell? ⟨b, k, none⟩ = some u := by
  subst hb
  rw [World.cell?_alloc_new]; exact h
/-- The block b begins with the values vs. -/
def RowAt (w : World) (b : Nat) (vs : List Value) : Prop := b < w.heap.size ∧ ∀ (k : Nat) (u : Value), vs[k]? = some u → w.cell? ⟨b, k, none⟩ = some u
theorem RowAt.below {w w' : World} {b : Nat} {vs : List Value} (h : RowAt w b vs) (hb : Below w.heap.size w w') : RowAt w' b vs :=
  ⟨Nat.lt_of_lt_of_le h.1 hb.size, fun k u hu => (hb.cell (p := ⟨b, k, none⟩) h.1).trans (h.2 k u hu)⟩
theorem RowAt.new (w : World) (cs : Array Value) (t : TypeId) (b : Nat) (vs : List Value) (hb : b = w.heap.size) (hv : cs.toList = vs) : RowAt (w.alloc (.cells cs t)) b vs := by
  subst hb hv
  exact ⟨by simp, fun k u hu => cellNewR w cs t _ k rfl (by simpa using hu)⟩

end Go.Proofs.YtihcngjkflaelaaGreatDoor
