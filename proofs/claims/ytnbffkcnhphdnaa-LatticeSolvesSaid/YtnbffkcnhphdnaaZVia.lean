/-
  Short forms for worlds that follow one another.
-/
import Derived.Test.YtnbffkcnhphdnaaZBox
namespace Go.Proofs.Ytnbffkcnhphdnaa
set_option linter.unusedVariables false
set_option linter.unusedSimpArgs false
open Go.RowKit

theorem bvia {w W w' : World} (h : Below w.heap.size w W) (h' : Below W.heap.size W w') : Below w.heap.size w w' := h.trans (h'.mono h.size)
theorem bdraw {w w' : World} (h : Below w.heap.size w w') (n : Nat) : Below w.heap.size w (w'.drewN n) := h.trans ⟨rfl, rfl, rfl, Nat.le_refl _, fun _ _ => rfl⟩
theorem bone {w w' : World} (h : Below w.heap.size w w') (o : Obj) : Below w.heap.size w (w'.alloc o) := h.alloc h.size o
theorem bstore {w w' : World} (h : Below w.heap.size w w') (b k : Nat) (u : Value) (hb : w.heap.size ≤ b) : Below w.heap.size w (w'.setCell ⟨b, k, none⟩ u) := h.setCell hb u

end Go.Proofs.Ytnbffkcnhphdnaa
