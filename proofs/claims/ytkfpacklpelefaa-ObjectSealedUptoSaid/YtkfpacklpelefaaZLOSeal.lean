/-
  The law ObjectSealed, walked.
-/
import Derived.Test.YtkfpacklpelefaaZLaw10
namespace Go.Proofs.Ytkfpacklpelefaa
set_option linter.unusedVariables false
set_option linter.unusedSimpArgs false
open Go.RowKit

set_option maxRecDepth 100000 in
set_option maxHeartbeats 4000000 in
theorem lsealed_calls (lo : Nat) (v : Value) (l : List UInt8) (w : World) (h : BytesAt lo w v l) (hl : l.length ≤ 100000000) :
    Calls Try.prog 6 #[v] w fun e w' => e = .returned (.bool true) ∧ Below w.heap.size w w' := by
  have H := hid h
  obtain ⟨a, c, b, o, rfl, _⟩ := h.open
  clear h
  go_enter Try.func6, Try.ntmps6
  go_wp2_with fail
  refine (awake10_calls w).mono ?_
  rintro e w1 ⟨rfl, hb⟩
  have HB1 := hid hb
  clear hb
  go_wp2_with fail
  refine (sealed_calls lo _ l w1 (H.out.below HB1.out) hl).mono ?_
  rintro e w2 ⟨v2, rfl, ho, hb⟩
  have HO2 := hid ho
  have HB2 := hid (bvia HB1.out hb)
  clear ho hb
  go_wp2_with fail
  refine (decoded_calls 0 _ _ w2 HO2.out (by rw [seal_len]; omega)).mono ?_
  rintro e w3 ⟨rfl, hb⟩
  have HB3 := hid (bvia HB2.out hb)
  clear hb
  go_wp2_with fail
  go_ret
  exact ⟨rfl, HB3.out⟩

end Go.Proofs.Ytkfpacklpelefaa
