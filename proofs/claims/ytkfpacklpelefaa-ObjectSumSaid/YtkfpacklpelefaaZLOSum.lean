/-
  The law ObjectSum, walked.
-/
import Derived.Test.YtkfpacklpelefaaZLaw10
namespace Go.Proofs.Ytkfpacklpelefaa
set_option linter.unusedVariables false
set_option linter.unusedSimpArgs false
open Go.RowKit

set_option maxRecDepth 100000 in
set_option maxHeartbeats 4000000 in
theorem lsum_calls (lo : Nat) (v : Value) (l : List UInt8) (w : World) (h : BytesAt lo w v l) :
    Calls Try.prog 3 #[v] w fun e w' => e = .returned (.bool true) ∧ Below w.heap.size w w' := by
  have H := hid h
  obtain ⟨a, c, b, o, rfl, _⟩ := h.open
  clear h
  go_enter Try.func3, Try.ntmps3
  go_wp2_with fail
  refine (awake10_calls w).mono ?_
  rintro e w1 ⟨rfl, hb⟩
  have HB1 := hid hb
  clear hb
  go_wp2_with fail
  refine (osum_calls lo _ l w1 (H.out.below HB1.out)).mono ?_
  rintro e w2 ⟨rfl, hb⟩
  have HB2 := hid (bvia HB1.out hb)
  clear hb
  go_wp2_with fail
  refine (rsum_calls lo _ l w2 (H.out.below HB2.out)).mono ?_
  rintro e w3 ⟨rfl, hb⟩
  have HB3 := hid (bvia HB2.out hb)
  clear hb
  obtain ⟨s, hs⟩ : ∃ s, natS (sumB l) = s := ⟨_, rfl⟩
  rw [hs]
  go_wp2_with fail
  go_ret
  exact ⟨rfl, HB3.out⟩

end Go.Proofs.Ytkfpacklpelefaa
