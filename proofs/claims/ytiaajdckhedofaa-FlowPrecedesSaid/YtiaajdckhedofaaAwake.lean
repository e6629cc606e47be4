import Derived.Test.YtiaajdckhedofaaEx
import Derived.Test.YtiaajdckhedofaaInts
import Derived.Test.YtiaajdckhedofaaBnd
namespace Go.Proofs.Ytiaajdckhedofaa
set_option linter.unusedVariables false
set_option linter.unusedSimpArgs false
open Go.RowKit

/-- The name of the example's function. -/
def exName : ByteArray := ⟨#[109, 97, 105, 110]⟩

set_option maxRecDepth 100000 in
set_option maxHeartbeats 4000000 in
theorem example_calls (w : World) : Calls Try.prog 24 #[] w fun e w' => ∃ vc, e = .returned (.agg #[.string exName, .int .i64 0, .int .i64 1, vc]) ∧ CodeAt w.heap.size w' vc exL ∧ Below w.heap.size w w' := by
  go_enter Try.func24, Try.ntmps24
  go_wp2_with fail
  refine bodyPost_ret (v := .agg #[.string exName, .int .i64 0, .int .i64 1, .slice (some ⟨w.heap.size + 1, 0, none⟩) 6 6]) (by simp [results, Try.results24, go_sem, exName]) rfl ⟨_, rfl, ?_, ((Below.refl _ _).alloc (Nat.le_refl _) _).alloc (by simp) _⟩
  exact (OwnE.lit insE _ w.heap.size 48 exL _ (w.heap.size + 1) 6 (by simp) (by omega) rfl rfl (by simp [exL])).sl (Nat.le_refl _) (by simp [exL])

set_option maxRecDepth 100000 in
set_option maxHeartbeats 4000000 in
theorem awake_calls (w : World) : Calls Try.prog 11 #[] w fun e w' => e = .returned (.bool true) ∧ Below w.heap.size w w' := by
  go_enter Try.func11, Try.ntmps11
  go_wp2_with fail
  refine (example_calls _).mono ?_
  rintro e w1 ⟨vc1, rfl, hc1, hb1⟩
  have HC1 := hid hc1
  have HB1 := hid hb1
  clear hc1 hb1
  go_wp2_with fail
  refine (blocks_calls _ _ exName 0 1 exL _ HC1.out ex_jok).mono ?_
  rintro e w2 ⟨v2, rfl, hk2, hb2⟩
  have HB2 := hid (HB1.out.trans (hb2.mono (by have := HB1.out.size; omega)))
  rw [ex_blks] at hk2
  obtain ⟨a2, c2, b2, o2, S2, rfl, ha2, q0, q1, _, _, hbl, hlo, hc2, hc3, hc4⟩ := hk2.open
  simp only [List.length_cons, List.length_nil] at *
  obtain rfl := ha2 (by omega)
  have d0 := q0 0 (by omega)
  have d1 := q1 0 (by omega)
  have d3 := q0 3 (by omega)
  have r2 : b2 < w2.heap.size := hbl (by omega)
  clear q0 q1 hbl hlo hk2 ha2 hb2
  simp [nth] at d0 d1 d3
  go_wp2_with fail
  refine (example_calls _).mono ?_
  rintro e w3 ⟨vc3, rfl, hc3', hb3⟩
  have HC3 := hid hc3'
  have HB3 := hid (HB2.out.trans (hb3.mono (by have := HB2.out.size; omega)))
  clear hc3' hb3
  go_wp2_with fail
  refine (order_calls _ _ exName 0 1 exL _ HC3.out ex_jok).mono ?_
  rintro e w4 ⟨v4, rfl, hk4, hb4⟩
  have HB4 := hid (HB3.out.trans (hb4.mono (by have := HB3.out.size; omega)))
  rw [ex_order] at hk4
  have HK4 := hid hk4
  clear hk4 hb4
  go_wp2_with fail
  generalize hW : World.alloc _ _ = W5
  have hb5 : Below w.heap.size w W5 := by rw [← hW]; exact HB4.out.alloc (by have := HB4.out.size; omega) _
  have hi5 : IntsAt w.heap.size W5 (.slice (some ⟨w4.heap.size, 0, none⟩) 4 4) [0, 2, 1, 3] := by
    rw [← hW]
    exact (OwnE.lit intE w4 w4.heap.size 3 [0, 2, 1, 3] _ w4.heap.size 4 rfl (Nat.le_refl _) rfl rfl (by simp)).sl (by have := HB4.out.size; omega) (by simp)
  have hk5 : IntsAt w.heap.size W5 v4 [0, 2, 1, 3] := by
    rw [← hW]
    exact (HK4.out.mono (by have := HB3.out.size; omega)).below ((Below.refl _ _).alloc (Nat.le_refl _) _)
  have HB5 := hid hb5
  clear hb5
  refine (ints_calls _ _ _ _ _ _ W5 hk5 hi5).mono ?_
  rintro e w6 ⟨rfl, hb6⟩
  have HB6 := hid (HB5.out.trans (hb6.mono (by have := HB5.out.size; omega)))
  clear hb6
  rw [show intsEq [0, 2, 1, 3] [0, 2, 1, 3] = true from by decide]
  go_wp2_with fail
  refine (example_calls _).mono ?_
  rintro e w7 ⟨vc7, rfl, hc7', hb7⟩
  have HC7 := hid hc7'
  have HB7 := hid (HB6.out.trans (hb7.mono (by have := HB6.out.size; omega)))
  clear hc7' hb7
  go_wp2_with fail
  refine (dom_calls _ _ exName 0 1 exL 1 5 _ HC7.out ex_jok).mono ?_
  rintro e w8 ⟨rfl, hb8⟩
  have HB8 := hid (HB7.out.trans (hb8.mono (by have := HB7.out.size; omega)))
  clear hb8
  rw [ex_dom1]
  go_wp2_with fail
  refine (example_calls _).mono ?_
  rintro e w9 ⟨vc9, rfl, hc9', hb9⟩
  have HC9 := hid hc9'
  have HB9 := hid (HB8.out.trans (hb9.mono (by have := HB8.out.size; omega)))
  clear hc9' hb9
  go_wp2_with fail
  refine (dom_calls _ _ exName 0 1 exL 2 5 _ HC9.out ex_jok).mono ?_
  rintro e w10 ⟨rfl, hb10⟩
  have HB10 := hid (HB9.out.trans (hb10.mono (by have := HB9.out.size; omega)))
  clear hb10
  rw [ex_dom2]
  go_wp2_with fail
  refine (example_calls _).mono ?_
  rintro e w11 ⟨vc11, rfl, hc11', hb11⟩
  have HC11 := hid hc11'
  have HB11 := hid (HB10.out.trans (hb11.mono (by have := HB10.out.size; omega)))
  clear hc11' hb11
  go_wp2_with fail
  refine (reach_calls _ _ exName 0 1 exL _ HC11.out ex_jok).mono ?_
  rintro e w12 ⟨g, n, rfl, hn, hg, hrow, hb12⟩
  have HB12 := hid (HB11.out.trans (hb12.mono (by have := HB11.out.size; omega)))
  have hn6 : n = 6 := by rw [hn]; rfl
  subst hn6
  clear hb12 hn hrow
  go_wp2_with fail
  go_ret
  exact ⟨rfl, HB12.out⟩

end Go.Proofs.Ytiaajdckhedofaa
