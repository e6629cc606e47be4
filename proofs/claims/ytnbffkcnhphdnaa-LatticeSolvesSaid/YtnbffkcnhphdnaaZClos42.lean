/-
  The two closures that apply an edge; slices.Equal; the start sets.
-/
import Derived.Test.YtnbffkcnhphdnaaZApply42
namespace Go.Proofs.Ytnbffkcnhphdnaa
set_option linter.unusedVariables false
set_option linter.unusedSimpArgs false
open Go.RowKit

/-- What is asked of the edges of a graph. -/
def EOk (E : List Edg) : Prop := E.length ≤ 1000 ∧ ∀ i, i < E.length → (nth E i).kill.length ≤ 1000 ∧ (nth E i).gen.length ≤ 1000

set_option maxHeartbeats 2000000 in
theorem may1_calls (lo1 lo2 : Nat) (ve vx : Value) (eb i : Nat) (E : List Edg) (x : List Int) (w : World) (hE : EdgesAt lo1 w ve E) (hok : EOk E) (hc : w.cell? ⟨eb, 0, none⟩ = some ve) (hx : IntsAt lo2 w vx x) (hi : i < E.length) (h3 : x.length ≤ 100000) :
    Calls Try.prog 40 #[.int .i64 i, vx, .pointer (some ⟨eb, 0, none⟩)] w fun en w' => ∃ v', en = .returned v' ∧ IntsAt w.heap.size w' v' (thru (nth E i) x) ∧ Below w.heap.size w w' := by
  obtain ⟨a, c, b, o, K, G, rfl, p1, x0, x1, x2, x3, xk, xg, k1, _, m0, m1, n1⟩ := hE.open
  have e1 := p1 (by omega)
  subst e1
  have d0 := x0 i hi
  have d1 := x1 i hi
  have d2 := x2 i hi
  have d3 := x3 i hi
  have z1 := k1 (by omega)
  have HK := hid (xk i hi)
  have HG := hid (xg i hi)
  have HX := hid hx
  have HOK := hid (hok.2 i hi)
  have zeb := World.block_lt_of_cell? _ _ hc
  have hi2 : (i : Int) < E.length := Int.ofNat_lt.2 hi
  clear hE hok p1 x0 x1 x2 x3 xk xg k1 hx
  generalize nth E i = ed at *
  go_enter Try.func40, Try.ntmps40
  go_wp2_with (
    go_at_call 41
    refine (apply_calls lo1 lo2 _ _ vx ed x w HK.out HG.out HX.out (by have := HOK.out; omega) (by have := HOK.out; omega) h3).mono ?_
    rintro en w1 ⟨v1, rfl, h1, hb1⟩
    have H1 := hid h1
    have HB1 := hid hb1
    clear h1 hb1)
  go_ret
  exact ⟨_, rfl, H1.out, HB1.out⟩

set_option maxHeartbeats 2000000 in
theorem must1_calls (lo1 lo2 : Nat) (ve vx : Value) (eb i : Nat) (E : List Edg) (x : List Int) (w : World) (hE : EdgesAt lo1 w ve E) (hok : EOk E) (hc : w.cell? ⟨eb, 0, none⟩ = some ve) (hx : IntsAt lo2 w vx x) (hi : i < E.length) (h3 : x.length ≤ 100000) :
    Calls Try.prog 42 #[.int .i64 i, vx, .pointer (some ⟨eb, 0, none⟩)] w fun en w' => ∃ v', en = .returned v' ∧ IntsAt w.heap.size w' v' (thru (nth E i) x) ∧ Below w.heap.size w w' := by
  obtain ⟨a, c, b, o, K, G, rfl, p1, x0, x1, x2, x3, xk, xg, k1, _, m0, m1, n1⟩ := hE.open
  have e1 := p1 (by omega)
  subst e1
  have d0 := x0 i hi
  have d1 := x1 i hi
  have d2 := x2 i hi
  have d3 := x3 i hi
  have z1 := k1 (by omega)
  have HK := hid (xk i hi)
  have HG := hid (xg i hi)
  have HX := hid hx
  have HOK := hid (hok.2 i hi)
  have zeb := World.block_lt_of_cell? _ _ hc
  have hi2 : (i : Int) < E.length := Int.ofNat_lt.2 hi
  clear hE hok p1 x0 x1 x2 x3 xk xg k1 hx
  generalize nth E i = ed at *
  go_enter Try.func42, Try.ntmps42
  go_wp2_with (
    go_at_call 41
    refine (apply_calls lo1 lo2 _ _ vx ed x w HK.out HG.out HX.out (by have := HOK.out; omega) (by have := HOK.out; omega) h3).mono ?_
    rintro en w1 ⟨v1, rfl, h1, hb1⟩
    have H1 := hid h1
    have HB1 := hid hb1
    clear h1 hb1)
  go_ret
  exact ⟨_, rfl, H1.out, HB1.out⟩

set_option maxHeartbeats 1000000 in
theorem equal_calls (lo1 lo2 : Nat) (va vb : Value) (a b : List Int) (w : World) (ha : IntsAt lo1 w va a) (hb : IntsAt lo2 w vb b) (h1 : a.length ≤ 1000000) (h2 : b.length ≤ 1000000) :
    Calls Try.prog 39 #[va, vb] w fun e w' => e = .returned (.bool (decide (a = b))) ∧ Below w.heap.size w w' := by
  obtain ⟨a1, c1, b1, o1, rfl, p1, q1, k1, _, _, m1, n1⟩ := ha.open
  obtain ⟨a2, c2, b2, o2, rfl, p2, q2, k2, _, _, m2, n2⟩ := hb.open
  by_cases hl : a.length = b.length
  · rcases Nat.eq_zero_or_pos a.length with h0 | h0
    · have ea : a = [] := List.eq_nil_of_length_eq_zero h0
      have eb : b = [] := List.eq_nil_of_length_eq_zero (by omega)
      subst ea eb
      refine (Try.slices_Equal_int_empty a1 a2 c1 0 c2 w (by omega)).mono ?_
      rintro e w' ⟨rfl, rfl⟩
      exact ⟨by simp, Below.refl _ _⟩
    · obtain rfl := p1 h0
      obtain rfl := p2 (by omega)
      refine (Try.slices_Equal_int b1 o1 a.length c1 b2 o2 b.length c2 a b w (Nat.le_refl _) (Nat.le_refl _) (by omega) (by omega) (fun j hj => q1 j hj) (fun j hj => q2 j hj)).mono ?_
      rintro e w' ⟨rfl, q, rfl⟩
      refine ⟨?_, bdraw (Below.refl _ _) q⟩
      rw [List.take_length, List.take_length]
      exact ret_bool (by rw [Bool.eq_iff_iff]; simp)
  · refine (Try.slices_Equal_int_lens a1 a2 a.length c1 b.length c2 w hl).mono ?_
    rintro e w' ⟨rfl, rfl⟩
    exact ⟨by rw [decide_eq_false (fun h => hl (by rw [h]))], Below.refl _ _⟩

end Go.Proofs.Ytnbffkcnhphdnaa
