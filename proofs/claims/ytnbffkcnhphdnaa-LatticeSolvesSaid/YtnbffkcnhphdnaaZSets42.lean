/-
  Package lattice's operations on sets.
-/
import Derived.Lib.AppendZeros
import Derived.Test.YtnbffkcnhphdnaaZSort
import Derived.Test.YtnbffkcnhphdnaaZSpec42
import Derived.Test.YtnbffkcnhphdnaaZVia
namespace Go.Proofs.Ytnbffkcnhphdnaa
set_option linter.unusedVariables false
set_option linter.unusedSimpArgs false
open Go.RowKit

theorem setL_length (l : List Int) : (setL l).length ≤ l.length := by
  have h1 := Lib.compact_length_le (sortI l)
  rw [sortI_length] at h1
  exact h1
theorem infoI42 : (Try.prog.info? 3).map (fun i => (i.zero, i.size, i.bytes)) = some (some (.int .i64 0), intE.sz, 8) := by kernel_rfl
theorem grown_trans {w w1 w2 : World} {r : Option Nat} (h : w.grownBy w1 r) (k : w1.grownBy w2 r) : w.grownBy w2 r :=
  ⟨k.os.trans h.os, k.tape.trans h.tape, k.output.trans h.output, Nat.le_trans h.size k.size, fun i hi hr => (k.block i (Nat.lt_of_lt_of_le hi h.size) hr).trans (h.block i hi hr)⟩

set_option maxHeartbeats 1000000 in
theorem clone_calls (lo : Nat) (v : Value) (l : List Int) (w : World) (h : IntsAt lo w v l) (hn : l.length ≤ 1000000) :
    Calls Try.prog 46 #[v] w fun e w' => ∃ v', e = .returned v' ∧ OwnE intE w.heap.size 3 w' v' l ∧ Below w.heap.size w w' := by
  obtain ⟨a, c, b, o, rfl, p1, q1, k1, _, _, m1, n1⟩ := h.open
  rcases Nat.eq_zero_or_pos l.length with h0 | h0
  · have hl : l = [] := List.eq_nil_of_length_eq_zero h0
    subst hl
    cases a with
    | none =>
      refine (Try.slices_Clone_int_nil 0 c w).mono ?_
      rintro e w' ⟨rfl, rfl⟩
      exact ⟨_, rfl, OwnE.nil _ _ _ _, Below.refl _ _⟩
    | some ad =>
      refine (Try.slices_Clone_int_zero ad c w).mono ?_
      rintro e w' ⟨v', rfl, h1, _, hb⟩
      exact ⟨v', rfl, OwnE.int.2 h1, hb⟩
  · obtain rfl := p1 h0
    refine (Try.slices_Clone_int b o l.length c l w (Nat.le_refl _) (by omega) (fun j hj => q1 j hj)).mono ?_
    rintro e w' ⟨v', rfl, h1, _, hb⟩
    rw [List.take_length] at h1
    exact ⟨v', rfl, OwnE.int.2 h1, hb⟩

set_option maxHeartbeats 1000000 in
theorem lset_calls (lo : Nat) (v : Value) (l : List Int) (w : World) (h : IntsAt lo w v l) (hn : l.length ≤ 1000000) :
    Calls Try.prog 27 #[v] w fun e w' => ∃ v', e = .returned v' ∧ IntsAt w.heap.size w' v' (setL l) ∧ Below w.heap.size w w' := by
  have H := hid h
  clear h
  go_enter Try.func27, Try.ntmps27
  go_wp2_with fail
  refine (clone_calls lo v l w H.out hn).mono ?_
  rintro e w1 ⟨v1, rfl, h1, hb1⟩
  have H1 := hid h1
  have HB1 := hid hb1
  clear h1 hb1
  go_wp2_with fail
  refine (sort_calls H1.out (by omega)).mono ?_
  rintro e w2 ⟨rfl, h2, g2⟩
  have H2 := hid h2
  have HB2 := hid (Below.grownE HB1.out H1.out g2 HB1.out.size (Nat.le_refl _))
  clear h2 g2
  go_wp2_with fail
  refine (compact_calls H2.out (by rw [sortI_length]; omega)).mono ?_
  rintro e w3 ⟨v3, rfl, h3, g3, _⟩
  have H3 := hid h3
  have HB3 := hid (Below.grownE HB2.out H2.out g3 HB2.out.size (Nat.le_refl _))
  clear h3 g3
  go_wp2_with fail
  go_ret
  refine ⟨v3, rfl, H3.out.sl (Nat.le_refl _) ?_, HB3.out⟩
  have h1 := Lib.compact_length_le (sortI l)
  rw [sortI_length] at h1
  omega

set_option maxHeartbeats 1000000 in
theorem grow_calls (n : Nat) (w : World) (hn : n ≤ 1000000) :
    Calls Try.prog 55 #[.slice none 0 0, .int .i64 n] w fun e w' => ∃ v', e = .returned v' ∧ OwnE intE w.heap.size 3 w' v' [] ∧ Below w.heap.size w w' := by
  rcases Nat.eq_zero_or_pos n with h0 | h0
  · subst h0
    go_enter Try.func55, Try.ntmps55
    go_wp2_with fail
    go_ret
    exact ⟨_, rfl, OwnE.nil _ _ _ _, Below.refl _ _⟩
  · obtain ⟨i, hi, hp⟩ := Option.map_eq_some_iff.1 infoI42
    simp only [Prod.mk.injEq] at hp
    obtain ⟨hz, hsz, hby⟩ := hp
    have hrun := Lib.run_append_nil_zeros (P := Try.prog) w 34 3 34 3 i (.int .i64 0) .i64 .i64 Try.underlying34 Try.underlying3 hi hz n h0 (by rw [hsz]; decide) (by omega) (by rw [hby]; omega)
    have hge := grownCap_ge w n 0 3
    have hle := grownCap_le_maxLen w n 0 3 (by simp only [maxLen]; omega)
    generalize grownCap w n 0 3 = G at hrun hge hle
    have HR := hid hrun
    clear hrun
    have hG63 : G ≤ 9223372036854775807 := by simp only [maxLen] at hle; omega
    have hpos : (0 : Int) < n := by omega
    go_enter Try.func55, Try.ntmps55
    go_wp2_with (at_builtin; refine Lib.wpList_append_run _ rfl _ _ _ _ rfl _ _ rfl rfl _ _ HR.out ?_)
    go_ret
    refine ⟨_, rfl, ⟨rfl, .inr ⟨w.heap.size, G, _, rfl, Nat.le_refl _, heap_alloc_new w.drew _, Nat.zero_le _, hle, ?_, ?_⟩⟩, ?_⟩
    · simp [Builtin.zeroCells, Value.cells, intE]
      omega
    · simp
    · exact (Below.refl _ _).drew.alloc (Nat.le_refl _) _

end Go.Proofs.Ytnbffkcnhphdnaa
