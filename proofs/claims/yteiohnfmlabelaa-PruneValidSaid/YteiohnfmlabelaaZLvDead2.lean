/-
  Package live's Dead, for every argument.
-/
import Derived.Test.YteiohnfmlabelaaZLvDead
namespace Go.Proofs.Yteiohnfmlabelaa
set_option linter.unusedVariables false
set_option linter.unusedSimpArgs false
open Go.RowKit

set_option maxRecDepth 100000 in
set_option maxHeartbeats 4000000 in
theorem dead_no (lo : Nat) (vf vg vl : Value) (p : Prg) (fn : Int) (w : World) (hp : ProgAt lo w vf vg vl p) (ht : thereB p fn = false) :
    Calls Try.prog 32 #[.agg #[vf, vg, vl, .int .i64 p.main], .int .i64 fn] w fun e w' => e = .returned (.slice none 0 0) ∧ Below w.heap.size w w' := by
  have HP := hid hp
  have HT := hid ht
  obtain ⟨fa, fc, fb, fo, S, rfl, p1, _, _, _, _, _, k1, _, m1, n1⟩ := hp.funcs.open
  obtain ⟨ga, gc, _, _, rfl, _⟩ := hp.globs.open
  obtain ⟨la, lc, _, _, _, rfl, _⟩ := hp.lays.open
  clear hp p1 k1 ht
  go_enter Try.func32, Try.ntmps32
  have HB := hid (show Below w.heap.size w (w.alloc (.cells #[.slice fa p.funcs.length fc, .slice ga p.globals.length gc, .slice la p.layouts.length lc, .int .i64 p.main] 26)) from (Below.refl _ _).alloc (Nat.le_refl _) _)
  go_wp2_with (
    go_at_call 49
    refine (there_calls lo _ _ _ p fn _ (HP.out.below HB.out)).mono ?_
    rw [HT.out]
    rintro e w1 ⟨rfl, hb1⟩)
  go_ret
  exact ⟨rfl, HB.out.trans (hb1.mono (by simp))⟩

theorem dead_calls (lo : Nat) (vf vg vl : Value) (p : Prg) (fn : Int) (w : World) (hp : ProgAt lo w vf vg vl p) :
    Calls Try.prog 32 #[.agg #[vf, vg, vl, .int .i64 p.main], .int .i64 fn] w fun e w' => ∃ v' l, e = .returned v' ∧ DeadIs p fn l ∧ IntsAt w.heap.size w' v' l ∧ Below w.heap.size w w' := by
  cases ht : thereB p fn with
  | false =>
    refine (dead_no lo vf vg vl p fn w hp ht).mono ?_
    rintro e w' ⟨rfl, hb⟩
    exact ⟨_, [], rfl, .inl ⟨ht, rfl⟩, SlE.nil _ _ _, hb⟩
  | true =>
    obtain ⟨h0, h1, hv⟩ := there_get ht
    obtain ⟨F, rfl⟩ := Int.eq_ofNat_of_zero_le h0
    refine (dead_yes lo vf vg vl p F w hp hv (by omega)).mono ?_
    rintro e w' ⟨v', L, rfl, hL, hi, hb⟩
    exact ⟨v', _, rfl, .inr ⟨ht, L, by rw [Int.toNat_natCast]; exact hL, rfl⟩, by rw [Int.toNat_natCast]; exact hi, hb⟩
theorem DeadIs.unique {p : Prg} {fn : Int} {l l' : List Int} (h : DeadIs p fn l) (h' : DeadIs p fn l') : l = l' := by
  rcases h with ⟨h1, rfl⟩ | ⟨h1, L, h2, rfl⟩ <;> rcases h' with ⟨h3, rfl⟩ | ⟨h3, L', h4, rfl⟩
  · rfl
  · rw [h1] at h3; cases h3
  · rw [h1] at h3; cases h3
  · rw [h2.unique h4]

end Go.Proofs.Yteiohnfmlabelaa
