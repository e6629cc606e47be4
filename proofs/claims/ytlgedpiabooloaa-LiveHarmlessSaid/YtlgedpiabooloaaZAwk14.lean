/-
  The reference's Dead, for every argument.
-/
import Derived.Test.YtlgedpiabooloaaZRDead
namespace Go.Proofs.Ytlgedpiabooloaa
set_option linter.unusedVariables false
set_option linter.unusedSimpArgs false
open Go.RowKit

set_option maxRecDepth 100000 in
set_option maxHeartbeats 4000000 in
theorem rdead_no (lo : Nat) (vf vg vl : Value) (p : Prg) (fn : Int) (w : World) (hp : ProgAt lo w vf vg vl p) (ht : thereB p fn = false) :
    Calls Try.prog 14 #[.agg #[vf, vg, vl, .int .i64 p.main], .int .i64 fn] w fun e w' => e = .returned (.slice none 0 0) ∧ Below w.heap.size w w' := by
  have HP := hid hp
  have HT := hid ht
  obtain ⟨fa, fc, fb, fo, S, rfl, p1, _, _, _, _, _, k1, _, m1, n1⟩ := hp.funcs.open
  obtain ⟨ga, gc, _, _, rfl, _⟩ := hp.globs.open
  obtain ⟨la, lc, _, _, _, rfl, _⟩ := hp.lays.open
  clear hp p1 k1 ht
  go_enter Try.func14, Try.ntmps14
  have HB := hid (show Below w.heap.size w (w.alloc (.cells #[.slice fa p.funcs.length fc, .slice ga p.globals.length gc, .slice la p.layouts.length lc, .int .i64 p.main] 26)) from (Below.refl _ _).alloc (Nat.le_refl _) _)
  go_wp2_with (
    go_at_call 11
    refine (rin_no lo _ _ _ p fn _ (HP.out.below HB.out) HT.out).mono ?_
    rintro e w1 ⟨rfl, hb1⟩)
  go_ret
  exact ⟨rfl, HB.out.trans (hb1.mono (by simp))⟩

theorem rdead_calls (lo : Nat) (vf vg vl : Value) (p : Prg) (fn : Int) (w : World) (hp : ProgAt lo w vf vg vl p) :
    Calls Try.prog 14 #[.agg #[vf, vg, vl, .int .i64 p.main], .int .i64 fn] w fun e w' => ∃ v' l, e = .returned v' ∧ DeadIs p fn l ∧ IntsAt w.heap.size w' v' l ∧ Below w.heap.size w w' := by
  cases ht : thereB p fn with
  | false =>
    refine (rdead_no lo vf vg vl p fn w hp ht).mono ?_
    rintro e w' ⟨rfl, hb⟩
    exact ⟨_, [], rfl, .inl ⟨ht, rfl⟩, SlE.nil _ _ _, hb⟩
  | true =>
    obtain ⟨h0, h1, hv⟩ := there_get ht
    obtain ⟨F, rfl⟩ := Int.eq_ofNat_of_zero_le h0
    refine (rdead_yes lo vf vg vl p F w hp hv (by omega)).mono ?_
    rintro e w' ⟨v', L, rfl, hL, hi, hb⟩
    exact ⟨v', _, rfl, .inr ⟨ht, L, by rw [Int.toNat_natCast]; exact hL, rfl⟩, by rw [Int.toNat_natCast]; exact hi, hb⟩

end Go.Proofs.Ytlgedpiabooloaa

/-
  The example of the document on liveness: what its sets and its dead instructions are.
-/
namespace Go.Proofs.Ytlgedpiabooloaa
set_option linter.unusedVariables false
set_option linter.unusedSimpArgs false
open Go.RowKit

def exNm : ByteArray := ⟨#[109, 97, 105, 110]⟩
def exC14 : List Ins := [⟨1, 0, 0, 0, 0⟩, ⟨1, 1, 0, 0, 0⟩, ⟨52, 0, 0, 0, 0⟩, ⟨30, -1, 0, 0, 0⟩]
def exP14 : Prg := ⟨[⟨exNm, 0, 2, exC14⟩], [], [], 0⟩
theorem exP14_there : thereB exP14 0 = true := by decide +kernel
theorem exP14_valid : validB exP14 = true := by decide +kernel
theorem setL_fold (l : List Int) : setL l = l.foldl withL [] := (foldl_setL l).symm
theorem ex14_pass1 : passL exP14 0 4 (List.replicate 4 []) = [[], [0], [0], []] := by
  simp only [passL, stepsL, passAt, beforeL, afterL, usesC, defsC, setL_fold]
  decide +kernel
theorem ex14_pass2 : passL exP14 0 4 [[], [0], [0], []] = [[], [0], [0], []] := by
  simp only [passL, stepsL, passAt, beforeL, afterL, usesC, defsC, setL_fold]
  decide +kernel
theorem ex14_live : IsLive exP14 0 4 [[], [0], [0], []] := ⟨⟨1, ex14_pass1.symm⟩, ex14_pass2⟩
theorem ex14_in {L : List (List Int)} (h : InIs exP14 0 L) : L = [[], [0], [0], []] := by
  rcases h with ⟨h1, _⟩ | ⟨_, h2⟩
  · rw [exP14_there] at h1; cases h1
  · exact h2.unique ex14_live
theorem ex14_path0 : Path exC14 (-1) 0 := .start (by decide) (by decide)
theorem ex14_path1 : Path exC14 (-1) 1 := .step 0 1 ex14_path0 (by decide) (by decide)
open Classical in
theorem ex14_reach1 : nth (reachL exC14) 1 = true := by
  rw [reachL_at _ _ (by decide), show headN exC14 1 = 1 by decide, reachB_at _ _ _ (by decide)]
  exact decide_eq_true ex14_path1
theorem ex14_after0 : afterL exP14 0 [[], [0], [0], []] 0 = [0] := by
  simp only [afterL, setL_fold]
  decide +kernel
theorem ex14_after1 : afterL exP14 0 [[], [0], [0], []] 1 = [0] := by
  simp only [afterL, setL_fold]
  decide +kernel
theorem ex14_d0 : deadB exP14 0 [[], [0], [0], []] 0 = false := by
  unfold deadB
  rw [ex14_after0]
  simp only [Bool.and_eq_false_iff]
  right; right
  decide +kernel
theorem ex14_d1 : deadB exP14 0 [[], [0], [0], []] 1 = true := by
  unfold deadB
  rw [ex14_after1, show (nth exP14.funcs 0).code = exC14 from rfl, ex14_reach1]
  decide +kernel
theorem ex14_d2 : deadB exP14 0 [[], [0], [0], []] 2 = false := by
  unfold deadB
  rw [show pureB (nth (nth exP14.funcs 0).code 2).op = false by decide +kernel]
  simp
theorem ex14_d3 : deadB exP14 0 [[], [0], [0], []] 3 = false := by
  unfold deadB
  rw [show pureB (nth (nth exP14.funcs 0).code 3).op = false by decide +kernel]
  simp
theorem ex14_dead {l : List Int} (h : DeadIs exP14 0 l) : l = [1] := by
  rcases h with ⟨h1, _⟩ | ⟨_, L, h2, rfl⟩
  · rw [exP14_there] at h1; cases h1
  · have e : L = [[], [0], [0], []] := h2.unique ex14_live
    subst e
    show deadL exP14 0 _ 4 = [1]
    rw [deadL_succ, deadL_succ, deadL_succ, deadL_succ, ex14_d0, ex14_d1, ex14_d2, ex14_d3]
    rfl

end Go.Proofs.Ytlgedpiabooloaa

/-
  The example of the document on liveness, walked.
-/
namespace Go.Proofs.Ytlgedpiabooloaa
set_option linter.unusedVariables false
set_option linter.unusedSimpArgs false
open Go.RowKit

set_option maxRecDepth 100000 in
set_option maxHeartbeats 8000000 in
theorem example14_calls (w : World) : Calls Try.prog 29 #[] w fun e w' => ∃ vf, e = .returned (.agg #[vf, .slice none 0 0, .slice none 0 0, .int .i64 exP14.main]) ∧ ProgAt w.heap.size w' vf (.slice none 0 0) (.slice none 0 0) exP14 ∧ Below w.heap.size w w' := by
  go_enter Try.func29, Try.ntmps29
  go_wp2_with fail
  generalize hW : World.alloc _ _ = W
  have hcode : CodeAt w.heap.size W (.slice (some ⟨w.heap.size + 1, 0, none⟩) 4 4) exC14 := by
    rw [← hW]
    exact ((OwnE.lit insE _ w.heap.size 47 exC14 _ (w.heap.size + 1) 4 (by simp) (by omega) rfl rfl (by simp [exC14])).alloc _).sl (Nat.le_refl _) (by simp [exC14])
  have hfun : SlE funE w.heap.size W (.slice (some ⟨w.heap.size + 1 + 1, 0, none⟩) 1 1) [(⟨exNm, 0, 2, exC14⟩, ⟨some ⟨w.heap.size + 1, 0, none⟩, 4, 4⟩)] := by
    rw [← hW]
    exact (OwnE.lit funE _ w.heap.size 36 [(⟨exNm, 0, 2, exC14⟩, ⟨some ⟨w.heap.size + 1, 0, none⟩, 4, 4⟩)] _ (w.heap.size + 1 + 1) 1 (by simp) (by omega) rfl rfl (by simp)).sl (Nat.le_refl _) (by simp)
  have hbW : Below w.heap.size w W := by rw [← hW]; exact (((Below.refl _ _).alloc (Nat.le_refl _) _).alloc (by simp) _).alloc (by simp; omega) _
  have R1 : RowAt W w.heap.size [.slice (some ⟨w.heap.size + 1 + 1, 0, none⟩) 1 1, .slice none 0 0, .slice none 0 0, .int .i64 0] := by
    rw [← hW]
    exact (RowAt.new w _ _ w.heap.size _ rfl rfl).below ((((Below.refl _ _).alloc (by simp) _)).alloc (by simp) _)
  have a0 := R1.2 0 _ rfl
  have a1 := R1.2 1 _ rfl
  have a2 := R1.2 2 _ rfl
  have a3 := R1.2 3 _ rfl
  have s1 := R1.1
  clear hW
  refine bodyPost_ret (v := .agg #[.slice (some ⟨w.heap.size + 1 + 1, 0, none⟩) 1 1, .slice none 0 0, .slice none 0 0, .int .i64 0]) (by simp [results, Try.results29, go_sem, a0, a1, a2, a3, s1]) rfl ⟨_, rfl, ?_, hbW⟩
  exact ⟨⟨[⟨some ⟨w.heap.size + 1, 0, none⟩, 4, 4⟩], rfl, hfun, fun i hi => by
    have : i = 0 := by have := hi; simp [exP14] at this; omega
    subst this
    exact hcode⟩, SlE.nil _ _ _, ⟨[], rfl, SlE.nil _ _ _, fun i hi => by simp [exP14] at hi⟩⟩

theorem ints14_one (lo : Nat) (v : Value) (c : Int) (w : World) (h : IntsAt lo w v [c]) :
    Calls Try.prog 12 #[v, .slice (some ⟨w.heap.size, 0, none⟩) 1 1] (w.alloc (.cells #[.int .i64 c] 3)) fun e w' => e = .returned (.bool true) ∧ Below w.heap.size w w' := by
  have hb : Below w.heap.size w (w.alloc (.cells #[.int .i64 c] 3)) := (Below.refl _ _).alloc (Nat.le_refl _) _
  have hi : IntsAt w.heap.size (w.alloc (.cells #[.int .i64 c] 3)) (.slice (some ⟨w.heap.size, 0, none⟩) 1 1) [c] :=
    (OwnE.lit intE w w.heap.size 3 [c] _ w.heap.size 1 rfl (Nat.le_refl _) rfl rfl (by simp)).sl (Nat.le_refl _) (by simp)
  refine (ints_calls _ _ _ _ _ _ _ (h.below hb) hi).mono ?_
  rintro e w' ⟨rfl, hb'⟩
  exact ⟨by simp [intsEq], hb.trans (hb'.mono hb.size)⟩

set_option maxRecDepth 100000 in
set_option maxHeartbeats 8000000 in
theorem awake14_calls (w : World) : Calls Try.prog 9 #[] w fun e w' => e = .returned (.bool true) ∧ Below w.heap.size w w' := by
  go_enter Try.func9, Try.ntmps9
  go_wp2_with fail
  refine (example14_calls w).mono ?_
  rintro e w1 ⟨vf, rfl, hp1, hb1⟩
  have HP1 := hid hp1
  have HB1 := hid hb1
  clear hp1 hb1
  go_wp2_with fail
  refine (in_calls _ _ _ _ exP14 0 w1 HP1.out).mono ?_
  rintro e w2 ⟨v2, L, rfl, hL, hlay, hb2⟩
  have e2 := ex14_in hL
  subst e2
  obtain ⟨ia, ic, ib, io, IS, rfl, i1, i2, i3, i4, y1, y2, y3⟩ := hlay.open
  have e3 := i1 (by decide)
  subst e3
  have c0 := i2 0 (by decide)
  have c1 := i2 1 (by decide)
  have c2 := i2 2 (by decide)
  have g1 := i3 1 (by decide)
  have g2 := i3 2 (by decide)
  have hib := i4 (by decide)
  have HB2 := hid (bvia HB1.out hb2)
  rw [Nat.add_zero] at c0
  have HG1 := hid (show IntsAt w1.heap.size w2 (.slice (IS 1).a 1 (IS 1).c) [0] from g1)
  have HG2 := hid (show IntsAt w1.heap.size w2 (.slice (IS 2).a 1 (IS 2).c) [0] from g2)
  have d0 : w2.cell? ⟨ib, io, none⟩ = some (.slice (IS 0).a 0 (IS 0).c) := c0
  have d1 : w2.cell? ⟨ib, io + 1, none⟩ = some (.slice (IS 1).a 1 (IS 1).c) := c1
  have d2 : w2.cell? ⟨ib, io + 2, none⟩ = some (.slice (IS 2).a 1 (IS 2).c) := c2
  clear i1 i2 i3 i4 hL hlay hb2 g1 g2 c0 c1 c2
  go_wp2_with fail
  refine (ints14_one _ _ _ w2 HG1.out).mono ?_
  rintro e w3 ⟨rfl, hb3⟩
  have HB3 := hid (bvia HB2.out hb3)
  have f2 := (hb3.cell (p := ⟨ib, _, none⟩) hib).trans d2
  have HG3 := hid (HG2.out.below hb3)
  have hib3 : ib < w3.heap.size := Nat.lt_of_lt_of_le hib hb3.size
  clear hb3 d0 d1 d2 HG1 HG2
  go_wp2_with fail
  refine (ints14_one _ _ _ w3 HG3.out).mono ?_
  rintro e w4 ⟨rfl, hb4⟩
  have HB4 := hid (bvia HB3.out hb4)
  clear hb4 f2
  go_wp2_with fail
  refine (example14_calls w4).mono ?_
  rintro e w5 ⟨vf5, rfl, hp5, hb5⟩
  have HP5 := hid hp5
  have HB5 := hid (bvia HB4.out hb5)
  clear hp5 hb5
  go_wp2_with fail
  refine (dead_calls _ _ _ _ exP14 0 w5 HP5.out).mono ?_
  rintro e w6 ⟨v6, l6, rfl, hd6, hi6, hb6⟩
  have e6 := ex14_dead hd6
  subst e6
  have HI6 := hid hi6
  have HB6 := hid (bvia HB5.out hb6)
  clear hd6 hi6 hb6
  go_wp2_with fail
  refine (ints14_one _ _ _ w6 HI6.out).mono ?_
  rintro e w7 ⟨rfl, hb7⟩
  have HB7 := hid (bvia HB6.out hb7)
  clear hb7
  go_wp2_with fail
  go_ret
  exact ⟨rfl, HB7.out⟩

end Go.Proofs.Ytlgedpiabooloaa
