/-
  The document's example, in plain words.
-/
import Derived.Test.YteiohnfmlabelaaGreatZPrClean
import Derived.Test.YteiohnfmlabelaaGreatZPrWf
import Derived.Test.YteiohnfmlabelaaGreatZREqual
namespace Go.Proofs.YteiohnfmlabelaaGreat
set_option linter.unusedVariables false
set_option linter.unusedSimpArgs false
open Go.RowKit

def exC : List Ins := [⟨1, 0, 0, 0, 0⟩, ⟨16, 0, 0, 2, 0⟩, ⟨52, 1, 0, 0, 0⟩, ⟨30, -1, 0, 0, 0⟩]
def exD : List Ins := [⟨52, 1, 0, 0, 0⟩, ⟨30, -1, 0, 0, 0⟩]
def exP : Prg := ⟨[⟨⟨#[109, 97, 105, 110]⟩, 0, 2, exC⟩], [], [], 0⟩
def exQ : Prg := ⟨[⟨⟨#[109, 97, 105, 110]⟩, 0, 2, exD⟩], [], [], 0⟩
theorem ex_valid : validB exP = true := by decide +kernel
theorem ex_targ : targL exC = exC := by rfl
theorem exD_targ : targL exD = exD := by rfl
theorem ex_live : passL exP 0 4 [[1], [1], [1], []] = [[1], [1], [1], []] := by decide +kernel
theorem ex_iter : iterL exP 0 4 1 = [[1], [1], [1], []] := by decide +kernel
theorem exQ_live : passL exQ 0 2 [[1], []] = [[1], []] := by decide +kernel
theorem exQ_iter : iterL exQ 0 2 1 = [[1], []] := by decide +kernel
theorem reach_path {c : List Ins} {i : Nat} (hi : i < c.length) (h51 : (nth c i).op ≠ 51) (h : Path c (-1) i) : nth (reachL c) i = true := by
  rw [reachL_at _ _ hi, head_self _ _ h51, reachB_at _ _ _ hi]
  simpa using h
theorem ex_path : ∀ i, i < 4 → Path exC (-1) i := by
  have h0 : Path exC (-1) 0 := .start (by decide) (by decide)
  have h1 : Path exC (-1) 1 := .step 0 1 h0 (by decide +kernel) (by decide)
  have h2 : Path exC (-1) 2 := .step 1 2 h1 (by decide +kernel) (by decide)
  have h3 : Path exC (-1) 3 := .step 2 3 h2 (by decide +kernel) (by decide)
  intro i hi
  match i, hi with
  | 0, _ => exact h0
  | 1, _ => exact h1
  | 2, _ => exact h2
  | 3, _ => exact h3
theorem exD_path : ∀ i, i < 2 → Path exD (-1) i := by
  have h0 : Path exD (-1) 0 := .start (by decide) (by decide)
  have h1 : Path exD (-1) 1 := .step 0 1 h0 (by decide +kernel) (by decide)
  intro i hi
  match i, hi with
  | 0, _ => exact h0
  | 1, _ => exact h1
theorem ex_reach : ∀ i, i < 4 → nth (reachL exC) i = true := fun i hi => reach_path hi (by match i, hi with | 0, _ => decide | 1, _ => decide | 2, _ => decide | 3, _ => decide) (ex_path i hi)
theorem exD_reach : ∀ i, i < 2 → nth (reachL exD) i = true := fun i hi => reach_path hi (by match i, hi with | 0, _ => decide | 1, _ => decide) (exD_path i hi)
theorem ex_there : thereB exP (0 : Nat) = true := by unfold thereB; rw [ex_valid]; rfl
theorem exQ_valid : validB exQ = true := by decide +kernel
theorem exQ_there : thereB exQ (0 : Nat) = true := by unfold thereB; rw [exQ_valid]; rfl
theorem ex_dead : deadOf exP 0 = [0] := by
  refine deadOf_is (.inr ⟨ex_there, _, ⟨⟨1, ex_iter.symm⟩, ex_live⟩, ?_⟩)
  have h := ex_reach
  show _ = ((List.range 4).filter (deadB exP 0 [[1], [1], [1], []])).map fun i : Nat => (i : Int)
  have e : ∀ i, i < 4 → deadB exP 0 [[1], [1], [1], []] i = decide (i = 0) := by
    intro i hi
    unfold deadB
    rw [show nth (reachL (nth exP.funcs 0).code) i = true from h i hi]
    match i, hi with
    | 0, _ => decide +kernel
    | 1, _ => decide +kernel
    | 2, _ => decide +kernel
    | 3, _ => decide +kernel
  rw [List.filter_congr (q := fun i => decide (i = 0)) fun i hi => e i (by simpa using hi)]
  rfl
theorem exQ_dead : deadOf exQ 0 = [] := by
  refine deadOf_is (.inr ⟨exQ_there, _, ⟨⟨1, exQ_iter.symm⟩, exQ_live⟩, ?_⟩)
  have h := exD_reach
  show _ = ((List.range 2).filter (deadB exQ 0 [[1], []])).map fun i : Nat => (i : Int)
  have e : ∀ i, i < 2 → deadB exQ 0 [[1], []] i = false := by
    intro i hi
    unfold deadB
    rw [show nth (reachL (nth exQ.funcs 0).code) i = true from h i hi]
    match i, hi with
    | 0, _ => decide +kernel
    | 1, _ => decide +kernel
  rw [List.filter_congr (q := fun i => false) fun i hi => e i (by simpa using hi)]
  rfl
theorem ex_new : newC exP 0 = exD := by
  have ht : targP exP 0 = exP := by unfold targP; rw [show targL (nth exP.funcs 0).code = (nth exP.funcs 0).code from ex_targ, put_self _ _ (by decide)]
  unfold newC goneP
  rw [ht, ex_dead, show targL (nth exP.funcs 0).code = exC from ex_targ]
  have e : ∀ i, i < 4 → goneB [0] exC i = decide (i < 2) := by
    intro i hi
    unfold goneB
    rw [ex_reach i hi]
    match i, hi with
    | 0, _ => decide +kernel
    | 1, _ => decide +kernel
    | 2, _ => decide +kernel
    | 3, _ => decide +kernel
  unfold outC exC
  have h0 := e 0 (by decide)
  have h1 := e 1 (by decide)
  have h2 := e 2 (by decide)
  have h3 := e 3 (by decide)
  unfold exC at h0 h1 h2 h3
  simp only [filt, h0, h1, h2, h3, Nat.zero_add, Nat.reduceAdd]
  rfl
theorem exQ_new : newC exQ 0 = exD := by
  have ht : targP exQ 0 = exQ := by unfold targP; rw [show targL (nth exQ.funcs 0).code = (nth exQ.funcs 0).code from exD_targ, put_self _ _ (by decide)]
  unfold newC goneP
  rw [ht, exQ_dead, show targL (nth exQ.funcs 0).code = exD from exD_targ]
  have e : ∀ i, i < 2 → goneB [] exD i = false := by
    intro i hi
    unfold goneB
    rw [exD_reach i hi]
    match i, hi with
    | 0, _ => decide +kernel
    | 1, _ => decide +kernel
  unfold outC exD
  have h0 := e 0 (by decide)
  have h1 := e 1 (by decide)
  unfold exD at h0 h1
  simp only [filt, h0, h1, Nat.zero_add, Nat.reduceAdd]
  rfl
theorem ex_round : roundP exP 0 = exQ := by unfold roundP; rw [ex_new]; rfl
theorem ex_prn : Prn exP 0 exQ := .go _ _ _ (by decide) (by rw [ex_new]; intro h; have := congrArg List.length h; revert this; decide +kernel) (by rw [ex_round]; exact .next _ _ _ (by decide) exQ_new (.done _ _ (by decide)))
theorem exQ_prn : Prn exQ 0 exQ := .next _ _ _ (by decide) exQ_new (.done _ _ (by decide))
theorem ex_ne : ¬ exP = exQ := fun h => by
  have := congrArg (fun p : Prg => (nth p.funcs 0).code.length) h
  revert this
  decide +kernel

end Go.Proofs.YteiohnfmlabelaaGreat

/-
  Chapter 15's example and awake, walked.
-/
namespace Go.Proofs.YteiohnfmlabelaaGreat
set_option linter.unusedVariables false
set_option linter.unusedSimpArgs false
open Go.RowKit

set_option maxRecDepth 100000 in
set_option maxHeartbeats 8000000 in
theorem example15_calls (w : World) : Calls Tryz.prog 16 #[] w fun e w' => ∃ vf, e = .returned (.agg #[vf, .slice none 0 0, .slice none 0 0, .int .i64 exP.main]) ∧ ProgAt w.heap.size w' vf (.slice none 0 0) (.slice none 0 0) exP ∧ Below w.heap.size w w' := by
  go_enter Tryz.func16, Tryz.ntmps16
  go_wp2_with fail
  generalize hW : World.alloc _ _ = W
  have hcode : CodeAt w.heap.size W (.slice (some ⟨w.heap.size + 1, 0, none⟩) 4 4) exC := by
    rw [← hW]
    exact ((OwnE.lit insE _ w.heap.size 39 exC _ (w.heap.size + 1) 4 (by simp) (by omega) rfl rfl (by simp [exC])).alloc _).sl (Nat.le_refl _) (by simp [exC])
  have hfun : SlE funE w.heap.size W (.slice (some ⟨w.heap.size + 1 + 1, 0, none⟩) 1 1) [(⟨⟨#[109, 97, 105, 110]⟩, 0, 2, exC⟩, ⟨some ⟨w.heap.size + 1, 0, none⟩, 4, 4⟩)] := by
    rw [← hW]
    exact (OwnE.lit funE _ w.heap.size 33 [(⟨⟨#[109, 97, 105, 110]⟩, 0, 2, exC⟩, ⟨some ⟨w.heap.size + 1, 0, none⟩, 4, 4⟩)] _ (w.heap.size + 1 + 1) 1 (by simp) (by omega) rfl rfl (by simp)).sl (Nat.le_refl _) (by simp)
  have hbW : Below w.heap.size w W := by rw [← hW]; exact (((Below.refl _ _).alloc (Nat.le_refl _) _).alloc (by simp) _).alloc (by simp; omega) _
  have R1 : RowAt W w.heap.size [.slice (some ⟨w.heap.size + 1 + 1, 0, none⟩) 1 1, .slice none 0 0, .slice none 0 0, .int .i64 0] := by
    rw [← hW]
    exact (RowAt.new w _ _ w.heap.size _ rfl rfl).below ((((Below.refl _ _).alloc (by simp) _)).alloc (by simp) _)
  have a0 := R1.2 0 _ rfl
  have a1 := R1.2 1 _ rfl
  have a2 := R1.2 2 _ rfl
  have a3 := R1.2 3 _ rfl
  have s1 := R1.1
  clear hW
  refine bodyPost_ret (v := .agg #[.slice (some ⟨w.heap.size + 1 + 1, 0, none⟩) 1 1, .slice none 0 0, .slice none 0 0, .int .i64 0]) (by simp [results, Tryz.results16, go_sem, a0, a1, a2, a3, s1]) rfl ⟨_, rfl, ?_, hbW⟩
  exact ⟨⟨[⟨some ⟨w.heap.size + 1, 0, none⟩, 4, 4⟩], rfl, hfun, fun i hi => by
    have : i = 0 := by have := hi; simp [exP] at this; omega
    subst this
    exact hcode⟩, SlE.nil _ _ _, ⟨[], rfl, SlE.nil _ _ _, fun i hi => by simp [exP] at hi⟩⟩

theorem prune_ex (lo : Nat) (vf vg vl : Value) (w : World) (hp : ProgAt lo w vf vg vl exP) :
    Calls Tryz.prog 8 #[.agg #[vf, vg, vl, .int .i64 0]] w fun e w' => ∃ g cap ga gn gc la ln lc cb co cc, e = .returned (.agg #[.slice (some ⟨g, 0, none⟩) 1 cap, .slice ga gn gc, .slice la ln lc, .int .i64 0]) ∧ ProgAt 0 w' (.slice (some ⟨g, 0, none⟩) 1 cap) (.slice ga gn gc) (.slice la ln lc) exQ ∧ w'.cell? ⟨g, 3, none⟩ = some (.slice (some ⟨cb, co, none⟩) 2 cc) ∧ w'.cell? ⟨cb, co, none⟩ = some (.int .i64 52) ∧ g < w'.heap.size ∧ cb < w'.heap.size ∧ Below w.heap.size w w' := by
  refine (prune_yes lo vf vg vl exP w hp ex_valid).mono ?_
  rintro e w' ⟨g, cap, ug, ul, q, ss, rs, rfl, hpr, ho, hb⟩
  obtain rfl := hpr.unique ex_prn
  have hat := ho.at (by decide)
  obtain ⟨b1, b2, _, _, rfl, -⟩ := hat.globs.open
  obtain ⟨b3, b4, _, _, _, rfl, -⟩ := hat.lays.open
  obtain ⟨_, _, _, q3, _, qg, qc⟩ := ho.cellsC 0 (by decide) exD rfl
  obtain ⟨ca, cc, cb, co, he, p1, p2, _, _, _, _, p7, _⟩ := qc.open
  obtain ⟨e1, _, e3⟩ := Value.slice.inj he
  rw [e1, p1 (by decide)] at q3
  have h0 := p2 0 (by decide)
  rw [Nat.zero_mul, Nat.add_zero] at h0
  exact ⟨g, cap, _, _, _, _, _, _, cb, co, _, rfl, hat, q3, h0, qg, p7 (by decide), hb⟩

set_option maxRecDepth 100000 in
set_option maxHeartbeats 8000000 in
theorem awake15_calls (w : World) : Calls Tryz.prog 6 #[] w fun e w' => e = .returned (.bool true) ∧ Below w.heap.size w w' := by
  go_enter Tryz.func6, Tryz.ntmps6
  go_wp2_with fail
  refine (example15_calls w).mono ?_
  rintro e w1 ⟨vf, rfl, hp1, hb1⟩
  have HP1 := hid hp1
  have HB1 := hid hb1
  clear hp1 hb1
  rw [show exP.main = 0 from rfl]
  go_wp2_with fail
  refine (prune_ex _ _ _ _ w1 HP1.out).mono ?_
  rintro e w2 ⟨g, cap, ga, gn, gc, la, ln, lc, cb, co, cc, rfl, hat, c3, c0, sg, sc, hb2⟩
  have HAT := hid hat
  have HB2 := hid (bvia HB1.out hb2)
  clear hat hb2
  go_wp2_with fail
  have hbA : Below w2.heap.size w2 (w2.alloc (.cells #[.slice (some ⟨g, 0, none⟩) 1 cap, .slice ga gn gc, .slice la ln lc, .int .i64 0] 26)) := (Below.refl _ _).alloc (Nat.le_refl _) _
  refine (clean_yes 0 _ _ _ exQ _ (HAT.out.below hbA) exQ_valid).mono ?_
  rintro e w3 ⟨q, rfl, hpr, hb3⟩
  obtain rfl := hpr.unique exQ_prn
  rw [eqC_true rfl]
  have HB3 := hid (bvia (bvia HB2.out hbA) hb3)
  clear hpr hb3 hbA c3 c0 sg sc
  go_wp2_with fail
  refine (example15_calls w3).mono ?_
  rintro e w4 ⟨vf4, rfl, hp4, hb4⟩
  have HP4 := hid hp4
  have HB4 := hid (bvia HB3.out hb4)
  clear hp4 hb4
  rw [show exP.main = 0 from rfl]
  go_wp2_with fail
  refine (clean_yes _ _ _ _ exP w4 HP4.out ex_valid).mono ?_
  rintro e w5 ⟨q, rfl, hpr, hb5⟩
  obtain rfl := hpr.unique ex_prn
  rw [eqC_false ex_ne]
  have HB5 := hid (bvia HB4.out hb5)
  clear hpr hb5
  go_wp2_with fail
  go_ret
  exact ⟨rfl, HB5.out⟩

end Go.Proofs.YteiohnfmlabelaaGreat
