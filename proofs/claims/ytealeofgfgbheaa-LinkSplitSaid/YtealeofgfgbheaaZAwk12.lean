/-
  Chapter 12's example and awake, walked.
-/
import Derived.Test.YtealeofgfgbheaaZLkW
import Derived.Test.YtealeofgfgbheaaZLkF
import Derived.Test.YtealeofgfgbheaaZLkX
import Derived.Test.YtealeofgfgbheaaZPtR
import Derived.Test.YtealeofgfgbheaaZRegT
import Derived.Test.YtealeofgfgbheaaZREqual
namespace Go.Proofs.Ytealeofgfgbheaa
set_option linter.unusedVariables false
set_option linter.unusedSimpArgs false
open Go.RowKit

instance (k : Int) : Decidable (I64 k) := by unfold I64; infer_instance
def exM : Fun := ⟨⟨#[109, 97, 105, 110]⟩, 0, 0, [⟨26, -1, 1, 0, 0⟩, retI]⟩
def exG : Fun := ⟨⟨#[102]⟩, 0, 0, [retI]⟩
def exP12 : Prg := ⟨[exM, exG], [], [], 0⟩
theorem ex12_valid : validB exP12 = true := by decide +kernel
theorem ex12_wf : PrgWf exP12 := by
  have hr : InsWf retI := ⟨by decide, by decide, by decide, by decide, by decide⟩
  refine ⟨by decide, fun f hf => ?_, by decide, fun g hg => by simp [exP12] at hg, by decide, fun r hr => by simp [exP12] at hr, by decide⟩
  rcases List.mem_cons.1 hf with rfl | hf
  · refine ⟨by decide, by decide, by decide, by decide, fun x hx => ?_⟩
    rcases List.mem_cons.1 hx with rfl | hx
    · exact ⟨by decide, by decide, by decide, by decide, by decide⟩
    · rcases List.mem_cons.1 hx with rfl | hx
      · exact hr
      · simp at hx
  · rcases List.mem_cons.1 hf with rfl | hf
    · refine ⟨by decide, by decide, by decide, by decide, fun x hx => ?_⟩
      rcases List.mem_cons.1 hx with rfl | hx
      · exact hr
      · simp at hx
    · simp at hf
theorem ex12_split : splitL exP12 = [partP exP12 0, partP exP12 1] := by
  rw [split_pts ex12_valid (by decide)]; rfl

set_option maxRecDepth 100000 in
set_option maxHeartbeats 8000000 in
theorem example12_calls (w : World) : Calls Try.prog 24 #[] w fun e w' => ∃ vf, e = .returned (.agg #[vf, .slice none 0 0, .slice none 0 0, .int .i64 exP12.main]) ∧ ProgAt w.heap.size w' vf (.slice none 0 0) (.slice none 0 0) exP12 ∧ Below w.heap.size w w' := by
  go_enter Try.func24, Try.ntmps24
  go_wp2_with fail
  generalize hW : World.alloc _ _ = W
  have h1 : CodeAt w.heap.size W (.slice (some ⟨w.heap.size + 1 + 1, 0, none⟩) 2 2) exM.code := by
    rw [← hW]
    exact (((OwnE.lit insE _ w.heap.size 43 exM.code _ (w.heap.size + 1 + 1) 2 (by simp) (by omega) rfl rfl (by simp [exM])).alloc _).alloc _).sl (Nat.le_refl _) (by simp [exM])
  have h2 : CodeAt w.heap.size W (.slice (some ⟨w.heap.size + 1 + 1 + 1, 0, none⟩) 1 1) exG.code := by
    rw [← hW]
    exact ((OwnE.lit insE _ w.heap.size 43 exG.code _ (w.heap.size + 1 + 1 + 1) 1 (by simp) (by omega) rfl rfl (by simp [exG])).alloc _).sl (Nat.le_refl _) (by simp [exG])
  have hfun : SlE funE w.heap.size W (.slice (some ⟨w.heap.size + 1 + 1 + 1 + 1, 0, none⟩) 2 2) [(exM, ⟨some ⟨w.heap.size + 1 + 1, 0, none⟩, 2, 2⟩), (exG, ⟨some ⟨w.heap.size + 1 + 1 + 1, 0, none⟩, 1, 1⟩)] := by
    rw [← hW]
    exact (OwnE.lit funE _ w.heap.size 41 [(exM, ⟨some ⟨w.heap.size + 1 + 1, 0, none⟩, 2, 2⟩), (exG, ⟨some ⟨w.heap.size + 1 + 1 + 1, 0, none⟩, 1, 1⟩)] _ (w.heap.size + 1 + 1 + 1 + 1) 2 (by simp) (by omega) rfl rfl (by simp)).sl (Nat.le_refl _) (by simp)
  have hbW : Below w.heap.size w W := by rw [← hW]; exact (((((Below.refl _ _).alloc (Nat.le_refl _) _).alloc (by simp) _).alloc (by simp; omega) _).alloc (by simp; omega) _).alloc (by simp; omega) _
  have R1 : RowAt W w.heap.size [.slice (some ⟨w.heap.size + 1 + 1 + 1 + 1, 0, none⟩) 2 2, .slice none 0 0, .slice none 0 0, .int .i64 0] := by
    rw [← hW]
    exact (RowAt.new w _ _ w.heap.size _ rfl rfl).below ((((((Below.refl _ _).alloc (by simp) _).alloc (by simp) _)).alloc (by simp) _).alloc (by simp) _)
  have a0 := R1.2 0 _ rfl
  have a1 := R1.2 1 _ rfl
  have a2 := R1.2 2 _ rfl
  have a3 := R1.2 3 _ rfl
  have s1 := R1.1
  clear hW
  refine bodyPost_ret (v := .agg #[.slice (some ⟨w.heap.size + 1 + 1 + 1 + 1, 0, none⟩) 2 2, .slice none 0 0, .slice none 0 0, .int .i64 0]) (by simp [results, Try.results24, go_sem, a0, a1, a2, a3, s1]) rfl ⟨_, rfl, ?_, hbW⟩
  exact ⟨⟨[⟨some ⟨w.heap.size + 1 + 1, 0, none⟩, 2, 2⟩, ⟨some ⟨w.heap.size + 1 + 1 + 1, 0, none⟩, 1, 1⟩], rfl, hfun, fun i hi => by
    have hi' : i < 2 := hi
    have : i = 0 ∨ i = 1 := by omega
    rcases this with rfl | rfl
    · exact h1
    · exact h2⟩, SlE.nil _ _ _, ⟨[], rfl, SlE.nil _ _ _, fun i hi => by simp [exP12] at hi⟩⟩

theorem ex12_idx : Idx exP12 [1, 0] := ⟨ex12_valid, by decide, ex12_wf, by decide, by decide⟩
theorem ex12_idx0 : Idx exP12 [0] := ⟨ex12_valid, by decide, ex12_wf, by decide, by decide⟩
theorem ex12_idx2 : Idx exP12 [0, 1] := ⟨ex12_valid, by decide, ex12_wf, by decide, by decide⟩
theorem ex12_l0 : (partP exP12 0).funcs.length = 2 ∧ (partP exP12 0).main = 0 := by decide +kernel
theorem ex12_l1 : (partP exP12 1).funcs.length = 1 ∧ (partP exP12 1).main = -1 := by decide +kernel
theorem ex12_miss : missB (ptsL exP12 [1, 0]) = false := by
  cases hb : missB (ptsL exP12 [1, 0]) with
  | false => rfl
  | true =>
    rcases (miss_pts ex12_idx).1 hb with h | ⟨i, -, k, hk, -, hn⟩
    · exact absurd h (by decide)
    · have hk2 : k < 2 := hk
      have : k = 0 ∨ k = 1 := by omega
      rcases this with rfl | rfl <;> exact absurd hn (by decide)
theorem ex12_miss0 : missB (ptsL exP12 [0]) = true := (miss_pts ex12_idx0).2 (.inr ⟨0, by decide, 1, by decide, by decide +kernel, by decide⟩)
theorem ex12_main : mL (ptsL exP12 [1, 0]) = 1 := by rw [mL_pts ex12_idx]; rfl
def exR12 : Prg := linkL (ptsL exP12 [1, 0])
theorem exR12_funcs : exR12.funcs = [newF exP12 [1, 0] 1, newF exP12 [1, 0] 0] := rL_pts ex12_idx
theorem exR12_f0 : (newF exP12 [1, 0] 1).name = ⟨#[102]⟩ := rfl
theorem exR12_c1 : (newF exP12 [1, 0] 0).code.length = 2 ∧ (nth (newF exP12 [1, 0] 0).code 0).b = 0 := by decide +kernel

/-- A list of programs, opened: where its entries lie. -/
theorem ProgsQ.entry {base : Nat} {w : World} {g n cap : Nat} {L : List Prg} {T : List PV} (h : ProgsQ base w (.slice (some ⟨g, 0, none⟩) n cap) L T) (hw : ∀ P ∈ L, PrgWf P) (j : Nat) (hj : j < L.length) :
    ∃ fa fc ga gc la lc, w.cell? ⟨g, j * 4 + 0, none⟩ = some (.slice fa (nth L j).funcs.length fc) ∧ w.cell? ⟨g, j * 4 + 1, none⟩ = some (.slice ga (nth L j).globals.length gc) ∧ w.cell? ⟨g, j * 4 + 2, none⟩ = some (.slice la (nth L j).layouts.length lc) ∧ w.cell? ⟨g, j * 4 + 3, none⟩ = some (.int .i64 (nth L j).main) ∧
      nth T j = (⟨fa, (nth L j).funcs.length, fc⟩, ⟨ga, (nth L j).globals.length, gc⟩, ⟨la, (nth L j).layouts.length, lc⟩, (nth L j).main) ∧ ProgAt base w (.slice fa (nth L j).funcs.length fc) (.slice ga (nth L j).globals.length gc) (.slice la (nth L j).layouts.length lc) (nth L j) := by
  have hT : j < T.length := by rw [h.len]; exact hj
  have y0 := h.row.cellAt j 0 hT (by decide)
  have y1 := h.row.cellAt j 1 hT (by decide)
  have y2 := h.row.cellAt j 2 hT (by decide)
  have y3 := h.row.cellAt j 3 hT (by decide)
  have hm := h.main j hj
  have hp := (h.each j hj).at (Nat.le_refl base) (hw _ (nth_mem L j hj))
  obtain ⟨t, ht⟩ : ∃ t, nth T j = t := ⟨_, rfl⟩
  obtain ⟨⟨fa, fn, fc⟩, ⟨ga, gn, gc⟩, ⟨la, ln, lc⟩, m⟩ := t
  rw [ht] at y0 y1 y2 y3 hm hp
  obtain ⟨_, _, _, _, _, e1, -⟩ := hp.funcs.open
  obtain ⟨_, _, _, _, e2, -⟩ := hp.globs.open
  obtain ⟨_, _, _, _, _, e3, -⟩ := hp.lays.open
  obtain ⟨-, n1, -⟩ := Value.slice.inj e1
  obtain ⟨-, n2, -⟩ := Value.slice.inj e2
  obtain ⟨-, n3, -⟩ := Value.slice.inj e3
  dsimp only at n1 n2 n3 hm
  subst n1 n2 n3 hm
  exact ⟨fa, fc, ga, gc, la, lc, y0, y1, y2, y3, ht, hp⟩

theorem ProgAt.monoL {lo lo' : Nat} {w : World} {vf vg vl : Value} {p : Prg} (h : ProgAt lo w vf vg vl p) (hl : lo' ≤ lo) : ProgAt lo' w vf vg vl p := ⟨h.funcs.mono hl, h.globs.mono hl, h.lays.mono hl⟩
def isRes (n : Int) (v : Value) : Prop := ∃ (xa : Option Addr) (xn xc : Nat) (ya : Option Addr) (yn yc : Nat) (za : Option Addr) (zn zc : Nat) (m : Int), v = .tuple #[.agg #[.slice xa xn xc, .slice ya yn yc, .slice za zn zc, .int .i64 m], .int .i64 n]
theorem isRes_ne (n : Int) : ∃ v, isRes n v := ⟨_, none, 0, 0, none, 0, 0, none, 0, 0, 0, rfl⟩
theorem isRes_of {lo : Nat} {w : World} {uf ug ul : Value} {p : Prg} (h : ProgAt lo w uf ug ul p) (m n : Int) : isRes n (.tuple #[.agg #[uf, ug, ul, .int .i64 m], .int .i64 n]) := by
  obtain ⟨_, _, _, _, _, rfl, -⟩ := h.funcs.open
  obtain ⟨_, _, _, _, rfl, -⟩ := h.globs.open
  obtain ⟨_, _, _, _, _, rfl, -⟩ := h.lays.open
  exact ⟨_, _, _, _, _, _, _, _, _, _, rfl⟩
noncomputable def planAw4 : RegS.Plan := RegS.mkPlan (regionOf Try.f9 4) [(6, .new), (7, .new), (11, .new), (12, .st 11)] [(11, 12)] [(12, [11, 9])]

set_option maxRecDepth 100000 in
set_option maxHeartbeats 8000000 in
theorem awake12_calls (w : World) : Calls Try.prog 9 #[] w fun e w' => e = .returned (.bool true) ∧ Below w.heap.size w w' := by
  go_enter Try.func9, Try.ntmps9
  go_wp2_with fail
  refine (example12_calls w).mono ?_
  rintro e w1 ⟨vf, rfl, hp1, hb1⟩
  obtain ⟨_, _, _, _, _, rfl, -⟩ := hp1.funcs.open
  have HP1 := hid hp1
  have HB1 := hid hb1
  clear hp1 hb1
  go_wp2_with fail
  refine (split_calls w.heap.size _ (.slice none 0 0) (.slice none 0 0) exP12 w1 HP1.out ex12_wf).mono ?_
  rintro e w2 ⟨v, T, rfl, hq, hb2⟩
  rw [ex12_split] at hq
  obtain ⟨g, cap, rfl, hg1, hg2⟩ := hq.row.open (by rw [hq.len]; decide)
  have hTl : T.length = 2 := hq.len
  rw [hTl] at hq ⊢
  have hwf : ∀ P ∈ [partP exP12 0, partP exP12 1], PrgWf P := fun P hP => (pts_ok ex12_idx2).wf P hP
  obtain ⟨a0, c0, a1, c1, a2, c2, x0, x1, x2, x3, ht0, hp0⟩ := hq.entry hwf 0 (by decide)
  obtain ⟨b0, d0, b1, d1, b2, d2, y0, y1, y2, y3, ht1, hp1⟩ := hq.entry hwf 1 (by decide)
  rw [show nth [partP exP12 0, partP exP12 1] 0 = partP exP12 0 from rfl] at x0 x1 x2 x3 ht0 hp0
  rw [show nth [partP exP12 0, partP exP12 1] 1 = partP exP12 1 from rfl] at y0 y1 y2 y3 ht1 hp1
  have HWF := hid hwf
  have HQ := hid hq
  have HP0 := hid hp0
  have HP1 := hid hp1
  have HT0 := hid ht0
  have HT1 := hid ht1
  have HB2 := hid (bvia HB1.out hb2)
  have x0' : w2.cell? ⟨g, 0, none⟩ = some (.slice a0 2 c0) := x0
  have x1' : w2.cell? ⟨g, 1, none⟩ = some (.slice a1 0 c1) := x1
  have x2' : w2.cell? ⟨g, 2, none⟩ = some (.slice a2 0 c2) := x2
  have x3' : w2.cell? ⟨g, 3, none⟩ = some (.int .i64 0) := x3
  have y0' : w2.cell? ⟨g, 4, none⟩ = some (.slice b0 1 d0) := y0
  have y1' : w2.cell? ⟨g, 5, none⟩ = some (.slice b1 0 d1) := y1
  have y2' : w2.cell? ⟨g, 6, none⟩ = some (.slice b2 0 d2) := y2
  have y3' : w2.cell? ⟨g, 7, none⟩ = some (.int .i64 (-1)) := y3
  have HXY := hid (show ∀ X, Below w2.heap.size w2 X → X.cell? ⟨g, 0, none⟩ = some (.slice a0 2 c0) ∧ X.cell? ⟨g, 1, none⟩ = some (.slice a1 0 c1) ∧ X.cell? ⟨g, 2, none⟩ = some (.slice a2 0 c2) ∧ X.cell? ⟨g, 3, none⟩ = some (.int .i64 0) ∧ X.cell? ⟨g, 4, none⟩ = some (.slice b0 1 d0) ∧ X.cell? ⟨g, 5, none⟩ = some (.slice b1 0 d1) ∧ X.cell? ⟨g, 6, none⟩ = some (.slice b2 0 d2) ∧ X.cell? ⟨g, 7, none⟩ = some (.int .i64 (-1)) ∧ g < X.heap.size from fun X hX => ⟨(hX.cell (p := ⟨g, _, none⟩) hg2).trans x0', (hX.cell (p := ⟨g, _, none⟩) hg2).trans x1', (hX.cell (p := ⟨g, _, none⟩) hg2).trans x2', (hX.cell (p := ⟨g, _, none⟩) hg2).trans x3', (hX.cell (p := ⟨g, _, none⟩) hg2).trans y0', (hX.cell (p := ⟨g, _, none⟩) hg2).trans y1', (hX.cell (p := ⟨g, _, none⟩) hg2).trans y2', (hX.cell (p := ⟨g, _, none⟩) hg2).trans y3', Nat.lt_of_lt_of_le hg2 hX.size⟩)
  clear x0 x1 x2 x3 y0 y1 y2 y3 hp0 hp1 ht0 ht1 hwf hq hb2
  go_wp2_with fail
  refine (lpart_calls w1.heap.size (.slice a0 2 c0) (.slice a1 0 c1) (.slice a2 0 c2) (partP exP12 0) w2 HP0.out (HWF.out _ (by simp))).mono ?_
  rintro e w3 ⟨rfl, hb3⟩
  rw [part_valid ex12_valid (by decide) (by decide)]
  have HB3 := hid hb3
  clear x0' x1' x2' x3' y0' y1' y2' y3' hb3
  obtain ⟨x0, x1, x2, x3, y0, y1, y2, y3, gz⟩ := HXY.out w3 HB3.out
  go_wp2_with fail
  refine (lpart_calls w1.heap.size (.slice b0 1 d0) (.slice b1 0 d1) (.slice b2 0 d2) (partP exP12 1) w3 (HP1.out.below HB3.out) (HWF.out _ (by simp))).mono ?_
  rintro e w4 ⟨rfl, hb4⟩
  rw [part_valid ex12_valid (by decide) (by decide)]
  have HB4 := hid (HB3.out.trans (hb4.mono HB3.out.size))
  clear x0 x1 x2 x3 y0 y1 y2 y3 gz hb4
  obtain ⟨x0, x1, x2, x3, y0, y1, y2, y3, gz⟩ := HXY.out w4 HB4.out
  go_wp2_with fail
  refine RegS.Plan.wp_facts (B := w4.heap.size) planAw4 [(6, ownF prgE w4.heap.size 26 [nth T 1, nth T 0]), (7, shapeF w4.heap.size (isRes 0) (isRes_ne 0) (fun lo w1 v => ∃ uf ug ul, v = .tuple #[.agg #[uf, ug, ul, .int .i64 1], .int .i64 0] ∧ ProgAt lo w1 uf ug ul exR12)), (11, varF w4.heap.size 26 [.slice none 0 0, .slice none 0 0, .slice none 0 0, .int .i64 0]), (12, layF 26)] (by kernel_rfl) rfl (by kernel_rfl) (by kernel_rfl) (Nat.le_refl _) ?_
  repeat (first | (apply RegS.Plan.runs_skip rfl rfl; simp only [Act.put, List.setIfInBounds_toArray, List.set_cons_zero, List.set_cons_succ]) | (apply RegS.Plan.runs_det rfl rfl; (· intro F w' hb hf; obtain ⟨hcl, hfz⟩ := bcell hb; go_simp; rfl); simp only [Act.put, List.setIfInBounds_toArray, List.set_cons_zero, List.set_cons_succ]))
  refine RegS.Plan.runs_lit prgE w4.heap.size 26 [nth T 1, nth T 0] #[.slice b0 1 d0, .slice b1 0 d1, .slice b2 0 d2, .int .i64 (-1), .slice a0 2 c0, .slice a1 0 c1, .slice a2 0 c2, .int .i64 0] 2 rfl rfl _ rfl rfl (fun w' => by go_simp) rfl rfl (by rw [HT0.out, HT1.out]; rfl) (by simp) (Nat.le_refl _) (fun v55 => ?_)
  simp only [Act.put, List.setIfInBounds_toArray, List.set_cons_zero, List.set_cons_succ]
  refine RegS.Plan.runs_shape 15 #[v55] (isRes 0) (isRes_ne 0) _ rfl rfl _ rfl rfl (fun F w' hb hf => by go_simp) rfl (Nat.le_refl _) (fun F w' hb hf => ?_) (fun v56 hv56 => ?_)
  · have hown := RegS.Plan.facts_own hf 6 rfl (by kernel_rfl) rfl (.inl rfl)
    have hbb := HB4.out.trans (hb.mono HB4.out.size)
    have hpa : ProgsAt 0 w' v55 (ptsL exP12 [1, 0]) [nth T 1, nth T 0] := by
      refine ⟨rfl, hown.sl (Nat.zero_le _) (by simp), fun j hj => ?_, fun j hj => ?_⟩
      · have hj' : j < 2 := hj
        have : j = 0 ∨ j = 1 := by omega
        rcases this with rfl | rfl
        · show (nth T 1).2.2.2 = _; rw [HT1.out]; rfl
        · show (nth T 0).2.2.2 = _; rw [HT0.out]; rfl
      · have hj' : j < 2 := hj
        have : j = 0 ∨ j = 1 := by omega
        rcases this with rfl | rfl
        · show ProgAt 0 w' (nth T 1).1.val (nth T 1).2.1.val (nth T 1).2.2.1.val (partP exP12 1)
          rw [HT1.out]
          exact (HP1.out.below hbb).monoL (Nat.zero_le _)
        · show ProgAt 0 w' (nth T 0).1.val (nth T 0).2.1.val (nth T 0).2.2.1.val (partP exP12 0)
          rw [HT0.out]
          exact (HP0.out.below hbb).monoL (Nat.zero_le _)
    refine (link_calls 0 w' v55 (ptsL exP12 [1, 0]) _ hpa (pts_ok ex12_idx)).mono ?_
    rintro e w'' ⟨hr, hbl⟩
    rcases hr with ⟨hm, -⟩ | ⟨-, uf, ug, ul, rfl, hR⟩
    · rw [ex12_miss] at hm; cases hm
    · rw [ex12_main]
      exact ⟨_, rfl, isRes_of hR 1 0, ⟨uf, ug, ul, rfl, hR⟩, hbl⟩
  obtain ⟨xa, xn, xc, ya, yn, yc, za, zn, zc, rm, rfl⟩ := hv56
  simp only [Act.put, List.setIfInBounds_toArray, List.set_cons_zero, List.set_cons_succ]
  repeat (first | (apply RegS.Plan.runs_skip rfl rfl; simp only [Act.put, List.setIfInBounds_toArray, List.set_cons_zero, List.set_cons_succ]) | (apply RegS.Plan.runs_det rfl rfl; (· intro F w' hb hf; obtain ⟨hcl, hfz⟩ := bcell hb; go_simp; rfl); simp only [Act.put, List.setIfInBounds_toArray, List.set_cons_zero, List.set_cons_succ]))
  refine RegS.Plan.runs_alloc 26 [.slice none 0 0, .slice none 0 0, .slice none 0 0, .int .i64 0] rfl rfl _ rfl rfl (fun w' => by go_simp) rfl (Nat.le_refl _) (fun bP => ?_)
  simp only [Act.put, List.setIfInBounds_toArray, List.set_cons_zero, List.set_cons_succ]
  refine RegS.Plan.runs_put4 26 bP (.slice xa xn xc) (.slice ya yn yc) (.slice za zn zc) (.int .i64 rm) _ _ _ _ rfl rfl rfl rfl rfl rfl rfl (by kernel_rfl) rfl rfl (fun w' hx => ?_) ?_
  · have q0 := hx.cell 0 _ rfl
    have q1 := hx.cell 1 _ rfl
    have q2 := hx.cell 2 _ rfl
    have q3 := hx.cell 3 _ rfl
    have qz := hx.lt
    have f0 := hx.frozen 0
    have f1 := hx.frozen 1
    have f2 := hx.frozen 2
    have f3 := hx.frozen 3
    go_simp
  repeat (first | (apply RegS.Plan.runs_skip rfl rfl; simp only [Act.put, List.setIfInBounds_toArray, List.set_cons_zero, List.set_cons_succ]) | (apply RegS.Plan.runs_det rfl rfl; (· intro F w' hb hf; obtain ⟨hcl, hfz⟩ := bcell hb; go_simp; rfl); simp only [Act.put, List.setIfInBounds_toArray, List.set_cons_zero, List.set_cons_succ]))
  refine RegS.Plan.runs_nil (fun F w5 hb hf => ?_)
  have h7 := RegS.Plan.rest_fact hf 7 rfl (by kernel_rfl) rfl rfl
  have h12 := RegS.Plan.rest_fact hf 12 rfl (by kernel_rfl) rfl rfl
  obtain ⟨lo7, w7, hB7, -, hK7, uf, ug, ul, hv7, hR7⟩ := h7
  obtain ⟨bQ, px, py, pz, pm, hv12, hx12, -⟩ := h12
  have hv7' : Value.tuple #[.agg #[.slice xa xn xc, .slice ya yn yc, .slice za zn zc, .int .i64 rm], .int .i64 0] = Value.tuple #[.agg #[uf, ug, ul, .int .i64 1], .int .i64 0] := hv7
  have hv12' : Value.tuple #[.pointer (some ⟨bP, 0, none⟩), .agg #[.slice xa xn xc, .slice ya yn yc, .slice za zn zc, .int .i64 rm]] = Value.tuple #[.pointer (some ⟨bQ, 0, none⟩), .agg #[px, py, pz, pm]] := hv12
  simp at hv7' hv12'
  obtain ⟨rfl, rfl, rfl, rfl⟩ := hv7'
  obtain ⟨rfl, rfl, rfl, rfl, rfl⟩ := hv12'
  have hR := hR7.keep hK7
  have HR := hid hR
  have HX := hid hx12
  have HB5 := hid hb
  have hcap : 2 ≤ cap := by
    obtain ⟨a, c, b, o, he, _, _, _, h2, _⟩ := HQ.out.row.sl (Nat.le_refl _) (by rw [HQ.out.len]; decide)
    obtain ⟨-, -, rfl⟩ := Value.slice.inj he
    rw [HQ.out.len] at h2
    exact h2
  have HBW5 := hid (HB4.out.trans (hb.mono HB4.out.size))
  clear hf hR7 hK7 hR hx12 hv7 hv12 hb x0 x1 x2 x3 y0 y1 y2 y3 gz
  go_wp2_with fail
  have hpa0 : ProgsAt 0 w5 (.slice (some ⟨g, 0, none⟩) 1 cap) (ptsL exP12 [0]) [nth T 0] := by
    have hrow : SlE prgE 0 w5 (.slice (some ⟨g, 0, none⟩) T.length cap) T := by rw [hTl]; exact (HQ.out.row.sl (Nat.zero_le _) (by rw [HQ.out.len]; decide)).below HBW5.out
    have ht := hrow.take 1 (by omega)
    have e : T.take 1 = [nth T 0] := by
      match T, hTl with
      | [t0, t1], _ => rfl
    rw [e] at ht
    refine ⟨rfl, ht, fun j hj => ?_, fun j hj => ?_⟩
    · have hj' : j < 1 := hj
      obtain rfl : j = 0 := by omega
      show (nth T 0).2.2.2 = _; rw [HT0.out]; rfl
    · have hj' : j < 1 := hj
      obtain rfl : j = 0 := by omega
      show ProgAt 0 w5 (nth T 0).1.val (nth T 0).2.1.val (nth T 0).2.2.1.val (partP exP12 0)
      rw [HT0.out]
      exact (HP0.out.below HBW5.out).monoL (Nat.zero_le _)
  refine (link_calls 0 w5 _ (ptsL exP12 [0]) _ hpa0 (pts_ok ex12_idx0)).mono ?_
  rintro e w6 ⟨hr, hb6⟩
  rcases hr with ⟨-, rfl⟩ | ⟨hm, -⟩
  case inr => rw [ex12_miss0] at hm; cases hm
  have HX6 := hid (HX.out.below hb6)
  have hp6 := HR.out.below hb6
  have HB6 := hid (HBW5.out.trans (hb6.mono HBW5.out.size))
  obtain ⟨fa, fc, fb, fo, FS, hfe, fp, f0, f1, f2, f3, fcode, fbl, -, -, -⟩ := hp6.funcs.open
  have hfl : exR12.funcs.length = 2 := by rw [exR12_funcs]; rfl
  rw [hfl] at hfe fp f0 f3 fcode fbl
  obtain ⟨rfl, rfl, rfl⟩ := Value.slice.inj hfe
  obtain rfl := fp (by omega)
  have n0 := f0 0 (by omega)
  have n3 := f3 1 (by omega)
  have hc1 := fcode 1 (by omega)
  have hgl := fbl (by omega)
  rw [exR12_funcs] at n0 n3 hc1
  have n0' : w6.cell? ⟨fb, fo, none⟩ = some (.string ⟨#[102]⟩) := n0
  have hl2 : (nth [newF exP12 [1, 0] 1, newF exP12 [1, 0] 0] 1).code.length = 2 := exR12_c1.1
  rw [hl2] at n3 hc1
  have hcl2 : (nth [newF exP12 [1, 0] 1, newF exP12 [1, 0] 0] 1).code = (newF exP12 [1, 0] 0).code := rfl
  have hcl3 : (newF exP12 [1, 0] 0).code.length = 2 := exR12_c1.1
  rw [hcl2] at hc1
  obtain ⟨ca, cc, cb, co, hce, cp, _, _, cB2, _, _, cbl, _⟩ := hc1.open
  rw [hcl3] at hce cp cB2 cbl
  obtain ⟨he1, -, he2⟩ := Value.slice.inj hce
  rw [he1, he2] at n3
  have hcp := cp (by omega)
  rw [hcp] at n3
  have nc := cB2 0 (by omega)
  rw [exR12_c1.2] at nc
  have nc' : w6.cell? ⟨cb, co + 2, none⟩ = some (.int .i64 0) := nc
  have ncl := cbl (by omega)
  have q0 := HX6.out.cell 0 _ rfl
  have q3 := HX6.out.cell 3 _ rfl
  have qz := HX6.out.lt
  clear n0 nc hp6 hce cp cB2 cbl fcode f0 f1 f2 f3 fbl fp hc1 hcl2 hcl3 he1 he2 hcp hb6 hfl hl2 hfe
  go_wp2_with fail
  go_ret
  exact ⟨rfl, (bvia HB2.out HB6.out).alloc (Nat.le_trans HB2.out.size HB6.out.size) _⟩

end Go.Proofs.Ytealeofgfgbheaa
