/-
  The laws LiveIn and LiveDead, walked.
-/
import Derived.Test.YtlgedpiabooloaaZAwk14
namespace Go.Proofs.Ytlgedpiabooloaa
set_option linter.unusedVariables false
set_option linter.unusedSimpArgs false
open Go.RowKit

def InD (p : Prg) (fn : Int) (lo : Nat) (w : World) (v : Value) : Prop := ∃ L, InIs p fn L ∧ LaysAt lo w v L
def DeadD (p : Prg) (fn : Int) (lo : Nat) (w : World) (v : Value) : Prop := ∃ l, DeadIs p fn l ∧ IntsAt lo w v l
noncomputable def planLI3 : Plan := mkPlan (regionOf Try.f3 3) [(2, .new), (5, .new)] []
noncomputable def planLI9 : Plan := mkPlan (regionOf Try.f3 9) [(8, .new)] []
noncomputable def planLD1 : Plan := mkPlan (regionOf Try.f4 1) [(0, .new), (4, .new), (7, .new), (8, .new)] []

set_option maxRecDepth 100000 in
set_option maxHeartbeats 8000000 in
theorem llivein_calls (lo : Nat) (vf vg vl : Value) (p : Prg) (fn : Int) (w : World) (hp : ProgAt lo w vf vg vl p) :
    Calls Try.prog 3 #[.agg #[vf, vg, vl, .int .i64 p.main], .int .i64 fn] w fun e w' => e = .returned (.bool true) ∧ Below w.heap.size w w' := by
  have HP := hid hp
  clear hp
  go_enter Try.func3, Try.ntmps3
  go_wp2_with fail
  generalize hW : World.alloc _ _ = W
  have hbW : Below w.heap.size w W := by rw [← hW]; exact (Below.refl _ _).alloc (Nat.le_refl _) _
  have R1 := hid (show BoxAt W w.heap.size 26 [vf, vg, vl, .int .i64 p.main] by rw [← hW]; exact BoxAt.new _ _ _ _ _ rfl rfl)
  have HBW := hid hbW
  clear hW hbW
  refine (awake14_calls W).mono ?_
  rintro e w1 ⟨rfl, hb1⟩
  have hr := R1.out.below hb1
  have c0 := hr.cell 0 _ rfl
  have c1 := hr.cell 1 _ rfl
  have c2 := hr.cell 2 _ rfl
  have c3 := hr.cell 3 _ rfl
  have s1 := hr.lt
  have HB1 := hid (bvia HBW.out hb1)
  have HP1 := hid (HP.out.below HB1.out)
  clear hb1 hr
  go_wp2_with fail
  refine Plan.wp_facts (B := w1.heap.size) planLI3 [(2, callF w1.heap.size (InD p fn)), (5, callF w1.heap.size (InD p fn))] (by kernel_rfl) rfl (by kernel_rfl) (by kernel_rfl) (Nat.le_refl _) ?_
  repeat (first | (apply Plan.runs_skip rfl rfl; simp only [Act.put, List.setIfInBounds_toArray, List.set_cons_zero, List.set_cons_succ]) | (apply Plan.runs_det rfl rfl; (· intro F w' hb hf; obtain ⟨hcl, hfz⟩ := bcell hb; go_simp; rfl); simp only [Act.put, List.setIfInBounds_toArray, List.set_cons_zero, List.set_cons_succ]))
  refine Plan.runs_call 10 #[.agg #[vf, vg, vl, .int .i64 p.main], .int .i64 fn] (InD p fn) rfl rfl _ rfl rfl (fun F w' hb hf => by obtain ⟨hcl, hfz⟩ := bcell hb; go_simp) rfl (Nat.le_refl _) (fun F w' hb hf => ?_) (fun va => ?_)
  · refine (in_calls lo _ _ _ p fn w' (HP1.out.below hb)).mono ?_
    rintro e w'' ⟨v', L, rfl, h1, h2, hb'⟩
    exact ⟨v', rfl, ⟨L, h1, h2⟩, hb'⟩
  simp only [Act.put, List.setIfInBounds_toArray, List.set_cons_zero, List.set_cons_succ]
  repeat (first | (apply Plan.runs_skip rfl rfl; simp only [Act.put, List.setIfInBounds_toArray, List.set_cons_zero, List.set_cons_succ]) | (apply Plan.runs_det rfl rfl; (· intro F w' hb hf; obtain ⟨hcl, hfz⟩ := bcell hb; go_simp; rfl); simp only [Act.put, List.setIfInBounds_toArray, List.set_cons_zero, List.set_cons_succ]))
  refine Plan.runs_call 11 #[.agg #[vf, vg, vl, .int .i64 p.main], .int .i64 fn] (InD p fn) rfl rfl _ rfl rfl (fun F w' hb hf => by obtain ⟨hcl, hfz⟩ := bcell hb; go_simp) rfl (Nat.le_refl _) (fun F w' hb hf => ?_) (fun vb => ?_)
  · refine (rin_calls lo _ _ _ p fn w' (HP1.out.below hb)).mono ?_
    rintro e w'' ⟨v', L, rfl, h1, h2, hb'⟩
    exact ⟨v', rfl, ⟨L, h1, h2⟩, hb'⟩
  simp only [Act.put, List.setIfInBounds_toArray, List.set_cons_zero, List.set_cons_succ]
  repeat (first | (apply Plan.runs_skip rfl rfl; simp only [Act.put, List.setIfInBounds_toArray, List.set_cons_zero, List.set_cons_succ]) | (apply Plan.runs_det rfl rfl; (· intro F w' hb hf; obtain ⟨hcl, hfz⟩ := bcell hb; go_simp; rfl); simp only [Act.put, List.setIfInBounds_toArray, List.set_cons_zero, List.set_cons_succ]))
  refine Plan.runs_nil (fun F wn hb2 hf => ?_)
  have HBN := hid (bvia HB1.out hb2)
  obtain ⟨lo1, wa, _, ka, da⟩ : ∃ lo w2, w1.heap.size ≤ lo ∧ Keep lo w2 wn ∧ InD p fn lo w2 va := Plan.rest_call (D := InD p fn) hf 2 rfl (by decide +kernel) rfl rfl
  obtain ⟨lo2, wb, _, kb, db⟩ : ∃ lo w2, w1.heap.size ≤ lo ∧ Keep lo w2 wn ∧ InD p fn lo w2 vb := Plan.rest_call (D := InD p fn) hf 5 rfl (by decide +kernel) rfl rfl
  obtain ⟨L, hL, ha⟩ := da
  obtain ⟨L', hL', hb⟩ := db
  have e9 := hL'.unique hL
  subst e9
  have ha2 := ha.keep ka
  have hb2' := hb.keep kb
  clear hf hb2 c0 c1 c2 c3 s1 ha hb ka kb hL hL'
  obtain ⟨ia, ic, ib, io, IS, rfl, i1, i2, i3, i4, x1, y1, z1⟩ := ha2.open
  obtain ⟨ja, jc, jb, jo, JS, rfl, j1, j2, j3, j4, x2, y2, z2⟩ := hb2'.open
  have HI := hid (And.intro i1 (And.intro i2 (And.intro i3 i4)))
  have HJ := hid (And.intro j1 (And.intro j2 (And.intro j3 j4)))
  clear i1 i2 i3 i4 j1 j2 j3 j4 ha2 hb2'
  go_wp2_with fail
  go_loopw [7] (fun i wr => ∃ k : Nat, k ≤ L'.length ∧ i = .int .i64 k ∧ Below wn.heap.size wn wr) (fun i _ => L'.length - (intOf i).toNat)
  case atStart => exact ⟨0, Nat.zero_le _, rfl, Below.refl _ _⟩
  case round =>
    obtain ⟨k, hk, rfl, hbl⟩ := hrel
    obtain ⟨wo, hwo⟩ : ∃ wo, wo = wr := ⟨_, rfl⟩
    subst hwo
    have HBL := hid hbl
    by_cases hlt : k < L'.length
    · obtain ⟨i1, i2, i3, i4⟩ := HI.out
      obtain ⟨j1, j2, j3, j4⟩ := HJ.out
      have e1 := i1 (by omega)
      have e2 := j1 (by omega)
      subst e1 e2
      have d1 := (hbl.cell (p := ⟨ib, _, none⟩) (i4 (by omega))).trans (i2 k hlt)
      have d2 := (hbl.cell (p := ⟨jb, _, none⟩) (j4 (by omega))).trans (j2 k hlt)
      have hi1 := (i3 k hlt).below hbl
      have hi2 := (j3 k hlt).below hbl
      have s1 := hbl.size
      have s2 := i4 (by omega)
      have s3 := j4 (by omega)
      have s4 : ib < wo.heap.size := by omega
      have s5 : jb < wo.heap.size := by omega
      have hlt2 : (k : Int) < L'.length := by omega
      clear i1 i2 i3 i4 j1 j2 j3 j4 s1 s2 s3 hbl
      go_wp2_with fail
      refine Plan.wp_facts (B := wo.heap.size) planLI9 [(8, valF (.bool true))] (by kernel_rfl) rfl (by kernel_rfl) (by kernel_rfl) (Nat.le_refl _) ?_
      repeat (first | (apply Plan.runs_skip rfl rfl; simp only [Act.put, List.setIfInBounds_toArray, List.set_cons_zero, List.set_cons_succ]) | (apply Plan.runs_det rfl rfl; (· intro F w' hb hf; obtain ⟨hcl, hfz⟩ := bcell hb; go_simp; rfl); simp only [Act.put, List.setIfInBounds_toArray, List.set_cons_zero, List.set_cons_succ]))
      refine Plan.runs_call_val (.bool true) 12 #[.slice (IS k).a (nth L' k).length (IS k).c, .slice (JS k).a (nth L' k).length (JS k).c] rfl rfl _ rfl rfl (fun F w' hb hf => by go_simp) rfl (fun F w' hb hf => ?_) ?_
      · refine (ints_calls _ _ _ _ _ _ w' (hi1.below hb) (hi2.below hb)).mono ?_
        rintro e w'' ⟨rfl, hb'⟩
        exact ⟨by simp [intsEq], hb'⟩
      simp only [Act.put, List.setIfInBounds_toArray, List.set_cons_zero, List.set_cons_succ]
      repeat (apply Plan.runs_det rfl rfl; (· intro F w hb hf; go_simp; rfl); simp only [Act.put, List.setIfInBounds_toArray, List.set_cons_zero, List.set_cons_succ])
      refine Plan.runs_nil (fun F wn' hb2 hf => ?_)
      have HBN' := hid (bvia HBL.out hb2)
      clear hf hb2
      go_wp2_with fail
      go_roundw
      case rel => exact ⟨k + 1, by omega, by go_num, HBN'.out⟩
      case measure => simp [intOf]; omega
    · clear hbl
      go_wp2_with fail
      go_ret
      exact ⟨rfl, bvia HBN.out HBL.out⟩

set_option maxRecDepth 100000 in
set_option maxHeartbeats 8000000 in
theorem llivedead_calls (lo : Nat) (vf vg vl : Value) (p : Prg) (fn : Int) (w : World) (hp : ProgAt lo w vf vg vl p) :
    Calls Try.prog 4 #[.agg #[vf, vg, vl, .int .i64 p.main], .int .i64 fn] w fun e w' => e = .returned (.bool true) ∧ Below w.heap.size w w' := by
  have HP := hid hp
  clear hp
  go_enter Try.func4, Try.ntmps4
  go_wp2_with fail
  generalize hW : World.alloc _ _ = W
  have hbW : Below w.heap.size w W := by rw [← hW]; exact (Below.refl _ _).alloc (Nat.le_refl _) _
  have hr := show BoxAt W w.heap.size 26 [vf, vg, vl, .int .i64 p.main] by rw [← hW]; exact BoxAt.new _ _ _ _ _ rfl rfl
  have c0 := hr.cell 0 _ rfl
  have c1 := hr.cell 1 _ rfl
  have c2 := hr.cell 2 _ rfl
  have c3 := hr.cell 3 _ rfl
  have s1 := hr.lt
  have HBW := hid hbW
  have HP1 := hid (HP.out.below HBW.out)
  clear hW hbW hr
  refine Plan.wp_facts (B := W.heap.size) planLD1 [(0, valF (.bool true)), (4, callF W.heap.size (DeadD p fn)), (7, callF W.heap.size (DeadD p fn)), (8, valF (.bool true))] (by kernel_rfl) rfl (by kernel_rfl) (by kernel_rfl) (Nat.le_refl _) ?_
  refine Plan.runs_call_val (.bool true) 9 #[] rfl rfl _ rfl rfl (fun F w' hb hf => by go_simp) rfl (fun F w' hb hf => awake14_calls w') ?_
  simp only [Act.put, List.setIfInBounds_toArray, List.set_cons_zero, List.set_cons_succ]
  repeat (first | (apply Plan.runs_skip rfl rfl; simp only [Act.put, List.setIfInBounds_toArray, List.set_cons_zero, List.set_cons_succ]) | (apply Plan.runs_det rfl rfl; (· intro F w' hb hf; obtain ⟨hcl, hfz⟩ := bcell hb; go_simp; rfl); simp only [Act.put, List.setIfInBounds_toArray, List.set_cons_zero, List.set_cons_succ]))
  refine Plan.runs_call 13 #[.agg #[vf, vg, vl, .int .i64 p.main], .int .i64 fn] (DeadD p fn) rfl rfl _ rfl rfl (fun F w' hb hf => by obtain ⟨hcl, hfz⟩ := bcell hb; go_simp) rfl (Nat.le_refl _) (fun F w' hb hf => ?_) (fun va => ?_)
  · refine (dead_calls lo _ _ _ p fn w' (HP1.out.below hb)).mono ?_
    rintro e w'' ⟨v', L, rfl, h1, h2, hb'⟩
    exact ⟨v', rfl, ⟨L, h1, h2⟩, hb'⟩
  simp only [Act.put, List.setIfInBounds_toArray, List.set_cons_zero, List.set_cons_succ]
  repeat (first | (apply Plan.runs_skip rfl rfl; simp only [Act.put, List.setIfInBounds_toArray, List.set_cons_zero, List.set_cons_succ]) | (apply Plan.runs_det rfl rfl; (· intro F w' hb hf; obtain ⟨hcl, hfz⟩ := bcell hb; go_simp; rfl); simp only [Act.put, List.setIfInBounds_toArray, List.set_cons_zero, List.set_cons_succ]))
  refine Plan.runs_call 14 #[.agg #[vf, vg, vl, .int .i64 p.main], .int .i64 fn] (DeadD p fn) rfl rfl _ rfl rfl (fun F w' hb hf => by obtain ⟨hcl, hfz⟩ := bcell hb; go_simp) rfl (Nat.le_refl _) (fun F w' hb hf => ?_) (fun vb => ?_)
  · refine (rdead_calls lo _ _ _ p fn w' (HP1.out.below hb)).mono ?_
    rintro e w'' ⟨v', L, rfl, h1, h2, hb'⟩
    exact ⟨v', rfl, ⟨L, h1, h2⟩, hb'⟩
  simp only [Act.put, List.setIfInBounds_toArray, List.set_cons_zero, List.set_cons_succ]
  repeat (first | (apply Plan.runs_skip rfl rfl; simp only [Act.put, List.setIfInBounds_toArray, List.set_cons_zero, List.set_cons_succ]) | (apply Plan.runs_det rfl rfl; (· intro F w' hb hf; obtain ⟨hcl, hfz⟩ := bcell hb; go_simp; rfl); simp only [Act.put, List.setIfInBounds_toArray, List.set_cons_zero, List.set_cons_succ]))
  refine Plan.runs_call_val (.bool true) 12 #[va, vb] rfl rfl _ rfl rfl (fun F w' hb hf => by go_simp) rfl (fun F w' hb hf => ?_) ?_
  · obtain ⟨lo1, wa, _, ka, l1, h1, g1⟩ : ∃ lo w2, W.heap.size ≤ lo ∧ Keep lo w2 w' ∧ DeadD p fn lo w2 va := Plan.facts_call (D := DeadD p fn) hf 4 rfl (by kernel_rfl) rfl (.inl rfl)
    obtain ⟨lo2, wb, _, kb, l2, h2, g2⟩ : ∃ lo w2, W.heap.size ≤ lo ∧ Keep lo w2 w' ∧ DeadD p fn lo w2 vb := Plan.facts_call (D := DeadD p fn) hf 7 rfl (by kernel_rfl) rfl (.inl rfl)
    have e9 := h2.unique h1
    subst e9
    refine (ints_calls _ _ _ _ _ _ w' (g1.keep ka) (g2.keep kb)).mono ?_
    rintro e w'' ⟨rfl, hb'⟩
    exact ⟨by simp [intsEq], hb'⟩
  simp only [Act.put, List.setIfInBounds_toArray, List.set_cons_zero, List.set_cons_succ]
  repeat (first | (apply Plan.runs_skip rfl rfl; simp only [Act.put, List.setIfInBounds_toArray, List.set_cons_zero, List.set_cons_succ]) | (apply Plan.runs_det rfl rfl; (· intro F w' hb hf; obtain ⟨hcl, hfz⟩ := bcell hb; go_simp; rfl); simp only [Act.put, List.setIfInBounds_toArray, List.set_cons_zero, List.set_cons_succ]))
  refine Plan.runs_nil (fun F wn hb2 hf => ?_)
  have HBN := hid (bvia HBW.out hb2)
  clear hf hb2 c0 c1 c2 c3 s1
  go_wp2_with fail
  go_ret
  exact ⟨rfl, HBN.out⟩

end Go.Proofs.Ytlgedpiabooloaa
