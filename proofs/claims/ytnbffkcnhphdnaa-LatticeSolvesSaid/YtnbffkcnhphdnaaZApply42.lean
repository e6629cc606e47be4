/-
  An edge's transformation; the two closures that apply it.
-/
import Derived.Test.YtnbffkcnhphdnaaZEdg42
namespace Go.Proofs.Ytnbffkcnhphdnaa
set_option linter.unusedVariables false
set_option linter.unusedSimpArgs false
open Go.RowKit

noncomputable def planApply : Plan := mkPlan (regionOf Try.f41 1) [(3, .new), (4, .new), (7, .new), (8, .new)] []

set_option maxRecDepth 100000 in
set_option maxHeartbeats 4000000 in
theorem apply_calls (lo1 lo2 : Nat) (vk vg vx : Value) (e : Edg) (x : List Int) (w : World) (hk : IntsAt lo1 w vk e.kill) (hg : IntsAt lo1 w vg e.gen) (hx : IntsAt lo2 w vx x) (h1 : e.kill.length ≤ 100000) (h2 : e.gen.length ≤ 100000) (h3 : x.length ≤ 100000) :
    Calls Try.prog 41 #[.agg #[.int .i64 e.src, .int .i64 e.dst, vk, vg], vx] w fun en w' => ∃ v', en = .returned v' ∧ IntsAt w.heap.size w' v' (thru e x) ∧ Below w.heap.size w w' := by
  have HK := hid hk
  have HG := hid hg
  have HX := hid hx
  clear hk hg hx
  go_enter Try.func41, Try.ntmps41
  go_wp2_with fail
  generalize hW : World.alloc _ _ = W
  have hbW : Below w.heap.size w W := by rw [← hW]; exact (Below.refl _ _).alloc (Nat.le_refl _) _
  have hr := show BoxAt W w.heap.size 48 [.int .i64 e.src, .int .i64 e.dst, vk, vg] by rw [← hW]; exact BoxAt.new _ _ _ _ _ rfl rfl
  have c2 := hr.cell 2 _ rfl
  have c3 := hr.cell 3 _ rfl
  have s1 := hr.lt
  have HBW := hid hbW
  clear hW hbW hr
  refine Plan.wp_facts (B := W.heap.size) planApply [(3, slF intE W.heap.size (setL e.kill)), (4, slF intE W.heap.size (minusL x (setL e.kill))), (7, slF intE W.heap.size (setL e.gen)), (8, slF intE W.heap.size (unionL (minusL x (setL e.kill)) (setL e.gen)))] (by kernel_rfl) rfl (by kernel_rfl) (by kernel_rfl) (Nat.le_refl _) ?_
  repeat (first | (apply Plan.runs_skip rfl rfl; simp only [Act.put, List.setIfInBounds_toArray, List.set_cons_zero, List.set_cons_succ]) | (apply Plan.runs_det rfl rfl; (· intro F w' hb hf; obtain ⟨hcl, hfz⟩ := bcell hb; go_simp; rfl); simp only [Act.put, List.setIfInBounds_toArray, List.set_cons_zero, List.set_cons_succ]))
  refine Plan.runs_call_sl intE W.heap.size (setL e.kill) 27 #[vk] rfl rfl _ rfl rfl (fun F w' hb hf => by obtain ⟨hcl, hfz⟩ := bcell hb; go_simp) rfl (fun F w' hb hf => ?_) (fun v8 => ?_)
  · refine (lset_calls lo1 vk e.kill w' ((HK.out.below HBW.out).below hb) (by omega)).mono ?_
    rintro en w'' ⟨v', rfl, hk, hb'⟩
    exact ⟨v', rfl, hk.mono hb.size, hb', fun k h0 h1 => .inr (hk.blk h0 k h1).1⟩
  simp only [Act.put, List.setIfInBounds_toArray, List.set_cons_zero, List.set_cons_succ]
  repeat (first | (apply Plan.runs_skip rfl rfl; simp only [Act.put, List.setIfInBounds_toArray, List.set_cons_zero, List.set_cons_succ]) | (apply Plan.runs_det rfl rfl; (· intro F w' hb hf; obtain ⟨hcl, hfz⟩ := bcell hb; go_simp; rfl); simp only [Act.put, List.setIfInBounds_toArray, List.set_cons_zero, List.set_cons_succ]))
  refine Plan.runs_call_sl intE W.heap.size (minusL x (setL e.kill)) 31 #[vx, v8] rfl rfl _ rfl rfl (fun F w' hb hf => by go_simp) rfl (fun F w' hb hf => ?_) (fun v9 => ?_)
  · have h8 : SlE intE W.heap.size w' v8 (setL e.kill) := Plan.facts_sl hf 3 rfl (by kernel_rfl) rfl (.inl rfl)
    refine (lminus_calls lo2 W.heap.size vx v8 x (setL e.kill) w' ((HX.out.below HBW.out).below hb) h8 (setL_inc _) h3 (by have := setL_length e.kill; omega)).mono ?_
    rintro en w'' ⟨v', rfl, hk, hb'⟩
    exact ⟨v', rfl, hk.mono hb.size, hb', fun k h0 h1 => .inr (hk.blk h0 k h1).1⟩
  simp only [Act.put, List.setIfInBounds_toArray, List.set_cons_zero, List.set_cons_succ]
  repeat (first | (apply Plan.runs_skip rfl rfl; simp only [Act.put, List.setIfInBounds_toArray, List.set_cons_zero, List.set_cons_succ]) | (apply Plan.runs_det rfl rfl; (· intro F w' hb hf; obtain ⟨hcl, hfz⟩ := bcell hb; go_simp; rfl); simp only [Act.put, List.setIfInBounds_toArray, List.set_cons_zero, List.set_cons_succ]))
  refine Plan.runs_call_sl intE W.heap.size (setL e.gen) 27 #[vg] rfl rfl _ rfl rfl (fun F w' hb hf => by obtain ⟨hcl, hfz⟩ := bcell hb; go_simp) rfl (fun F w' hb hf => ?_) (fun v12 => ?_)
  · refine (lset_calls lo1 vg e.gen w' ((HG.out.below HBW.out).below hb) (by omega)).mono ?_
    rintro en w'' ⟨v', rfl, hk, hb'⟩
    exact ⟨v', rfl, hk.mono hb.size, hb', fun k h0 h1 => .inr (hk.blk h0 k h1).1⟩
  simp only [Act.put, List.setIfInBounds_toArray, List.set_cons_zero, List.set_cons_succ]
  repeat (first | (apply Plan.runs_skip rfl rfl; simp only [Act.put, List.setIfInBounds_toArray, List.set_cons_zero, List.set_cons_succ]) | (apply Plan.runs_det rfl rfl; (· intro F w' hb hf; obtain ⟨hcl, hfz⟩ := bcell hb; go_simp; rfl); simp only [Act.put, List.setIfInBounds_toArray, List.set_cons_zero, List.set_cons_succ]))
  refine Plan.runs_call_sl intE W.heap.size (unionL (minusL x (setL e.kill)) (setL e.gen)) 28 #[v9, v12] rfl rfl _ rfl rfl (fun F w' hb hf => by go_simp) rfl (fun F w' hb hf => ?_) (fun v13 => ?_)
  · have h9 : SlE intE W.heap.size w' v9 (minusL x (setL e.kill)) := Plan.facts_sl hf 4 rfl (by kernel_rfl) rfl (.inl rfl)
    have h12 : SlE intE W.heap.size w' v12 (setL e.gen) := Plan.facts_sl hf 7 rfl (by kernel_rfl) rfl (.inl rfl)
    refine (lunion_calls W.heap.size W.heap.size v9 v12 _ _ w' h9 h12 (by have := List.length_filter_le (fun y => !decide (y ∈ setL e.kill)) x; unfold minusL; omega) (by have := setL_length e.gen; omega)).mono ?_
    rintro en w'' ⟨v', rfl, hk, hb'⟩
    exact ⟨v', rfl, hk.mono hb.size, hb', fun k h0 h1 => .inr (hk.blk h0 k h1).1⟩
  simp only [Act.put, List.setIfInBounds_toArray, List.set_cons_zero, List.set_cons_succ]
  repeat (first | (apply Plan.runs_skip rfl rfl; simp only [Act.put, List.setIfInBounds_toArray, List.set_cons_zero, List.set_cons_succ]) | (apply Plan.runs_det rfl rfl; (· intro F w' hb hf; obtain ⟨hcl, hfz⟩ := bcell hb; go_simp; rfl); simp only [Act.put, List.setIfInBounds_toArray, List.set_cons_zero, List.set_cons_succ]))
  refine Plan.runs_nil (fun F w' hb hf => ?_)
  have hres : SlE intE W.heap.size w' v13 (unionL (minusL x (setL e.kill)) (setL e.gen)) := Plan.rest_sl hf 8 rfl (by decide) rfl rfl
  have HR := hid hres
  have HB := hid (bvia HBW.out hb)
  have HS := hid HBW.out.size
  clear hres hb hf c2 c3 s1
  go_wp2_with fail
  go_ret
  refine ⟨_, rfl, ?_, HB.out⟩
  have := HR.out
  rw [minusL_set] at this
  exact SlE.mono this HS.out

end Go.Proofs.Ytnbffkcnhphdnaa
