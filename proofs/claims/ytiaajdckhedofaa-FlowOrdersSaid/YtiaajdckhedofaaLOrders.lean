/-
  The statement on Order.
-/
import Derived.Test.YtiaajdckhedofaaPick
import Derived.Test.YtiaajdckhedofaaAwake
import Derived.Test.YtiaajdckhedofaaROrder
import Derived.Test.YtiaajdckhedofaaFlow
namespace Go.Proofs.Ytiaajdckhedofaa
set_option linter.unusedVariables false
set_option linter.unusedSimpArgs false
open Go.RowKit

set_option maxRecDepth 100000 in
set_option maxHeartbeats 4000000 in
theorem orders_no (lo : Nat) (vf vg vl : Value) (p : Prg) (n : Nat) (w : World) (hp : ProgAt lo w vf vg vl p) (hv : validB p = false) :
    Calls Try.prog 6 #[.agg #[vf, vg, vl, .int .i64 p.main], .int .u8 n] w fun e w' => e = .returned (.bool true) ∧ Below w.heap.size w w' := by
  go_enter Try.func6, Try.ntmps6
  go_wp2_with fail
  have hb0 : Below w.heap.size w (w.alloc (Obj.cells #[vf, vg, vl, .int .i64 p.main] 26)) := (Below.refl _ _).alloc (Nat.le_refl _) _
  refine (pick_no lo vf vg vl p n _ (hp.below hb0) hv).mono ?_
  rintro e w1 ⟨rfl, hb1⟩
  have HB1 := hid (hb0.trans (hb1.mono (by simp)))
  clear hb0 hb1
  go_wp2_with fail
  refine (awake_calls _).mono ?_
  rintro e w2 ⟨rfl, hb2⟩
  have HB2 := hid ((HB1.out.alloc (by have := HB1.out.size; omega) _).trans (hb2.mono (by have := HB1.out.size; simp; omega)))
  clear hb2
  go_wp2_with fail
  refine (awake_calls _).mono ?_
  rintro e w3 ⟨rfl, hb3⟩
  have HB3 := hid (HB2.out.trans (hb3.mono (by have := HB2.out.size; omega)))
  clear hb3
  go_wp2_with fail
  go_ret
  exact ⟨rfl, HB3.out⟩

theorem intsEq_self (l : List Int) : intsEq l l = true := by simp [intsEq]
noncomputable def planLO : Plan := mkPlan (regionOf Try.f6 4) [(1, .new), (3, .new), (4, .new)] []

set_option maxRecDepth 100000 in
set_option maxHeartbeats 4000000 in
theorem orders_yes (lo : Nat) (vf vg vl : Value) (p : Prg) (n : Nat) (w : World) (hp : ProgAt lo w vf vg vl p) (hv : validB p = true) (hn : n < 256) :
    Calls Try.prog 6 #[.agg #[vf, vg, vl, .int .i64 p.main], .int .u8 n] w fun e w' => e = .returned (.bool true) ∧ Below w.heap.size w w' := by
  go_enter Try.func6, Try.ntmps6
  go_wp2_with fail
  have hb0 : Below w.heap.size w (w.alloc (Obj.cells #[vf, vg, vl, .int .i64 p.main] 26)) := (Below.refl _ _).alloc (Nat.le_refl _) _
  have hfok := fok_of_funcB (valid_func hv (n % p.funcs.length) (Nat.mod_lt _ (valid_pos hv).1))
  refine (pick_yes lo vf vg vl p n _ (hp.below hb0) hv hn).mono ?_
  generalize nth p.funcs (n % p.funcs.length) = f at *
  rintro e w1 ⟨vc, rfl, hc1, hb1⟩
  have HB1 := hid (hb0.trans (hb1.mono (by simp)))
  have HJ := hid hfok.jok
  have HF := hid hfok
  obtain ⟨ca, cc, cb, co, rfl, hgone⟩ := hc1.open
  clear hgone
  have HC1 := hid hc1
  clear hb0 hb1 hfok hc1
  go_wp2_with fail
  generalize hW : World.alloc _ _ = W
  have hbW : Below w1.heap.size w1 W := by rw [← hW]; exact (Below.refl _ _).alloc (Nat.le_refl _) _
  have HC := hid (HC1.out.below hbW)
  have n0 : W.cell? ⟨w1.heap.size, 0, none⟩ = some (.string f.name) := by rw [← hW]; simp
  have n1 : W.cell? ⟨w1.heap.size, 1, none⟩ = some (.int .i64 f.params) := by rw [← hW]; simp
  have n2 : W.cell? ⟨w1.heap.size, 2, none⟩ = some (.int .i64 f.regs) := by rw [← hW]; simp
  have n3 : W.cell? ⟨w1.heap.size, 3, none⟩ = some (.slice ca f.code.length cc) := by rw [← hW]; simp
  have r0 : w1.heap.size < W.heap.size := by rw [← hW]; simp
  have hbW2 : Below w.heap.size w W := by rw [← hW]; exact HB1.out.alloc (by have := HB1.out.size; omega) _
  have HBW := hid hbW2
  clear hbW hW hbW2
  refine (awake_calls _).mono ?_
  rintro e w2 ⟨rfl, hb2⟩
  have HB2 := hid (HBW.out.trans (hb2.mono (HBW.out.size)))
  have HC2 := hid (HC.out.below hb2)
  have m0 := (hb2.cell (p := ⟨w1.heap.size, 0, none⟩) r0).trans n0
  have m1 := (hb2.cell (p := ⟨w1.heap.size, 1, none⟩) r0).trans n1
  have m2 := (hb2.cell (p := ⟨w1.heap.size, 2, none⟩) r0).trans n2
  have m3 := (hb2.cell (p := ⟨w1.heap.size, 3, none⟩) r0).trans n3
  have r1 : w1.heap.size < w2.heap.size := by have := hb2.size; omega
  clear n0 n1 n2 n3 hb2 r0 HC HBW
  go_wp2_with fail
  refine Plan.wp_facts (B := w2.heap.size) planLO [(1, slF intE w2.heap.size (orderL f.code)), (3, slF intE w2.heap.size (orderL f.code)), (4, valF (.bool true))] (by kernel_rfl) rfl (by kernel_rfl) (by kernel_rfl) (Nat.le_refl _) ?_
  repeat (first | (apply Plan.runs_skip rfl rfl; simp only [Act.put, List.setIfInBounds_toArray, List.set_cons_zero, List.set_cons_succ]) | (apply Plan.runs_det rfl rfl; (· intro F w' hb hf; obtain ⟨hcl, hfz⟩ := bcell hb; go_simp; rfl); simp only [Act.put, List.setIfInBounds_toArray, List.set_cons_zero, List.set_cons_succ]))
  refine Plan.runs_call_sl intE w2.heap.size (orderL f.code) 19 #[.agg #[.string f.name, .int .i64 f.params, .int .i64 f.regs, .slice ca f.code.length cc]] rfl rfl _ rfl rfl (fun F w' hb hf => by obtain ⟨hcl, hfz⟩ := bcell hb; go_simp) rfl (fun F w' hb hf => ?_) (fun v21 => ?_)
  · refine (order_calls lo _ f.name f.params f.regs f.code w' (HC2.out.below hb) HJ.out).mono ?_
    rintro e w'' ⟨v', rfl, hk, hb'⟩
    have hs := hb.size
    exact ⟨v', rfl, hk.mono hs, hb', fun k h0 h1 => .inr (hk.blk h0 k h1).1⟩
  simp only [Act.put, List.setIfInBounds_toArray, List.set_cons_zero, List.set_cons_succ]
  repeat (first | (apply Plan.runs_skip rfl rfl; simp only [Act.put, List.setIfInBounds_toArray, List.set_cons_zero, List.set_cons_succ]) | (apply Plan.runs_det rfl rfl; (· intro F w' hb hf; obtain ⟨hcl, hfz⟩ := bcell hb; go_simp; rfl); simp only [Act.put, List.setIfInBounds_toArray, List.set_cons_zero, List.set_cons_succ]))
  refine Plan.runs_call_sl intE w2.heap.size (orderL f.code) 20 #[.agg #[.string f.name, .int .i64 f.params, .int .i64 f.regs, .slice ca f.code.length cc]] rfl rfl _ rfl rfl (fun F w' hb hf => by obtain ⟨hcl, hfz⟩ := bcell hb; go_simp) rfl (fun F w' hb hf => ?_) (fun v23 => ?_)
  · refine (rorder_calls lo _ f.name f.params f.regs f.code w' (HC2.out.below hb) HJ.out).mono ?_
    rintro e w'' ⟨v', rfl, hk, hb'⟩
    have hs := hb.size
    exact ⟨v', rfl, hk.mono hs, hb', fun k h0 h1 => .inr (hk.blk h0 k h1).1⟩
  simp only [Act.put, List.setIfInBounds_toArray, List.set_cons_zero, List.set_cons_succ]
  refine Plan.runs_call_val (.bool true) 14 #[v21, v23] rfl rfl _ rfl rfl (fun F w' hb hf => by go_simp) rfl (fun F w' hb hf => ?_) ?_
  · have h21 : SlE intE w2.heap.size w' v21 (orderL f.code) := Plan.facts_sl hf 1 rfl (by kernel_rfl) rfl (.inl rfl)
    have h23 : SlE intE w2.heap.size w' v23 (orderL f.code) := Plan.facts_sl hf 3 rfl (by kernel_rfl) rfl (.inl rfl)
    refine (ints_calls _ _ _ _ _ _ w' h21 h23).mono ?_
    rintro e w'' ⟨rfl, hb'⟩
    exact ⟨by rw [intsEq_self], hb'⟩
  simp only [Act.put, List.setIfInBounds_toArray, List.set_cons_zero, List.set_cons_succ]
  repeat (apply Plan.runs_det rfl rfl; (· intro F w hb hf; go_simp; rfl); simp only [Act.put, List.setIfInBounds_toArray, List.set_cons_zero, List.set_cons_succ])
  refine Plan.runs_nil (fun F wn hb2 hf => ?_)
  have HBN := hid (HB2.out.trans (hb2.mono HB2.out.size))
  clear hf hb2
  go_wp2_with fail
  go_ret
  exact ⟨rfl, HBN.out⟩

end Go.Proofs.Ytiaajdckhedofaa
