/-
  The statement on Reach.
-/
import Derived.Test.YtiaajdckhedofaaPick
import Derived.Test.YtiaajdckhedofaaAwake
import Derived.Test.YtiaajdckhedofaaPath
namespace Go.Proofs.Ytiaajdckhedofaa
set_option linter.unusedVariables false
set_option linter.unusedSimpArgs false
open Go.RowKit

set_option maxRecDepth 100000 in
set_option maxHeartbeats 4000000 in
theorem reaches_no (lo : Nat) (vf vg vl : Value) (p : Prg) (n : Nat) (w : World) (hp : ProgAt lo w vf vg vl p) (hv : validB p = false) :
    Calls Try.prog 4 #[.agg #[vf, vg, vl, .int .i64 p.main], .int .u8 n] w fun e w' => e = .returned (.bool true) ∧ Below w.heap.size w w' := by
  go_enter Try.func4, Try.ntmps4
  go_wp2_with fail
  have hb0 : Below w.heap.size w (w.alloc (Obj.cells #[vf, vg, vl, .int .i64 p.main] 26)) := (Below.refl _ _).alloc (Nat.le_refl _) _
  refine (pick_no lo vf vg vl p n _ (hp.below hb0) hv).mono ?_
  rintro e w1 ⟨rfl, hb1⟩
  have HB1 := hid (hb0.trans (hb1.mono (by simp)))
  clear hb0 hb1
  go_wp2_with fail
  refine (awake_calls _).mono ?_
  rintro e w2 ⟨rfl, hb2⟩
  have HB2 := hid ((HB1.out.alloc (by have := HB1.out.size; omega) _).trans (hb2.mono (by have := HB1.out.size; simp; omega)))
  clear hb2
  go_wp2_with fail
  refine (awake_calls _).mono ?_
  rintro e w3 ⟨rfl, hb3⟩
  have HB3 := hid (HB2.out.trans (hb3.mono (by have := HB2.out.size; omega)))
  clear hb3
  go_wp2_with fail
  go_ret
  exact ⟨rfl, HB3.out⟩

noncomputable def planLR : Plan := mkPlan (regionOf Try.f4 4) [(1, .new), (3, .new)] []

set_option maxRecDepth 100000 in
set_option maxHeartbeats 4000000 in
theorem reaches_yes (lo : Nat) (vf vg vl : Value) (p : Prg) (n : Nat) (w : World) (hp : ProgAt lo w vf vg vl p) (hv : validB p = true) (hn : n < 256) :
    Calls Try.prog 4 #[.agg #[vf, vg, vl, .int .i64 p.main], .int .u8 n] w fun e w' => e = .returned (.bool true) ∧ Below w.heap.size w w' := by
  go_enter Try.func4, Try.ntmps4
  go_wp2_with fail
  have hb0 : Below w.heap.size w (w.alloc (Obj.cells #[vf, vg, vl, .int .i64 p.main] 26)) := (Below.refl _ _).alloc (Nat.le_refl _) _
  have hfok := fok_of_funcB (valid_func hv (n % p.funcs.length) (Nat.mod_lt _ (valid_pos hv).1))
  refine (pick_yes lo vf vg vl p n _ (hp.below hb0) hv hn).mono ?_
  generalize nth p.funcs (n % p.funcs.length) = f at *
  rintro e w1 ⟨vc, rfl, hc1, hb1⟩
  have HB1 := hid (hb0.trans (hb1.mono (by simp)))
  have HJ := hid hfok.jok
  have HF := hid hfok
  obtain ⟨ca, cc, cb, co, rfl, hgone⟩ := hc1.open
  clear hgone
  have HC1 := hid hc1
  clear hb0 hb1 hfok hc1
  go_wp2_with fail
  generalize hW : World.alloc _ _ = W
  have hbW : Below w1.heap.size w1 W := by rw [← hW]; exact (Below.refl _ _).alloc (Nat.le_refl _) _
  have HC := hid (HC1.out.below hbW)
  have n0 : W.cell? ⟨w1.heap.size, 0, none⟩ = some (.string f.name) := by rw [← hW]; simp
  have n1 : W.cell? ⟨w1.heap.size, 1, none⟩ = some (.int .i64 f.params) := by rw [← hW]; simp
  have n2 : W.cell? ⟨w1.heap.size, 2, none⟩ = some (.int .i64 f.regs) := by rw [← hW]; simp
  have n3 : W.cell? ⟨w1.heap.size, 3, none⟩ = some (.slice ca f.code.length cc) := by rw [← hW]; simp
  have r0 : w1.heap.size < W.heap.size := by rw [← hW]; simp
  have hbW2 : Below w.heap.size w W := by rw [← hW]; exact HB1.out.alloc (by have := HB1.out.size; omega) _
  have HBW := hid hbW2
  clear hbW hW hbW2
  refine (awake_calls _).mono ?_
  rintro e w2 ⟨rfl, hb2⟩
  have HB2 := hid (HBW.out.trans (hb2.mono (HBW.out.size)))
  have HC2 := hid (HC.out.below hb2)
  have m0 := (hb2.cell (p := ⟨w1.heap.size, 0, none⟩) r0).trans n0
  have m1 := (hb2.cell (p := ⟨w1.heap.size, 1, none⟩) r0).trans n1
  have m2 := (hb2.cell (p := ⟨w1.heap.size, 2, none⟩) r0).trans n2
  have m3 := (hb2.cell (p := ⟨w1.heap.size, 3, none⟩) r0).trans n3
  have r1 : w1.heap.size < w2.heap.size := by have := hb2.size; omega
  have HV := hid hv
  have HP := hid hp
  clear n0 n1 n2 n3 hb2 r0 HC HBW hv hp
  go_wp2_with fail
  refine Plan.wp_facts (B := w2.heap.size) planLR [(1, slF boolE w2.heap.size (reachL f.code)), (3, slF boolE w2.heap.size (reachL f.code))] (by kernel_rfl) rfl (by kernel_rfl) (by kernel_rfl) (Nat.le_refl _) ?_
  have hle : (reachL f.code).length ≤ 1000 := by rw [reachL_len]; exact HJ.out.le
  repeat (first | (apply Plan.runs_skip rfl rfl; simp only [Act.put, List.setIfInBounds_toArray, List.set_cons_zero, List.set_cons_succ]) | (apply Plan.runs_det rfl rfl; (· intro F w' hb hf; obtain ⟨hcl, hfz⟩ := bcell hb; go_simp; rfl); simp only [Act.put, List.setIfInBounds_toArray, List.set_cons_zero, List.set_cons_succ]))
  refine Plan.runs_call_sl boolE w2.heap.size (reachL f.code) 15 #[.agg #[.string f.name, .int .i64 f.params, .int .i64 f.regs, .slice ca f.code.length cc]] rfl rfl _ rfl rfl (fun F w' hb hf => by obtain ⟨hcl, hfz⟩ := bcell hb; go_simp) rfl (fun F w' hb hf => ?_) (fun v24 => ?_)
  · refine (reach_calls lo _ f.name f.params f.regs f.code w' (HC2.out.below hb) HJ.out).mono ?_
    rintro e w'' ⟨g, n', rfl, hn', hg, hrow, hb'⟩
    have hs := hb.size
    have hk := hrow.at w2.heap.size n' (by omega) (by rw [reachL_len]; exact hn') (by omega)
    exact ⟨_, rfl, hk, hb', fun k h0 h1 => .inr (by cases h1; exact hg)⟩
  simp only [Act.put, List.setIfInBounds_toArray, List.set_cons_zero, List.set_cons_succ]
  repeat (first | (apply Plan.runs_skip rfl rfl; simp only [Act.put, List.setIfInBounds_toArray, List.set_cons_zero, List.set_cons_succ]) | (apply Plan.runs_det rfl rfl; (· intro F w' hb hf; obtain ⟨hcl, hfz⟩ := bcell hb; go_simp; rfl); simp only [Act.put, List.setIfInBounds_toArray, List.set_cons_zero, List.set_cons_succ]))
  refine Plan.runs_call_sl boolE w2.heap.size (reachL f.code) 16 #[.agg #[.string f.name, .int .i64 f.params, .int .i64 f.regs, .slice ca f.code.length cc]] rfl rfl _ rfl rfl (fun F w' hb hf => by obtain ⟨hcl, hfz⟩ := bcell hb; go_simp) rfl (fun F w' hb hf => ?_) (fun v26 => ?_)
  · refine (rreach_calls lo _ f.name f.params f.regs f.code w' (HC2.out.below hb) HJ.out).mono ?_
    rintro e w'' ⟨g, n', rfl, hn', hg, hrow, hb'⟩
    have hs := hb.size
    have hk := hrow.at w2.heap.size n' (by omega) (by rw [reachL_len]; exact hn') (by omega)
    exact ⟨_, rfl, hk, hb', fun k h0 h1 => .inr (by cases h1; exact hg)⟩
  simp only [Act.put, List.setIfInBounds_toArray, List.set_cons_zero, List.set_cons_succ]
  repeat (apply Plan.runs_det rfl rfl; (· intro F w hb hf; go_simp; rfl); simp only [Act.put, List.setIfInBounds_toArray, List.set_cons_zero, List.set_cons_succ])
  refine Plan.runs_nil (fun F wn hb2 hf => ?_)
  have HBN := hid (HB2.out.trans (hb2.mono HB2.out.size))
  have h24 : SlE boolE w2.heap.size wn v24 (reachL f.code) := Plan.rest_sl hf 1 rfl (by decide +kernel) rfl rfl
  have h26 : SlE boolE w2.heap.size wn v26 (reachL f.code) := Plan.rest_sl hf 3 rfl (by decide +kernel) rfl rfl
  generalize reachL f.code = L at *
  obtain ⟨a1, c1, b1, o1, rfl, p1, q1, t1, _, _, u1, x1⟩ := BoolsAt.open h24
  obtain ⟨a2, c2, b2, o2, rfl, p2, q2, t2, _, _, u2, x2⟩ := BoolsAt.open h26
  clear hf hb2 m0 m1 m2 m3 r1 h24 h26
  go_wp2_with fail
  go_loopw [9] (fun i wr => ∃ k : Nat, k ≤ L.length ∧ i = .int .i64 k ∧ Below wn.heap.size wn wr) (fun i _ => L.length - (intOf i).toNat)
  case atStart => exact ⟨0, Nat.zero_le _, rfl, Below.refl _ _⟩
  case round =>
    obtain ⟨k, hk, rfl, hbl⟩ := hrel
    obtain ⟨hcl, hfz⟩ := bcell hbl
    by_cases hlt : k < L.length
    · have e1 := p1 (by omega)
      have e2 := p2 (by omega)
      subst e1 e2
      have d1 := q1 k hlt
      have d2 := q2 k hlt
      have d3 := t1 (by omega)
      have d4 := t2 (by omega)
      clear p1 p2 q1 q2 t1 t2
      go_wp2_with fail
      go_quiet (fail)
      go_wp2_with fail
      go_roundw
      case rel => exact ⟨k + 1, by omega, by go_num, below_drewN hbl _⟩
      case measure => simp [intOf]; omega
    · go_wp2_with fail
      go_ret
      exact ⟨rfl, HBN.out.trans (hbl.mono HBN.out.size)⟩

end Go.Proofs.Ytiaajdckhedofaa
