/-
  The law CodeEqual, walked.
-/
import Derived.Test.YtnifdjacgbdglaaAwake9
import Derived.Test.YtnifdjacgbdglaaREqual2
import Derived.Test.YtnifdjacgbdglaaCopy
import Derived.Test.YtnifdjacgbdglaaVia
namespace Go.Proofs.Ytnifdjacgbdglaa
set_option linter.unusedVariables false
set_option linter.unusedSimpArgs false
open Go.RowKit

/-- A program value that a call has made. -/
def progF (B : Nat) (p : Prg) : FactT where
  q v := ∃ uf ug ul, v = .agg #[uf, ug, ul, .int .i64 p.main]
  ne := ⟨_, undef, undef, undef, rfl⟩
  p v F w := ∃ uf ug ul lo w1, v = .agg #[uf, ug, ul, .int .i64 p.main] ∧ B ≤ lo ∧ (∀ k, F k ↔ (lo ≤ k ∧ k < w1.heap.size)) ∧ Keep lo w1 w ∧ ProgAt lo w1 uf ug ul p
  st v F w w' h hk := by
    obtain ⟨uf, ug, ul, lo, w1, hv, hB, hF, hK, hD⟩ := h
    exact ⟨uf, ug, ul, lo, w1, hv, hB, hF, fun k h1 h2 => (hk k ((hF k).2 ⟨h1, h2⟩)).trans (hK k h1 h2), hD⟩

namespace Plan
set_option linter.unusedVariables false
set_option linter.unusedSimpArgs false
variable {R : Plan} {P : Program} {Q : Exit → Act → World → Prop} {B : Nat} {w0 : World} {fs : List (Nat × FactT)} {i : Nat} {o : Oper} {l : List Oper} {a : Act} {vals : Nat → Value}
/-- A call that makes a program. -/
theorem runs_call_prog (p : Prg) (f : FuncId) (args : Array Value) (hk : R.kinds i = .new) (hw : Region.wanted o (yielded R.ops a.tmps) = true) (d : Tmp) (hd1 : o.dst = some d) (hd2 : Nat.ble (d + 1) a.tmps.size = true)
    (hrun : ∀ F w, Below B w0 w → R.FactsF fs i vals F w → (execOp a.eval o).run P w = .ok (.enter f args) w)
    (hi : phi fs i = progF B p) (hB : B ≤ w0.heap.size)
    (hcall : ∀ F w, Below B w0 w → R.FactsF fs i vals F w → Calls P f args w fun e w' => ∃ uf ug ul, e = .returned (.agg #[uf, ug, ul, .int .i64 p.main]) ∧ ProgAt w.heap.size w' uf ug ul p ∧ Below w.heap.size w w')
    (h : ∀ uf ug ul, R.RunsF P Q B w0 fs (i + 1) l (a.put o.dst (.agg #[uf, ug, ul, .int .i64 p.main])) (put vals i (.agg #[uf, ug, ul, .int .i64 p.main]))) : R.RunsF P Q B w0 fs i (o :: l) a vals := by
  refine runs_new hk hw d hd1 hd2 (fun F w h1 h2 K hK => ?_) (fun v hv => ?_)
  · unfold Oper.wp
    rw [hrun F w h1 h2]
    refine Calls.mono (hcall F w h1 h2) ?_
    rintro e w' ⟨uf, ug, ul, rfl, hD, hb⟩
    refine hK _ w' (fun k => w.heap.size ≤ k ∧ k < w'.heap.size) (by rw [hi]; exact ⟨_, _, _, rfl⟩) hb ?_ (fun k hk => .inr hk)
    rw [hi]
    exact ⟨uf, ug, ul, _, w', rfl, Nat.le_trans hB h1.size, fun k => Iff.rfl, Keep.refl _ _, hD⟩
  · rw [hi] at hv
    obtain ⟨uf, ug, ul, rfl⟩ := hv
    exact h uf ug ul
theorem facts_prog {p : Prg} {uf ug ul : Value} {F : Nat → Nat → Prop} {w : World} (h : R.FactsF fs i vals F w) (c : Nat) (hc : phi fs c = progF B p) (hv : vals c = .agg #[uf, ug, ul, .int .i64 p.main]) (hcd : (R.deps i).contains c = true) (hcn : (R.kinds c).isNew = true) (hcc : R.cons c = none ∨ R.cons c = some i) : ∃ lo, B ≤ lo ∧ ProgAt lo w uf ug ul p := by
  have hf := h c hcd hcn hcc
  dsimp only at hf
  rw [hc, hv] at hf
  obtain ⟨uf', ug', ul', lo, w1, he, hB, _, hK, hD⟩ := hf
  simp at he
  obtain ⟨rfl, rfl, rfl⟩ := he
  exact ⟨lo, hB, hD.keep hK⟩
end Plan

noncomputable def planLEq : Plan := mkPlan (regionOf Try.f4 1) [(0, .new), (4, .new), (7, .new), (13, .new), (14, .new)] []

set_option maxRecDepth 100000 in
set_option maxHeartbeats 8000000 in
theorem lequal_calls (lo1 : Nat) (vf vg vl : Value) (a : Prg) (lo2 : Nat) (uf ug ul : Value) (b : Prg) (w : World) (ha : ProgAt lo1 w vf vg vl a) (hwa : PrgWf a) (hb : ProgAt lo2 w uf ug ul b) (hwb : PrgWf b) :
    Calls Try.prog 4 #[.agg #[vf, vg, vl, .int .i64 a.main], .agg #[uf, ug, ul, .int .i64 b.main]] w fun e w' => e = .returned (.bool true) ∧ Below w.heap.size w w' := by
  have HA := hid ha
  have HB := hid hb
  have HWA := hid hwa
  clear ha hb hwa hwb
  go_enter Try.func4, Try.ntmps4
  go_wp2_with fail
  generalize hW : World.alloc _ _ = W
  have hbW : Below w.heap.size w W := by rw [← hW]; exact ((Below.refl _ _).alloc (Nat.le_refl _) _).alloc (by simp) _
  have R1 := show BoxAt W w.heap.size 26 [vf, vg, vl, .int .i64 a.main] by rw [← hW]; exact (BoxAt.new w _ _ _ _ rfl rfl).alloc _
  have R2 := show BoxAt W (w.heap.size + 1) 26 [uf, ug, ul, .int .i64 b.main] by rw [← hW]; exact BoxAt.new _ _ _ _ _ (by simp) rfl
  have c0 := R1.cell 0 _ rfl
  have c1 := R1.cell 1 _ rfl
  have c2 := R1.cell 2 _ rfl
  have c3 := R1.cell 3 _ rfl
  have s1 := R1.lt
  have d0 := R2.cell 0 _ rfl
  have d1 := R2.cell 1 _ rfl
  have d2 := R2.cell 2 _ rfl
  have d3 := R2.cell 3 _ rfl
  have s2 := R2.lt
  have HBW := hid hbW
  clear hW hbW R1 R2
  have HA1 := hid (HA.out.below HBW.out)
  have HB1 := hid (HB.out.below HBW.out)
  refine Plan.wp_facts (B := W.heap.size) planLEq [(0, valF (.bool true)), (4, valF (.bool (eqC a b))), (7, valF (.bool (eqC a b))), (13, progF W.heap.size a), (14, valF (.bool true))] (by kernel_rfl) rfl (by kernel_rfl) (by kernel_rfl) (Nat.le_refl _) ?_
  refine Plan.runs_call_val (.bool true) 10 #[] rfl rfl _ rfl rfl (fun F w' hb hf => by go_simp) rfl (fun F w' hb hf => awake9_calls w') ?_
  simp only [Act.put, List.setIfInBounds_toArray, List.set_cons_zero, List.set_cons_succ]
  repeat (first | (apply Plan.runs_skip rfl rfl; simp only [Act.put, List.setIfInBounds_toArray, List.set_cons_zero, List.set_cons_succ]) | (apply Plan.runs_det rfl rfl; (· intro F w' hb hf; obtain ⟨hcl, hfz⟩ := bcell hb; go_simp; rfl); simp only [Act.put, List.setIfInBounds_toArray, List.set_cons_zero, List.set_cons_succ]))
  refine Plan.runs_call_val (.bool (eqC a b)) 13 #[.agg #[vf, vg, vl, .int .i64 a.main], .agg #[uf, ug, ul, .int .i64 b.main]] rfl rfl _ rfl rfl (fun F w' hb hf => by obtain ⟨hcl, hfz⟩ := bcell hb; go_simp) rfl (fun F w' hb hf => ?_) ?_
  · exact equal_calls _ _ _ _ _ _ _ _ a b w' (HA1.out.below hb) (HB1.out.below hb)
  simp only [Act.put, List.setIfInBounds_toArray, List.set_cons_zero, List.set_cons_succ]
  repeat (first | (apply Plan.runs_skip rfl rfl; simp only [Act.put, List.setIfInBounds_toArray, List.set_cons_zero, List.set_cons_succ]) | (apply Plan.runs_det rfl rfl; (· intro F w' hb hf; obtain ⟨hcl, hfz⟩ := bcell hb; go_simp; rfl); simp only [Act.put, List.setIfInBounds_toArray, List.set_cons_zero, List.set_cons_succ]))
  refine Plan.runs_call_val (.bool (eqC a b)) 14 #[.agg #[vf, vg, vl, .int .i64 a.main], .agg #[uf, ug, ul, .int .i64 b.main]] rfl rfl _ rfl rfl (fun F w' hb hf => by obtain ⟨hcl, hfz⟩ := bcell hb; go_simp) rfl (fun F w' hb hf => ?_) ?_
  · exact requal_calls _ _ _ _ _ _ _ _ a b w' (HA1.out.below hb) (HB1.out.below hb)
  simp only [Act.put, List.setIfInBounds_toArray, List.set_cons_zero, List.set_cons_succ]
  repeat (first | (apply Plan.runs_skip rfl rfl; simp only [Act.put, List.setIfInBounds_toArray, List.set_cons_zero, List.set_cons_succ]) | (apply Plan.runs_det rfl rfl; (· intro F w' hb hf; obtain ⟨hcl, hfz⟩ := bcell hb; go_simp; rfl); simp only [Act.put, List.setIfInBounds_toArray, List.set_cons_zero, List.set_cons_succ]))
  refine Plan.runs_call_prog a 15 #[.agg #[vf, vg, vl, .int .i64 a.main]] rfl rfl _ rfl rfl (fun F w' hb hf => by obtain ⟨hcl, hfz⟩ := bcell hb; go_simp) rfl (Nat.le_refl _) (fun F w' hb hf => ?_) (fun cf cg cl => ?_)
  · refine (copy_calls _ _ _ _ a w' (HA1.out.below hb) HWA.out).mono ?_
    rintro e w'' ⟨x1, x2, x3, rfl, ho, hb'⟩
    exact ⟨x1, x2, x3, rfl, ho.at (Nat.le_refl _) HWA.out, hb'⟩
  simp only [Act.put, List.setIfInBounds_toArray, List.set_cons_zero, List.set_cons_succ]
  refine Plan.runs_call_val (.bool true) 13 #[.agg #[vf, vg, vl, .int .i64 a.main], .agg #[cf, cg, cl, .int .i64 a.main]] rfl rfl _ rfl rfl (fun F w' hb hf => by obtain ⟨hcl, hfz⟩ := bcell hb; go_simp) rfl (fun F w' hb hf => ?_) ?_
  · obtain ⟨lo, hlo, hp⟩ := Plan.facts_prog (uf := cf) (ug := cg) (ul := cl) hf 13 rfl rfl (by kernel_rfl) rfl (.inl rfl)
    refine (equal_calls _ _ _ _ _ _ _ _ a a w' (HA1.out.below hb) hp).mono ?_
    rintro e w'' ⟨rfl, hb'⟩
    exact ⟨by rw [eqC_true rfl], hb'⟩
  simp only [Act.put, List.setIfInBounds_toArray, List.set_cons_zero, List.set_cons_succ]
  repeat (first | (apply Plan.runs_skip rfl rfl; simp only [Act.put, List.setIfInBounds_toArray, List.set_cons_zero, List.set_cons_succ]) | (apply Plan.runs_det rfl rfl; (· intro F w' hb hf; obtain ⟨hcl, hfz⟩ := bcell hb; go_simp; rfl); simp only [Act.put, List.setIfInBounds_toArray, List.set_cons_zero, List.set_cons_succ]))
  refine Plan.runs_nil (fun F w2 hb hf => ?_)
  have HB2 := hid (bvia HBW.out hb)
  clear hf hb
  go_wp2_with fail
  go_ret
  exact ⟨rfl, HB2.out⟩

end Go.Proofs.Ytnifdjacgbdglaa
