import Derived.Test.YtiaajdckhedofaaRDom
import Derived.Test.YtiaajdckhedofaaVisit
namespace Go.Proofs.Ytiaajdckhedofaa
set_option linter.unusedVariables false
set_option linter.unusedSimpArgs false
open Go.RowKit

noncomputable def planD4 : Plan := mkPlan (regionOf Try.f17 4) [(2, .new), (5, .new)] []

set_option maxRecDepth 100000 in
set_option maxHeartbeats 10000000 in
theorem dom_out (vc : Value) (nm : ByteArray) (pa re : Int) (ca : Option Addr) (n cc : Nat) (a b : Int) (w : World) (h : ¬ (0 ≤ a ∧ 0 ≤ b ∧ a < n ∧ b < n)) :
    Calls Try.prog 17 #[.agg #[.string nm, .int .i64 pa, .int .i64 re, .slice ca n cc], .int .i64 a, .int .i64 b] w fun e w' => e = .returned (.bool false) ∧ Below w.heap.size w w' := by
  by_cases h1 : a < 0
  · have h1' : decide (a < 0) = true := decide_eq_true h1
    go_enter Try.func17, Try.ntmps17
    go_wp2_with fail
    go_ret
    exact ⟨rfl, (Below.refl _ _).alloc (Nat.le_refl _) _⟩
  have h1' : decide (a < 0) = false := decide_eq_false h1
  by_cases h2 : b < 0
  · have h2' : decide (b < 0) = true := decide_eq_true h2
    go_enter Try.func17, Try.ntmps17
    go_wp2_with fail
    go_ret
    exact ⟨rfl, (Below.refl _ _).alloc (Nat.le_refl _) _⟩
  have h2' : decide (b < 0) = false := decide_eq_false h2
  by_cases h3 : (n : Int) ≤ a
  · have h3' : decide ((n : Int) ≤ a) = true := decide_eq_true h3
    go_enter Try.func17, Try.ntmps17
    go_wp2_with fail
    go_ret
    exact ⟨rfl, (Below.refl _ _).alloc (Nat.le_refl _) _⟩
  have h3' : decide ((n : Int) ≤ a) = false := decide_eq_false h3
  have h4 : (n : Int) ≤ b := by omega
  have h4' : decide ((n : Int) ≤ b) = true := decide_eq_true h4
  go_enter Try.func17, Try.ntmps17
  go_wp2_with fail
  go_ret
  exact ⟨rfl, (Below.refl _ _).alloc (Nat.le_refl _) _⟩

set_option maxRecDepth 100000 in
set_option maxHeartbeats 10000000 in
theorem dom_in (lo : Nat) (vc : Value) (nm : ByteArray) (pa re : Int) (l : List Ins) (a b : Nat) (w : World) (hc : CodeAt lo w vc l) (hj : Jok l) (ha : a < l.length) (hb : b < l.length) :
    Calls Try.prog 17 #[.agg #[.string nm, .int .i64 pa, .int .i64 re, vc], .int .i64 a, .int .i64 b] w fun e w' => e = .returned (.bool (domN l a b)) ∧ Below w.heap.size w w' := by
  have HC0 := hc
  obtain ⟨ca, cc, cb, co, rfl, cp, _, _, _, _, _, cbl, _, _, _, cn⟩ := hc.open
  have hle := hj.le
  have e1 := cp (by omega)
  subst e1
  have hbl' := cbl (by omega)
  clear cp cbl cn
  have h1' : decide ((a : Int) < 0) = false := by simp
  have h2' : decide ((b : Int) < 0) = false := by simp
  have h3' : decide ((l.length : Int) ≤ a) = false := by simp; omega
  have h4' : decide ((l.length : Int) ≤ b) = false := by simp; omega
  have h3'' : decide (l.length ≤ a) = false := by simp; omega
  have h4'' : decide (l.length ≤ b) = false := by simp; omega
  go_enter Try.func17, Try.ntmps17
  go_wp2_with fail
  generalize hW1 : World.alloc _ _ = W1
  have n0 : W1.cell? ⟨w.heap.size, 0, none⟩ = some (.string nm) := by rw [← hW1]; simp
  have n1 : W1.cell? ⟨w.heap.size, 1, none⟩ = some (.int .i64 pa) := by rw [← hW1]; simp
  have n2 : W1.cell? ⟨w.heap.size, 2, none⟩ = some (.int .i64 re) := by rw [← hW1]; simp
  have n3 : W1.cell? ⟨w.heap.size, 3, none⟩ = some (.slice (some ⟨cb, co, none⟩) l.length cc) := by rw [← hW1]; simp
  have r0 : w.heap.size < W1.heap.size := by rw [← hW1]; simp
  have HB := hid (show Below w.heap.size w W1 by rw [← hW1]; exact (Below.refl _ _).alloc (Nat.le_refl _) _)
  clear hW1
  refine Plan.wp_facts (B := W1.heap.size) planD4 [(2, valF (.int .i64 (headN l a : Nat))), (5, valF (.int .i64 (headN l b : Nat)))] (by kernel_rfl) rfl (by kernel_rfl) (by kernel_rfl) (Nat.le_refl _) ?_
  repeat (first | (apply Plan.runs_skip rfl rfl; simp only [Act.put, List.setIfInBounds_toArray, List.set_cons_zero, List.set_cons_succ]) | (apply Plan.runs_det rfl rfl; (· intro F w' hb hf; obtain ⟨hcl, hfz⟩ := bcell hb; go_simp; rfl); simp only [Act.put, List.setIfInBounds_toArray, List.set_cons_zero, List.set_cons_succ]))
  refine Plan.runs_call_val (.int .i64 (headN l a : Nat)) 26 #[.agg #[.string nm, .int .i64 pa, .int .i64 re, .slice (some ⟨cb, co, none⟩) l.length cc], .int .i64 a] rfl rfl _ rfl rfl (fun F w' hb hf => by obtain ⟨hcl, hfz⟩ := bcell hb; go_simp) rfl (fun F w' hb hf => ?_) ?_
  · exact head_calls lo _ nm pa re l a w' (HC0.below (HB.out.trans (hb.mono (by omega)))) ha
  simp only [Act.put, List.setIfInBounds_toArray, List.set_cons_zero, List.set_cons_succ]
  repeat (first | (apply Plan.runs_skip rfl rfl; simp only [Act.put, List.setIfInBounds_toArray, List.set_cons_zero, List.set_cons_succ]) | (apply Plan.runs_det rfl rfl; (· intro F w' hb hf; obtain ⟨hcl, hfz⟩ := bcell hb; go_simp; rfl); simp only [Act.put, List.setIfInBounds_toArray, List.set_cons_zero, List.set_cons_succ]))
  refine Plan.runs_call_val (.int .i64 (headN l b : Nat)) 26 #[.agg #[.string nm, .int .i64 pa, .int .i64 re, .slice (some ⟨cb, co, none⟩) l.length cc], .int .i64 b] rfl rfl _ rfl rfl (fun F w' hb2 hf => by obtain ⟨hcl, hfz⟩ := bcell hb2; go_simp) rfl (fun F w' hb2 hf => ?_) ?_
  · exact head_calls lo _ nm pa re l b w' (HC0.below (HB.out.trans (hb2.mono (by omega)))) hb
  simp only [Act.put, List.setIfInBounds_toArray, List.set_cons_zero, List.set_cons_succ]
  repeat (apply Plan.runs_det rfl rfl; (· intro F w hb hf; go_simp; rfl); simp only [Act.put, List.setIfInBounds_toArray, List.set_cons_zero, List.set_cons_succ])
  refine Plan.runs_nil (fun F wn hb2 hf => ?_)
  have m0 := (hb2.cell (p := ⟨w.heap.size, 0, none⟩) r0).trans n0
  have m1 := (hb2.cell (p := ⟨w.heap.size, 1, none⟩) r0).trans n1
  have m2 := (hb2.cell (p := ⟨w.heap.size, 2, none⟩) r0).trans n2
  have m3 := (hb2.cell (p := ⟨w.heap.size, 3, none⟩) r0).trans n3
  have r1 : w.heap.size < wn.heap.size := by have := hb2.size; omega
  have HBN := hid (HB.out.trans (hb2.mono (by omega)))
  have ha2 := headN_le l a
  have hb3 := headN_le l b
  have hdm := hid (show domN l a b = (nth (reachB l (-1)) (headN l a) && (nth (reachB l (-1)) (headN l b) && !nth (reachB l (headN l a : Nat)) (headN l b))) from rfl)
  generalize hxa : headN l a = x at *
  generalize hxb : headN l b = y at *
  have hx1 : x < l.length := by omega
  have hy1 : y < l.length := by omega
  have hx2 : (x : Int) < l.length := by omega
  have hy2 : (y : Int) < l.length := by omega
  clear hf hb2 n0 n1 n2 n3
  go_wp2_with fail
  refine (visit_calls lo _ nm pa re (-1) l _ (HC0.below HBN.out) hj).mono ?_
  rintro e w1 ⟨g1, n1, rfl, rfl, hg1, hrow1, hb1⟩
  have p0 := (hb1.cell (p := ⟨w.heap.size, 0, none⟩) r1).trans m0
  have p1 := (hb1.cell (p := ⟨w.heap.size, 1, none⟩) r1).trans m1
  have p2 := (hb1.cell (p := ⟨w.heap.size, 2, none⟩) r1).trans m2
  have p3 := (hb1.cell (p := ⟨w.heap.size, 3, none⟩) r1).trans m3
  have r2 : w.heap.size < w1.heap.size := by have := hb1.size; omega
  have r3 := hrow1.lt
  have HB1 := hid (HBN.out.trans (hb1.mono (by omega)))
  have c0 := hrow1.cell (i := x) (by rw [reachB_len]; omega)
  have c1 := hrow1.cell (i := y) (by rw [reachB_len]; omega)
  clear hrow1 hb1 m0 m1 m2 m3
  cases hA : nth (reachB l (-1)) x with
  | false =>
    rw [hA] at c0
    have HA := hid hA
    clear hA
    go_wp2_with fail
    go_ret
    exact ⟨ret_bool (by rw [hdm.out, HA.out]; rfl), HB1.out⟩
  | true =>
    rw [hA] at c0
    have HA := hid hA
    clear hA
    cases hBB : nth (reachB l (-1)) y with
    | false =>
      rw [hBB] at c1
      have HBB := hid hBB
      clear hBB
      go_wp2_with fail
      go_ret
      exact ⟨ret_bool (by rw [hdm.out, HA.out, HBB.out]; rfl), HB1.out⟩
    | true =>
      rw [hBB] at c1
      have HBB := hid hBB
      clear hBB
      go_wp2_with fail
      refine (visit_calls lo _ nm pa re (x : Nat) l _ (HC0.below HB1.out) hj).mono ?_
      rintro e w2 ⟨g2, n2, rfl, rfl, hg2, hrow2, hb2⟩
      have c2 := hrow2.cell (i := y) (by rw [reachB_len]; omega)
      have r5 := hrow2.lt
      have HB2 := hid (HB1.out.trans (hb2.mono (by omega)))
      clear hrow2 hb2
      go_wp2_with fail
      go_ret
      exact ⟨ret_bool (by rw [hdm.out, HA.out, HBB.out]; rfl), HB2.out⟩

theorem dom_calls (lo : Nat) (vc : Value) (nm : ByteArray) (pa re : Int) (l : List Ins) (a b : Int) (w : World) (hc : CodeAt lo w vc l) (hj : Jok l) :
    Calls Try.prog 17 #[.agg #[.string nm, .int .i64 pa, .int .i64 re, vc], .int .i64 a, .int .i64 b] w fun e w' => e = .returned (.bool (domL l a b)) ∧ Below w.heap.size w w' := by
  unfold domL
  split
  · rename_i h
    obtain ⟨ka, rfl⟩ := Int.eq_ofNat_of_zero_le h.1
    obtain ⟨kb, rfl⟩ := Int.eq_ofNat_of_zero_le h.2.1
    exact dom_in lo vc nm pa re l ka kb w hc hj (by omega) (by omega)
  · rename_i h
    obtain ⟨ca, cc, cb, co, rfl, _⟩ := hc.open
    exact dom_out (.bool true) nm pa re ca l.length cc a b w h

end Go.Proofs.Ytiaajdckhedofaa
