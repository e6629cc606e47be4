/-
  Two valid programs with plain names have the same text exactly if they differ at most in Main and in offsets: the law, walked.
-/
import Derived.Test.YtihcngjkflaelaaGreatDoorZValid
import Derived.Test.YtihcngjkflaelaaGreatDoorZAwake9
import Derived.Test.YtihcngjkflaelaaGreatDoorZPlain9
import Derived.Test.YtihcngjkflaelaaGreatDoorZREqual2
import Derived.Test.YtihcngjkflaelaaGreatDoorZText9
namespace Go.Proofs.YtihcngjkflaelaaGreatDoor
set_option linter.unusedVariables false
set_option linter.unusedSimpArgs false
open Go.RowKit

theorem bare_wf {p : Prg} (h : PrgWf p) : PrgWf (bareP p) := by
  refine ⟨by show (p.funcs.map bareF).length * 56 ≤ _; rw [List.length_map]; exact h.funcs, fun f hf => ?_, h.globs, h.glob, h.lays, h.lay, ⟨by show (-9223372036854775808 : Int) ≤ 0; omega, by show (0 : Int) ≤ _; omega⟩⟩
  obtain ⟨g, hg, rfl⟩ := List.mem_map.1 (show f ∈ p.funcs.map bareF from hf)
  have hw := h.func g hg
  refine ⟨hw.name, hw.params, hw.regs, by show (g.code.map bareI).length * 40 ≤ _; rw [List.length_map]; exact hw.code, fun x hx => ?_⟩
  obtain ⟨y, hy, rfl⟩ := List.mem_map.1 (show x ∈ g.code.map bareI from hx)
  have hi := hw.ins y hy
  exact ⟨hi.op, hi.a, hi.b, hi.c, ⟨by show (-9223372036854775808 : Int) ≤ 0; omega, by show (0 : Int) ≤ _; omega⟩⟩
theorem okC_wrd {l : List UInt8} (h : ∀ c ∈ l, okC c = true) : Wrd l := by
  constructor
  · intro hm; have := h _ hm; simp [okC] at this
  · intro hm; have := h _ hm; simp [okC] at this
theorem plain_of {p : Prg} (h : plainB p = true) : Plain p := by
  unfold plainB at h
  rw [List.all_eq_true] at h
  refine ⟨fun g hg => okC_wrd fun c hc => h c ?_, fun f hf => okC_wrd fun c hc => h c ?_⟩
  · unfold namesL
    exact List.mem_append.2 (.inl (List.mem_flatMap.2 ⟨g, hg, hc⟩))
  · unfold namesL
    exact List.mem_append.2 (.inr (List.mem_flatMap.2 ⟨f, hf, hc⟩))
theorem flat_mono {α : Type} (f g : α → List UInt8) : ∀ l : List α, (∀ x ∈ l, (f x).length ≤ (g x).length) → (l.flatMap f).length ≤ (l.flatMap g).length
  | [], _ => by simp
  | x :: l, h => by
    have h1 := h x (by simp)
    have h2 := flat_mono f g l fun y hy => h y (by simp [hy])
    rw [List.flatMap_cons, List.flatMap_cons, List.length_append, List.length_append]; omega
theorem names_le (p : Prg) : (namesL p).length ≤ (textL p).length := by
  have h1 := flat_mono (fun g : Glob => bl g.name) (fun g => lineB (globT g)) p.globals fun g _ => by
    show _ ≤ (lineB (globT g)).length
    unfold globT
    rw [lineB_cons, joinTail_cons]
    simp only [List.length_append]; omega
  have h2 := flat_mono (fun f : Fun => bl f.name) (fun f => (funT f).flatMap lineB) p.funcs fun f _ => by
    show _ ≤ ((funT f).flatMap lineB).length
    unfold funT headT
    rw [List.flatMap_cons, lineB_cons, joinTail_cons]
    simp only [List.length_append]; omega
  unfold namesL textL linesP
  rw [List.flatMap_append, List.flatMap_append, List.flatMap_map, List.flatMap_assoc]
  simp only [List.length_append]
  omega

theorem own_slice {base : Nat} {w : World} {v : Value} {l : List Fun} (h : ∃ ss, OwnFuns base w v l ss) : ∃ a n c, v = .slice a n c := by
  obtain ⟨ss, h⟩ := h
  obtain ⟨a, c, e⟩ := h.row.anySlice
  exact ⟨a, _, c, e⟩
theorem own_slice2 {base : Nat} {w : World} {v : Value} {l : List (List Int)} (h : ∃ ss, OwnLays base w v l ss) : ∃ a n c, v = .slice a n c := by
  obtain ⟨ss, h⟩ := h
  obtain ⟨a, c, e⟩ := h.row.anySlice
  exact ⟨a, _, c, e⟩

theorem same_text {a b : Prg} (ha : Plain a) (hb : Plain b) (hva : validB a = true) (hvb : validB b = true) : ((textL a == textL b) == eqC (bareP a) (bareP b)) = true := by
  have h1 : ∀ f ∈ a.funcs, InsOk a f := forall_nth fun i hi => ins_ok hva i hi
  have h2 : ∀ f ∈ b.funcs, InsOk b f := forall_nth fun i hi => ins_ok hvb i hi
  have h := text_inj ha hb h1 h2
  by_cases e : bareP a = bareP b
  · rw [eqC_true e, h.2 e]; simp
  · rw [eqC_false e]
    have : textL a ≠ textL b := fun k => e (h.1 k)
    simp [this]

noncomputable def planTs5 : Plan := mkPlan (regionOf Tryz.f4 5) [(1, .new), (3, .new), (7, .new)] []

set_option maxRecDepth 100000 in
set_option maxHeartbeats 8000000 in
theorem ltexts_calls (lo1 : Nat) (vf vg vl : Value) (a : Prg) (lo2 : Nat) (uf ug ul : Value) (b : Prg) (w : World) (ha : ProgAt lo1 w vf vg vl a) (hwa : PrgWf a) (hta : (textL a).length ≤ 140737488355328) (hb : ProgAt lo2 w uf ug ul b) (hwb : PrgWf b) (htb : (textL b).length ≤ 140737488355328) (htab : TabOk w) :
    Calls Tryz.prog 4 #[.agg #[vf, vg, vl, .int .i64 a.main], .agg #[uf, ug, ul, .int .i64 b.main]] w fun e w' => e = .returned (.bool true) ∧ Below w.heap.size w w' := by
  have HA := hid ha
  have HB := hid hb
  have HWA := hid hwa
  have HWB := hid hwb
  have HTA := hid hta
  have HTB := hid htb
  have HTAB := hid htab
  clear ha hb hwa hwb hta htb htab
  go_enter Tryz.func4, Tryz.ntmps4
  go_wp2_with fail
  generalize hW : World.alloc _ _ = W
  have hbW : Below w.heap.size w W := by rw [← hW]; exact ((Below.refl _ _).alloc (Nat.le_refl _) _).alloc (by simp) _
  have R1 := hid (show BoxAt W w.heap.size 26 [vf, vg, vl, .int .i64 a.main] by rw [← hW]; exact (BoxAt.new w _ _ _ _ rfl rfl).alloc _)
  have R2 := hid (show BoxAt W (w.heap.size + 1) 26 [uf, ug, ul, .int .i64 b.main] by rw [← hW]; exact BoxAt.new _ _ _ _ _ (by simp) rfl)
  have HBW := hid hbW
  clear hW hbW
  refine (plain_calls _ _ _ _ a W (HA.out.below HBW.out) HWA.out (Nat.le_trans (names_le a) HTA.out)).mono ?_
  rintro e w1 ⟨xf, xg, xl, rfl, ho1, hb1⟩
  have HB1 := hid (bvia HBW.out hb1)
  have R21 := hid (R2.out.below hb1)
  have R11 := hid (R1.out.below hb1)
  have HO1 := hid (ho1.at (lo := W.heap.size) (Nat.le_refl _) (bare_wf HWA.out))
  have d0 := R21.out.cell 0 _ rfl
  have d1 := R21.out.cell 1 _ rfl
  have d2 := R21.out.cell 2 _ rfl
  have d3 := R21.out.cell 3 _ rfl
  have s2 := R21.out.lt
  obtain ⟨fa1, fn1, fc1, rfl⟩ := own_slice ho1.funcs
  obtain ⟨ga1, gc1, rfl⟩ := ho1.globs.anySlice
  obtain ⟨la1, ln1, lc1, rfl⟩ := own_slice2 ho1.lays
  clear ho1 hb1
  go_wp2_with fail
  generalize hX1 : World.alloc _ _ = X1
  have hbX1 : Below w1.heap.size w1 X1 := by rw [← hX1]; exact (Below.refl _ _).alloc (Nat.le_refl _) _
  have Q1 := hid (show BoxAt X1 w1.heap.size 26 [.slice fa1 fn1 fc1, .slice ga1 _ gc1, .slice la1 ln1 lc1, .int .i64 0] by rw [← hX1]; exact BoxAt.new _ _ _ _ _ rfl rfl)
  have HBX1 := hid (bvia HB1.out hbX1)
  have HO1X := hid (HO1.out.below hbX1)
  have R22 := hid (R21.out.below hbX1)
  have R12 := hid (R11.out.below hbX1)
  obtain ⟨b1, hb1e⟩ : ∃ b1, w1.heap.size = b1 := ⟨_, rfl⟩
  rw [hb1e] at Q1 ⊢
  clear d0 d1 d2 d3 s2 hX1 hbX1 R21 R11 HO1 R1 R2
  have d0 := R22.out.cell 0 _ rfl
  have d1 := R22.out.cell 1 _ rfl
  have d2 := R22.out.cell 2 _ rfl
  have d3 := R22.out.cell 3 _ rfl
  have s2 := R22.out.lt
  go_wp2_with fail
  refine (plain_calls _ _ _ _ b X1 (HB.out.below HBX1.out) HWB.out (Nat.le_trans (names_le b) HTB.out)).mono ?_
  rintro e w2 ⟨yf, yg, yl, rfl, ho2, hb2⟩
  have HB2 := hid (bvia HBX1.out hb2)
  have R23 := hid (R22.out.below hb2)
  have R13 := hid (R12.out.below hb2)
  have Q2 := hid (Q1.out.below hb2)
  have HO12 := hid (HO1X.out.below hb2)
  have HO2 := hid (ho2.at (lo := X1.heap.size) (Nat.le_refl _) (bare_wf HWB.out))
  obtain ⟨fa2, fn2, fc2, rfl⟩ := own_slice ho2.funcs
  obtain ⟨ga2, gc2, rfl⟩ := ho2.globs.anySlice
  obtain ⟨la2, ln2, lc2, rfl⟩ := own_slice2 ho2.lays
  clear ho2 hb2 d0 d1 d2 d3 s2 R22 R12 HO1X Q1
  go_wp2_with fail
  generalize hX2 : World.alloc _ _ = X2
  have hbX2 : Below w2.heap.size w2 X2 := by rw [← hX2]; exact (Below.refl _ _).alloc (Nat.le_refl _) _
  have Q4 := hid (show BoxAt X2 w2.heap.size 26 [.slice fa2 fn2 fc2, .slice ga2 _ gc2, .slice la2 ln2 lc2, .int .i64 0] by rw [← hX2]; exact BoxAt.new _ _ _ _ _ rfl rfl)
  have HBX2 := hid (bvia HB2.out hbX2)
  have R24 := hid (R23.out.below hbX2)
  have R14 := hid (R13.out.below hbX2)
  have Q3 := hid (Q2.out.below hbX2)
  have HO13 := hid (HO12.out.below hbX2)
  have HO23 := hid (HO2.out.below hbX2)
  obtain ⟨b2, hb2e⟩ : ∃ b2, w2.heap.size = b2 := ⟨_, rfl⟩
  rw [hb2e] at Q4 ⊢
  clear hX2 hbX2 R23 R13 HO12 Q2 HO2
  go_wp2_with fail
  refine (awake9_calls X2).mono ?_
  rintro e w3 ⟨rfl, hb3⟩
  have HB3 := hid (bvia HBX2.out hb3)
  have R25 := hid (R24.out.below hb3)
  have R15 := hid (R14.out.below hb3)
  have Q5 := hid (Q4.out.below hb3)
  have Q6 := hid (Q3.out.below hb3)
  have HO14 := hid (HO13.out.below hb3)
  have HO24 := hid (HO23.out.below hb3)
  clear hb3 R24 R14 Q4 Q3 HO13 HO23
  cases hpa : plainB a with
  | false =>
    go_wp2_with fail
    refine (awake9_calls w3).mono ?_
    rintro e wz ⟨rfl, hbz⟩
    have HBZ := hid (bvia HB3.out hbz)
    clear hbz
    go_wp2_with fail
    go_ret
    exact ⟨rfl, HBZ.out⟩
  | true =>
  cases hpb : plainB b with
  | false =>
    go_wp2_with fail
    refine (awake9_calls w3).mono ?_
    rintro e wz ⟨rfl, hbz⟩
    have HBZ := hid (bvia HB3.out hbz)
    clear hbz
    go_wp2_with fail
    go_ret
    exact ⟨rfl, HBZ.out⟩
  | true =>
  have c0 := R15.out.cell 0 _ rfl
  have c1 := R15.out.cell 1 _ rfl
  have c2 := R15.out.cell 2 _ rfl
  have c3 := R15.out.cell 3 _ rfl
  have s1 := R15.out.lt
  have HPA := hid hpa
  have HPB := hid hpb
  clear hpa hpb
  go_wp2_with fail
  refine (valid_calls _ _ _ _ a w3 (HA.out.below HB3.out)).mono ?_
  rintro e w4 ⟨rfl, hb4⟩
  have HB4 := hid (bvia HB3.out hb4)
  have R26 := hid (R25.out.below hb4)
  have R16 := hid (R15.out.below hb4)
  have Q7 := hid (Q5.out.below hb4)
  have Q8 := hid (Q6.out.below hb4)
  have HO15 := hid (HO14.out.below hb4)
  have HO25 := hid (HO24.out.below hb4)
  clear hb4 c0 c1 c2 c3 s1 R25 R15 Q5 Q6 HO14 HO24
  cases hva : validB a with
  | false =>
    go_wp2_with fail
    refine (awake9_calls w4).mono ?_
    rintro e wz ⟨rfl, hbz⟩
    have HBZ := hid (bvia HB4.out hbz)
    clear hbz
    go_wp2_with fail
    go_ret
    exact ⟨rfl, HBZ.out⟩
  | true =>
  have d0 := R26.out.cell 0 _ rfl
  have d1 := R26.out.cell 1 _ rfl
  have d2 := R26.out.cell 2 _ rfl
  have d3 := R26.out.cell 3 _ rfl
  have s2 := R26.out.lt
  have HVA := hid hva
  clear hva
  go_wp2_with fail
  refine (valid_calls _ _ _ _ b w4 (HB.out.below HB4.out)).mono ?_
  rintro e w5 ⟨rfl, hb5⟩
  have HB5 := hid (bvia HB4.out hb5)
  have R27 := hid (R26.out.below hb5)
  have R17 := hid (R16.out.below hb5)
  have Q9 := hid (Q7.out.below hb5)
  have Q10 := hid (Q8.out.below hb5)
  have HO16 := hid (HO15.out.below hb5)
  have HO26 := hid (HO25.out.below hb5)
  clear hb5 d0 d1 d2 d3 s2 R26 R16 Q7 Q8 HO15 HO25
  cases hvb : validB b with
  | false =>
    go_wp2_with fail
    refine (awake9_calls w5).mono ?_
    rintro e wz ⟨rfl, hbz⟩
    have HBZ := hid (bvia HB5.out hbz)
    clear hbz
    go_wp2_with fail
    go_ret
    exact ⟨rfl, HBZ.out⟩
  | true =>
  have HVB := hid hvb
  clear hvb
  have c0 := R17.out.cell 0 _ rfl
  have c1 := R17.out.cell 1 _ rfl
  have c2 := R17.out.cell 2 _ rfl
  have c3 := R17.out.cell 3 _ rfl
  have s1 := R17.out.lt
  have d0 := R27.out.cell 0 _ rfl
  have d1 := R27.out.cell 1 _ rfl
  have d2 := R27.out.cell 2 _ rfl
  have d3 := R27.out.cell 3 _ rfl
  have s2 := R27.out.lt
  have x0 := Q10.out.cell 0 _ rfl
  have x1 := Q10.out.cell 1 _ rfl
  have x2 := Q10.out.cell 2 _ rfl
  have x3 := Q10.out.cell 3 _ rfl
  have s3 := Q10.out.lt
  have y0 := Q9.out.cell 0 _ rfl
  have y1 := Q9.out.cell 1 _ rfl
  have y2 := Q9.out.cell 2 _ rfl
  have y3 := Q9.out.cell 3 _ rfl
  have s4 := Q9.out.lt
  have HA1 := hid (HA.out.below HB5.out)
  have HB1' := hid (HB.out.below HB5.out)
  have htab5 : ∀ w', Below w5.heap.size w5 w' → TabOk w' := fun w' hb' w'' hb'' => HTAB.out w'' ((HB5.out.trans (hb'.mono HB5.out.size)).trans (hb''.mono (Nat.le_trans HB5.out.size hb'.size)))
  have HT5 := hid htab5
  clear htab5
  go_wp2_with fail
  refine Plan.wp_facts (B := w5.heap.size) planTs5 [(1, valF (.string ⟨(textL a).toArray⟩)), (3, valF (.string ⟨(textL b).toArray⟩)), (7, valF (.bool (eqC (bareP a) (bareP b))))] (by kernel_rfl) rfl (by kernel_rfl) (by kernel_rfl) (Nat.le_refl _) ?_
  repeat (first | (apply Plan.runs_skip rfl rfl; simp only [Act.put, List.setIfInBounds_toArray, List.set_cons_zero, List.set_cons_succ]) | (apply Plan.runs_det rfl rfl; (· intro F w' hb hf; obtain ⟨hcl, hfz⟩ := bcell hb; go_simp; rfl); simp only [Act.put, List.setIfInBounds_toArray, List.set_cons_zero, List.set_cons_succ]))
  refine Plan.runs_call_val (.string ⟨(textL a).toArray⟩) 7 #[.agg #[vf, vg, vl, .int .i64 a.main]] rfl rfl _ rfl rfl (fun F w' hb hf => by obtain ⟨hcl, hfz⟩ := bcell hb; go_simp) rfl (fun F w' hb hf => ?_) ?_
  · exact text_calls _ _ _ _ a w' (HA1.out.below hb) HWA.out HVA.out HTA.out (HT5.out w' hb)
  simp only [Act.put, List.setIfInBounds_toArray, List.set_cons_zero, List.set_cons_succ]
  repeat (first | (apply Plan.runs_skip rfl rfl; simp only [Act.put, List.setIfInBounds_toArray, List.set_cons_zero, List.set_cons_succ]) | (apply Plan.runs_det rfl rfl; (· intro F w' hb hf; obtain ⟨hcl, hfz⟩ := bcell hb; go_simp; rfl); simp only [Act.put, List.setIfInBounds_toArray, List.set_cons_zero, List.set_cons_succ]))
  refine Plan.runs_call_val (.string ⟨(textL b).toArray⟩) 7 #[.agg #[uf, ug, ul, .int .i64 b.main]] rfl rfl _ rfl rfl (fun F w' hb hf => by obtain ⟨hcl, hfz⟩ := bcell hb; go_simp) rfl (fun F w' hb hf => ?_) ?_
  · exact text_calls _ _ _ _ b w' (HB1'.out.below hb) HWB.out HVB.out HTB.out (HT5.out w' hb)
  simp only [Act.put, List.setIfInBounds_toArray, List.set_cons_zero, List.set_cons_succ]
  repeat (first | (apply Plan.runs_skip rfl rfl; simp only [Act.put, List.setIfInBounds_toArray, List.set_cons_zero, List.set_cons_succ]) | (apply Plan.runs_det rfl rfl; (· intro F w' hb hf; obtain ⟨hcl, hfz⟩ := bcell hb; go_simp; rfl); simp only [Act.put, List.setIfInBounds_toArray, List.set_cons_zero, List.set_cons_succ]))
  refine Plan.runs_call_val (.bool (eqC (bareP a) (bareP b))) 10 #[.agg #[.slice fa1 fn1 fc1, .slice ga1 (bareP a).globals.length gc1, .slice la1 ln1 lc1, .int .i64 0], .agg #[.slice fa2 fn2 fc2, .slice ga2 (bareP b).globals.length gc2, .slice la2 ln2 lc2, .int .i64 0]] rfl rfl _ rfl rfl (fun F w' hb hf => by obtain ⟨hcl, hfz⟩ := bcell hb; go_simp) rfl (fun F w' hb hf => ?_) ?_
  · exact requal_calls _ _ _ _ _ _ _ _ (bareP a) (bareP b) w' (HO16.out.below hb) (HO26.out.below hb)
  simp only [Act.put, List.setIfInBounds_toArray, List.set_cons_zero, List.set_cons_succ]
  repeat (first | (apply Plan.runs_skip rfl rfl; simp only [Act.put, List.setIfInBounds_toArray, List.set_cons_zero, List.set_cons_succ]) | (apply Plan.runs_det rfl rfl; (· intro F w' hb hf; obtain ⟨hcl, hfz⟩ := bcell hb; go_simp; rfl); simp only [Act.put, List.setIfInBounds_toArray, List.set_cons_zero, List.set_cons_succ]))
  refine Plan.runs_nil (fun F w2 hb hf => ?_)
  have HB6 := hid (bvia HB5.out hb)
  clear hf hb
  go_wp2_with fail
  go_ret
  refine ⟨?_, HB6.out⟩
  show Ending.returned (.bool ((textL a == textL b) == eqC (bareP a) (bareP b))) = _
  rw [same_text (plain_of HPA.out) (plain_of HPB.out) HVA.out HVB.out]

end Go.Proofs.YtihcngjkflaelaaGreatDoor
