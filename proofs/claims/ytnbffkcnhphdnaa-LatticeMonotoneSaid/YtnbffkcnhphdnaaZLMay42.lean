/-
  The laws LatticeMayMatchesReference and LatticeMustMatchesReference, walked.
-/
import Derived.IntWalk
import Derived.Test.YtnbffkcnhphdnaaZOwn42
namespace Go.Proofs.Ytnbffkcnhphdnaa
set_option linter.unusedVariables false
set_option linter.unusedSimpArgs false
open Go.RowKit

theorem flat_le {α : Type} [Inhabited α] (f : α → List Int) (c : Nat) : ∀ l : List α, (∀ i, i < l.length → (f (nth l i)).length ≤ c) → (l.flatMap f).length ≤ l.length * c
  | [], _ => by simp
  | x :: l, h => by
    have h1 := h 0 (by simp)
    have h2 := flat_le f c l fun i hi => by
      have := h (i + 1) (by simpa using hi)
      rwa [show nth (x :: l) (i + 1) = nth l i from by rw [nth_eq _ _ (by simpa using hi), nth_eq _ _ hi]; rfl] at this
    rw [show nth (x :: l) 0 = x from by rw [nth_eq _ _ (by simp)]; rfl] at h1
    rw [List.flatMap_cons, List.length_append, List.length_cons, Nat.succ_mul]
    omega
theorem mem_flat {α : Type} [Inhabited α] (f : α → List Int) (l : List α) (i : Nat) (hi : i < l.length) (r : Int) (hr : r ∈ f (nth l i)) : r ∈ l.flatMap f := by
  rw [List.mem_flatMap]
  refine ⟨nth l i, ?_, hr⟩
  rw [nth_eq _ _ hi]
  exact List.getElem_mem hi
def allU (E : List Edg) (S : List (List Int)) (all : List Int) : List Int := S.flatMap id ++ (E.flatMap Edg.gen ++ all)
theorem FewP.ok {N : Nat} {E : List Edg} {S : List (List Int)} (h : FewP N E S) (all : List Int) (ha : all.length ≤ 8) : GOk N E S (allU E S all) ∧ (∀ r ∈ all, r ∈ allU E S all) := by
  obtain ⟨h1, h2, h3, h4, h5⟩ := h
  have e1 := flat_le id 6 S fun i hi => h5 i hi
  have e2 := flat_le Edg.gen 6 E fun i hi => (h4 i hi).2
  refine ⟨⟨by omega, ⟨by omega, fun i hi => ⟨by have := (h4 i hi).1; omega, by have := (h4 i hi).2; omega⟩⟩, ?_, fun i hi => ⟨by have := h5 i hi; omega, fun r hr => ?_⟩, fun i hi r hr => ?_⟩, fun r hr => ?_⟩
  · unfold allU
    rw [List.length_append, List.length_append]
    omega
  · exact List.mem_append.2 (.inl (mem_flat id S i hi r hr))
  · exact List.mem_append.2 (.inr (List.mem_append.2 (.inl (mem_flat Edg.gen E i hi r hr))))
  · exact List.mem_append.2 (.inr (List.mem_append.2 (.inr hr)))

set_option maxHeartbeats 1000000 in
theorem rmay_no (va vs : Value) (w : World) :
    Calls Try.prog 16 #[.int .i64 0, va, vs] w fun e w' => e = .returned (.slice none 0 0) ∧ Below w.heap.size w w' := by
  go_enter Try.func16, Try.ntmps16
  go_wp2_with fail
  go_ret
  exact ⟨rfl, Below.refl _ _⟩
set_option maxHeartbeats 1000000 in
theorem rmust_no (va vs vx : Value) (w : World) :
    Calls Try.prog 18 #[.int .i64 0, va, vs, vx] w fun e w' => e = .returned (.slice none 0 0) ∧ Below w.heap.size w w' := by
  go_enter Try.func18, Try.ntmps18
  go_wp2_with fail
  go_ret
  exact ⟨rfl, Below.refl _ _⟩

/-- What both packages' May give for a small graph. -/
def MayIs (N : Nat) (E : List Edg) (S X : List (List Int)) : Prop := (N = 0 ∧ X = []) ∨ (1 ≤ N ∧ IsMay N E S X)
theorem MayIs.unique {N : Nat} {E : List Edg} {S X Y : List (List Int)} (h : MayIs N E S X) (k : MayIs N E S Y) : X = Y := by
  rcases h with ⟨h1, rfl⟩ | ⟨h1, h2⟩ <;> rcases k with ⟨k1, rfl⟩ | ⟨k1, k2⟩
  · rfl
  · omega
  · omega
  · exact h2.unique k2
def MustIs (N : Nat) (E : List Edg) (S : List (List Int)) (all : List Int) (X : List (List Int)) : Prop := (N = 0 ∧ X = []) ∨ (1 ≤ N ∧ IsMust N E S all X)
theorem MustIs.unique {N : Nat} {E : List Edg} {S : List (List Int)} {all : List Int} {X Y : List (List Int)} (h : MustIs N E S all X) (k : MustIs N E S all Y) : X = Y := by
  rcases h with ⟨h1, rfl⟩ | ⟨h1, h2⟩ <;> rcases k with ⟨k1, rfl⟩ | ⟨k1, k2⟩
  · rfl
  · omega
  · omega
  · exact h2.unique k2
theorem lays_none (w : World) : LaysAt 0 w (.slice none 0 0) [] := ⟨[], rfl, SlE.nil _ _ _, fun i hi => by simp at hi⟩
theorem may_small (lo1 lo2 : Nat) (ve vs : Value) (n : Nat) (E : List Edg) (S : List (List Int)) (w : World) (hE : EdgesAt lo1 w ve E) (hS : LaysAt lo2 w vs S) (hf : FewP n E S) :
    Calls Try.prog 13 #[.int .i64 n, ve, vs] w fun e w' => ∃ v X, e = .returned v ∧ MayIs n E S X ∧ LaysAt 0 w' v X ∧ Below w.heap.size w w' := by
  rcases Nat.eq_zero_or_pos n with rfl | hn
  · obtain ⟨ea, ec, _, _, _, _, rfl, _⟩ := hE.open
    refine (may_no 0 ea E.length ec vs w (by omega)).mono ?_
    rintro e w' ⟨rfl, hb⟩
    exact ⟨_, [], rfl, .inl ⟨rfl, rfl⟩, lays_none _, hb⟩
  · refine (may_calls lo1 lo2 ve vs n E S _ w hE hS (hf.ok [] (by simp)).1 hn).mono ?_
    rintro e w' ⟨v, X, rfl, hX, hv, hb⟩
    exact ⟨v, X, rfl, .inr ⟨hn, hX⟩, hv, hb⟩
theorem rmay_small (lo1 lo2 : Nat) (ve vs : Value) (n : Nat) (E : List Edg) (S : List (List Int)) (w : World) (hE : EdgesAt lo1 w ve E) (hS : LaysAt lo2 w vs S) (hf : FewP n E S) :
    Calls Try.prog 16 #[.int .i64 n, ve, vs] w fun e w' => ∃ v X, e = .returned v ∧ MayIs n E S X ∧ LaysAt 0 w' v X ∧ Below w.heap.size w w' := by
  rcases Nat.eq_zero_or_pos n with rfl | hn
  · refine (rmay_no ve vs w).mono ?_
    rintro e w' ⟨rfl, hb⟩
    exact ⟨_, [], rfl, .inl ⟨rfl, rfl⟩, lays_none _, hb⟩
  · refine (rmay_calls lo1 lo2 ve vs n E S _ w hE hS (hf.ok [] (by simp)).1 hn).mono ?_
    rintro e w' ⟨v, X, rfl, hX, hv, hb⟩
    exact ⟨v, X, rfl, .inr ⟨hn, hX⟩, hv, hb⟩
theorem must_small (lo1 lo2 lo4 : Nat) (ve vs va : Value) (n : Nat) (E : List Edg) (S : List (List Int)) (all : List Int) (w : World) (hE : EdgesAt lo1 w ve E) (hS : LaysAt lo2 w vs S) (ha : IntsAt lo4 w va all) (hf : FewP n E S) (hal : all.length ≤ 8) :
    Calls Try.prog 17 #[.int .i64 n, ve, vs, va] w fun e w' => ∃ v X, e = .returned v ∧ MustIs n E S all X ∧ LaysAt 0 w' v X ∧ Below w.heap.size w w' := by
  rcases Nat.eq_zero_or_pos n with rfl | hn
  · obtain ⟨ea, ec, _, _, _, _, rfl, _⟩ := hE.open
    refine (must_no 0 ea E.length ec vs va w (by omega)).mono ?_
    rintro e w' ⟨rfl, hb⟩
    exact ⟨_, [], rfl, .inl ⟨rfl, rfl⟩, lays_none _, hb⟩
  · refine (must_calls lo1 lo2 lo4 ve vs va n E S all _ w hE hS ha (hf.ok all hal).1 (hf.ok all hal).2 (by omega) hn).mono ?_
    rintro e w' ⟨v, X, rfl, hX, hv, hb⟩
    exact ⟨v, X, rfl, .inr ⟨hn, hX⟩, hv, hb⟩
theorem rmust_small (lo1 lo2 lo4 : Nat) (ve vs va : Value) (n : Nat) (E : List Edg) (S : List (List Int)) (all : List Int) (w : World) (hE : EdgesAt lo1 w ve E) (hS : LaysAt lo2 w vs S) (ha : IntsAt lo4 w va all) (hf : FewP n E S) (hal : all.length ≤ 8) :
    Calls Try.prog 18 #[.int .i64 n, ve, vs, va] w fun e w' => ∃ v X, e = .returned v ∧ MustIs n E S all X ∧ LaysAt 0 w' v X ∧ Below w.heap.size w w' := by
  rcases Nat.eq_zero_or_pos n with rfl | hn
  · refine (rmust_no ve vs va w).mono ?_
    rintro e w' ⟨rfl, hb⟩
    exact ⟨_, [], rfl, .inl ⟨rfl, rfl⟩, lays_none _, hb⟩
  · refine (rmust_calls lo1 lo2 lo4 ve vs va n E S all _ w hE hS ha (hf.ok all hal).1 (hf.ok all hal).2 (by omega) hn).mono ?_
    rintro e w' ⟨v, X, rfl, hX, hv, hb⟩
    exact ⟨v, X, rfl, .inr ⟨hn, hX⟩, hv, hb⟩

noncomputable def planLM5a : Plan := mkPlan (regionOf Try.f3 5) [(6, .new), (9, .new)] []
noncomputable def planLM5b : Plan := mkPlan (regionOf Try.f3 5) ((List.range 9).map fun i => (i + 3, .skip)) []
noncomputable def planLM7 : Plan := mkPlan (regionOf Try.f3 7) [(5, .new), (8, .new), (16, .new), (17, .new)] []

set_option maxRecDepth 100000 in
set_option maxHeartbeats 8000000 in
theorem lmay_calls (lo1 lo2 : Nat) (ve vs : Value) (N : Nat) (E : List Edg) (S : List (List Int)) (nodes : Int) (w : World) (hN : N < 256) (hE0 : EdgesAt lo1 w ve E) (hS0 : LaysAt lo2 w vs S) :
    Calls Try.prog 3 #[.agg #[.int .u8 (N : Nat), ve, vs], .int .i64 nodes] w fun e w' => e = .returned (.bool true) ∧ Below w.heap.size w w' := by
  have HE := hid hE0
  have HS := hid hS0
  clear hE0 hS0
  by_cases hno : nodes < 1
  all_goals
    go_enter Try.func3, Try.ntmps3
    go_wp2_with fail
    generalize hW : World.alloc _ _ = W
    have hbW : Below w.heap.size w W := by rw [← hW]; exact (Below.refl _ _).alloc (Nat.le_refl _) _
    have R1 := hid (show BoxAt W w.heap.size 25 [.int .u8 (N : Nat), ve, vs] by rw [← hW]; exact BoxAt.new _ _ _ _ _ rfl rfl)
    have HBW := hid hbW
    clear hW hbW
    refine (awake42_calls W).mono ?_
    rintro e w1 ⟨rfl, hb1⟩
    have hr := R1.out.below hb1
    have HR1 := hid hr
    have c0 := hr.cell 0 _ rfl
    have c1 := hr.cell 1 _ rfl
    have c2 := hr.cell 2 _ rfl
    have s1 := hr.lt
    have HB1 := hid (bvia HBW.out hb1)
    clear hb1 hr R1
    go_wp2_with fail
    refine (few_calls lo1 lo2 ve vs N E S w1 (HE.out.below HB1.out) (HS.out.keep (Keep.below HB1.out)) hN).mono ?_
    rintro e w2 ⟨hq, hb2⟩
    have HB2 := hid (bvia HB1.out hb2)
    have hr := HR1.out.below hb2
    clear c0 c1 c2 s1
    have c0 := hr.cell 0 _ rfl
    have c1 := hr.cell 1 _ rfl
    have c2 := hr.cell 2 _ rfl
    have s1 := hr.lt
    have HR2 := hid hr
    clear hb2 hr HR1
    rcases hq with rfl | ⟨rfl, hf⟩
    · clear c0 c1 c2 s1
      go_wp2_with fail
      go_ret
      exact ⟨rfl, HB2.out⟩
    have HF := hid hf
    have HE2 := hid (HE.out.below HB2.out)
    have HS2 := hid (HS.out.keep (Keep.below HB2.out))
    have HCONT := hid (show N ≤ 8 ∧ E.length ≤ 16 from ⟨hf.1, hf.2.1⟩)
    have hwN : IntKind.i64.wrap (N : Int) = (N : Int) := IntWalk.i64_in _ (by omega)
    clear hf HE HS
    go_wp2_with fail
  · refine Plan.wp_chain planLM5a w2.heap.size (by kernel_rfl) rfl (by kernel_rfl) (by kernel_rfl) ?_
    repeat (first | (apply Plan.chain_skip rfl rfl; simp only [Act.put, List.setIfInBounds_toArray, List.set_cons_zero, List.set_cons_succ]) | (apply Plan.chain_det rfl rfl; (· intro w' hb; obtain ⟨hcl, hfz⟩ := bcellB hb; go_simp; rfl); simp only [Act.put, List.setIfInBounds_toArray, List.set_cons_zero, List.set_cons_succ]))
    refine Plan.chain_call 14 #[ve] (fun v w' => EdgesAt 0 w' v E ∧ Below w2.heap.size w2 w') rfl rfl rfl (by go_simp) ?_ (fun v w' h => h.2) (fun v3 w3 h => ?_)
    · refine (own42_calls lo1 ve E w2.drew (HE2.out.below (Below.refl _ _).drew) (by have := HCONT.out; omega)).mono ?_
      rintro e w' ⟨v', rfl, h1, hb⟩
      exact ⟨v', rfl, h1, bvia (Below.refl _ _).drew hb⟩
    obtain ⟨h3, hb3⟩ := h
    have HE3 := hid h3
    have HB3 := hid hb3
    clear h3 hb3
    repeat (first | (apply Plan.chain_skip rfl rfl; simp only [Act.put, List.setIfInBounds_toArray, List.set_cons_zero, List.set_cons_succ]) | (apply Plan.chain_det rfl rfl; (· intro w' hb; obtain ⟨hcl, hfz⟩ := bcellB hb; go_simp; rfl); simp only [Act.put, List.setIfInBounds_toArray, List.set_cons_zero, List.set_cons_succ]))
    refine Plan.chain_call 13 #[.int .i64 nodes, v3, vs] (fun v w' => v = .slice none 0 0 ∧ Below w2.heap.size w2 w') rfl rfl rfl (by go_simp) ?_ (fun v w' h => h.2) (fun v4 w4 h => ?_)
    · obtain ⟨ea, ec, _, _, _, _, e3, _⟩ := HE3.out.open
      rw [e3]
      refine (may_no nodes ea E.length ec vs w3 hno).mono ?_
      rintro e w' ⟨rfl, hb⟩
      exact ⟨_, rfl, rfl, bvia HB3.out hb⟩
    obtain ⟨rfl, hb4⟩ := h
    have hr := HR2.out.below hb4
    clear c0 c1 c2 s1
    have HB4 := hid (bvia HB2.out hb4)
    have HB24 := hid hb4
    repeat (first | (apply Plan.chain_skip rfl rfl; simp only [Act.put, List.setIfInBounds_toArray, List.set_cons_zero, List.set_cons_succ]) | (apply Plan.chain_det rfl rfl; (· intro w' hb; obtain ⟨hcl, hfz⟩ := bcellB hb; go_simp; rfl); simp only [Act.put, List.setIfInBounds_toArray, List.set_cons_zero, List.set_cons_succ]))
    refine Plan.chain_nil ?_
    have c0 := hr.cell 0 _ rfl
    have c1 := hr.cell 1 _ rfl
    have c2 := hr.cell 2 _ rfl
    have s1 := hr.lt
    have HE5 := hid (HE2.out.below hb4)
    have HS5 := hid (HS2.out.keep (Keep.below hb4))
    clear hb4 hr HE2 HS2 HB2 HB3 HB24 HE3
    obtain ⟨w5, hw5⟩ : ∃ w5, w5 = w4 := ⟨_, rfl⟩
    subst hw5
    go_wp2_with fail
    refine Plan.wp_chain planLM7 w5.heap.size (by kernel_rfl) rfl (by kernel_rfl) (by kernel_rfl) ?_
    repeat (first | (apply Plan.chain_skip rfl rfl; simp only [Act.put, List.setIfInBounds_toArray, List.set_cons_zero, List.set_cons_succ]) | (apply Plan.chain_det rfl rfl; (· intro w' hb; obtain ⟨hcl, hfz⟩ := bcellB hb; go_simp; rfl); simp only [Act.put, List.setIfInBounds_toArray, List.set_cons_zero, List.set_cons_succ]))
    refine Plan.chain_call 14 #[ve] (fun v w' => EdgesAt 0 w' v E ∧ Below w5.heap.size w5 w') rfl rfl rfl (by go_simp) ?_ (fun v w' h => h.2) (fun v6 w6 h => ?_)
    · refine (own42_calls lo1 ve E w5.drew (HE5.out.below (Below.refl _ _).drew) (by have := HCONT.out; omega)).mono ?_
      rintro e w' ⟨v', rfl, h1, hb⟩
      exact ⟨v', rfl, h1, bvia (Below.refl _ _).drew hb⟩
    obtain ⟨h6, hb6⟩ := h
    have HE6 := hid h6
    have HB6 := hid hb6
    clear h6 hb6
    repeat (first | (apply Plan.chain_skip rfl rfl; simp only [Act.put, List.setIfInBounds_toArray, List.set_cons_zero, List.set_cons_succ]) | (apply Plan.chain_det rfl rfl; (· intro w' hb; obtain ⟨hcl, hfz⟩ := bcellB hb; go_simp; rfl); simp only [Act.put, List.setIfInBounds_toArray, List.set_cons_zero, List.set_cons_succ]))
    refine Plan.chain_call 13 #[.int .i64 N, v6, vs] (fun v w' => (∃ X, MayIs N E S X ∧ LaysAt 0 w' v X) ∧ Below w5.heap.size w5 w') rfl rfl rfl (by go_simp) ?_ (fun v w' h => h.2) (fun v7 w7 h => ?_)
    · refine (may_small 0 lo2 v6 vs N E S w6 HE6.out (HS5.out.keep (Keep.below HB6.out)) HF.out).mono ?_
      rintro e w' ⟨v', X, rfl, h1, h2, hb⟩
      exact ⟨_, rfl, ⟨X, h1, h2⟩, bvia HB6.out hb⟩
    obtain ⟨⟨X, hX, hx7⟩, hb7⟩ := h
    have HX7 := hid hx7
    have HXI := hid hX
    have HB7 := hid hb7
    clear hX hx7 hb7 HE6
    repeat (first | (apply Plan.chain_skip rfl rfl; simp only [Act.put, List.setIfInBounds_toArray, List.set_cons_zero, List.set_cons_succ]) | (apply Plan.chain_det rfl rfl; (· intro w' hb; obtain ⟨hcl, hfz⟩ := bcellB hb; go_simp; rfl); simp only [Act.put, List.setIfInBounds_toArray, List.set_cons_zero, List.set_cons_succ]))
    refine Plan.chain_call 16 #[.int .i64 N, ve, vs] (fun v w' => (LaysAt 0 w' v X ∧ LaysAt 0 w' v7 X) ∧ Below w5.heap.size w5 w') rfl rfl rfl (by go_simp) ?_ (fun v w' h => h.2) (fun v8 w8 h => ?_)
    · refine (rmay_small lo1 lo2 ve vs N E S w7 (HE5.out.below HB7.out) (HS5.out.keep (Keep.below HB7.out)) HF.out).mono ?_
      rintro e w' ⟨v', Y, rfl, h1, h2, hb⟩
      have ey := h1.unique HXI.out
      subst ey
      exact ⟨_, rfl, ⟨h2, HX7.out.keep (Keep.below hb)⟩, bvia HB7.out hb⟩
    obtain ⟨⟨h8, h8'⟩, hb8⟩ := h
    have HX8 := hid h8
    have HX9 := hid h8'
    have HB8 := hid hb8
    clear h8 h8' hb8
    repeat (first | (apply Plan.chain_skip rfl rfl; simp only [Act.put, List.setIfInBounds_toArray, List.set_cons_zero, List.set_cons_succ]) | (apply Plan.chain_det rfl rfl; (· intro w' hb; obtain ⟨hcl, hfz⟩ := bcellB hb; go_simp; rfl); simp only [Act.put, List.setIfInBounds_toArray, List.set_cons_zero, List.set_cons_succ]))
    refine Plan.chain_call 15 #[v7, v8] (fun v w' => v = .bool true ∧ Below w5.heap.size w5 w') rfl rfl rfl (by go_simp) ?_ (fun v w' h => h.2) (fun v9 w9 h => ?_)
    · refine (sameall_calls _ _ _ _ _ _ w8 HX9.out HX8.out).mono ?_
      rintro e w' ⟨rfl, hb⟩
      exact ⟨_, rfl, by rw [show decide (X = X) = true from decide_eq_true rfl], bvia HB8.out hb⟩
    obtain ⟨rfl, hb9⟩ := h
    have HB9 := hid (bvia HB4.out hb9)
    clear hb9 c0 c1 c2 s1
    repeat (first | (apply Plan.chain_skip rfl rfl; simp only [Act.put, List.setIfInBounds_toArray, List.set_cons_zero, List.set_cons_succ]) | (apply Plan.chain_det rfl rfl; (· intro w' hb; obtain ⟨hcl, hfz⟩ := bcellB hb; go_simp; rfl); simp only [Act.put, List.setIfInBounds_toArray, List.set_cons_zero, List.set_cons_succ]))
    refine Plan.chain_nil ?_
    go_wp2_with fail
    go_ret
    exact ⟨rfl, HB9.out⟩
  · refine Plan.wp_chain planLM5b w2.heap.size (by kernel_rfl) rfl (by kernel_rfl) (by kernel_rfl) ?_
    repeat (first | (apply Plan.chain_skip rfl rfl; simp only [Act.put, List.setIfInBounds_toArray, List.set_cons_zero, List.set_cons_succ]) | (apply Plan.chain_det rfl rfl; (· intro w' hb; obtain ⟨hcl, hfz⟩ := bcellB hb; go_simp; rfl); simp only [Act.put, List.setIfInBounds_toArray, List.set_cons_zero, List.set_cons_succ]))
    simp only [show decide (nodes < 1) = false from decide_eq_false (by omega)]
    repeat (first | (apply Plan.chain_skip rfl rfl; simp only [Act.put, List.setIfInBounds_toArray, List.set_cons_zero, List.set_cons_succ]) | (apply Plan.chain_det rfl rfl; (· intro w' hb; obtain ⟨hcl, hfz⟩ := bcellB hb; go_simp; rfl); simp only [Act.put, List.setIfInBounds_toArray, List.set_cons_zero, List.set_cons_succ]))
    refine Plan.chain_nil ?_
    obtain ⟨w5, hw5⟩ : ∃ w5, w5 = w2.drew := ⟨_, rfl⟩
    have hd : Below w2.heap.size w2 w5 := by rw [hw5]; exact (Below.refl _ _).drew
    rw [← hw5]
    have hr := HR2.out.below hd
    clear c0 c1 c2 s1 hw5
    have c0 := hr.cell 0 _ rfl
    have c1 := hr.cell 1 _ rfl
    have c2 := hr.cell 2 _ rfl
    have s1 := hr.lt
    have HE5 := hid (HE2.out.below hd)
    have HS5 := hid (HS2.out.keep (Keep.below hd))
    have HB4 := hid (bvia HB2.out hd)
    clear hd hr HE2 HS2 HB2
    go_wp2_with fail
    refine Plan.wp_chain planLM7 w5.heap.size (by kernel_rfl) rfl (by kernel_rfl) (by kernel_rfl) ?_
    repeat (first | (apply Plan.chain_skip rfl rfl; simp only [Act.put, List.setIfInBounds_toArray, List.set_cons_zero, List.set_cons_succ]) | (apply Plan.chain_det rfl rfl; (· intro w' hb; obtain ⟨hcl, hfz⟩ := bcellB hb; go_simp; rfl); simp only [Act.put, List.setIfInBounds_toArray, List.set_cons_zero, List.set_cons_succ]))
    refine Plan.chain_call 14 #[ve] (fun v w' => EdgesAt 0 w' v E ∧ Below w5.heap.size w5 w') rfl rfl rfl (by go_simp) ?_ (fun v w' h => h.2) (fun v6 w6 h => ?_)
    · refine (own42_calls lo1 ve E w5.drew (HE5.out.below (Below.refl _ _).drew) (by have := HCONT.out; omega)).mono ?_
      rintro e w' ⟨v', rfl, h1, hb⟩
      exact ⟨v', rfl, h1, bvia (Below.refl _ _).drew hb⟩
    obtain ⟨h6, hb6⟩ := h
    have HE6 := hid h6
    have HB6 := hid hb6
    clear h6 hb6
    repeat (first | (apply Plan.chain_skip rfl rfl; simp only [Act.put, List.setIfInBounds_toArray, List.set_cons_zero, List.set_cons_succ]) | (apply Plan.chain_det rfl rfl; (· intro w' hb; obtain ⟨hcl, hfz⟩ := bcellB hb; go_simp; rfl); simp only [Act.put, List.setIfInBounds_toArray, List.set_cons_zero, List.set_cons_succ]))
    refine Plan.chain_call 13 #[.int .i64 N, v6, vs] (fun v w' => (∃ X, MayIs N E S X ∧ LaysAt 0 w' v X) ∧ Below w5.heap.size w5 w') rfl rfl rfl (by go_simp) ?_ (fun v w' h => h.2) (fun v7 w7 h => ?_)
    · refine (may_small 0 lo2 v6 vs N E S w6 HE6.out (HS5.out.keep (Keep.below HB6.out)) HF.out).mono ?_
      rintro e w' ⟨v', X, rfl, h1, h2, hb⟩
      exact ⟨_, rfl, ⟨X, h1, h2⟩, bvia HB6.out hb⟩
    obtain ⟨⟨X, hX, hx7⟩, hb7⟩ := h
    have HX7 := hid hx7
    have HXI := hid hX
    have HB7 := hid hb7
    clear hX hx7 hb7 HE6
    repeat (first | (apply Plan.chain_skip rfl rfl; simp only [Act.put, List.setIfInBounds_toArray, List.set_cons_zero, List.set_cons_succ]) | (apply Plan.chain_det rfl rfl; (· intro w' hb; obtain ⟨hcl, hfz⟩ := bcellB hb; go_simp; rfl); simp only [Act.put, List.setIfInBounds_toArray, List.set_cons_zero, List.set_cons_succ]))
    refine Plan.chain_call 16 #[.int .i64 N, ve, vs] (fun v w' => (LaysAt 0 w' v X ∧ LaysAt 0 w' v7 X) ∧ Below w5.heap.size w5 w') rfl rfl rfl (by go_simp) ?_ (fun v w' h => h.2) (fun v8 w8 h => ?_)
    · refine (rmay_small lo1 lo2 ve vs N E S w7 (HE5.out.below HB7.out) (HS5.out.keep (Keep.below HB7.out)) HF.out).mono ?_
      rintro e w' ⟨v', Y, rfl, h1, h2, hb⟩
      have ey := h1.unique HXI.out
      subst ey
      exact ⟨_, rfl, ⟨h2, HX7.out.keep (Keep.below hb)⟩, bvia HB7.out hb⟩
    obtain ⟨⟨h8, h8'⟩, hb8⟩ := h
    have HX8 := hid h8
    have HX9 := hid h8'
    have HB8 := hid hb8
    clear h8 h8' hb8
    repeat (first | (apply Plan.chain_skip rfl rfl; simp only [Act.put, List.setIfInBounds_toArray, List.set_cons_zero, List.set_cons_succ]) | (apply Plan.chain_det rfl rfl; (· intro w' hb; obtain ⟨hcl, hfz⟩ := bcellB hb; go_simp; rfl); simp only [Act.put, List.setIfInBounds_toArray, List.set_cons_zero, List.set_cons_succ]))
    refine Plan.chain_call 15 #[v7, v8] (fun v w' => v = .bool true ∧ Below w5.heap.size w5 w') rfl rfl rfl (by go_simp) ?_ (fun v w' h => h.2) (fun v9 w9 h => ?_)
    · refine (sameall_calls _ _ _ _ _ _ w8 HX9.out HX8.out).mono ?_
      rintro e w' ⟨rfl, hb⟩
      exact ⟨_, rfl, by rw [show decide (X = X) = true from decide_eq_true rfl], bvia HB8.out hb⟩
    obtain ⟨rfl, hb9⟩ := h
    have HB9 := hid (bvia HB4.out hb9)
    clear hb9 c0 c1 c2 s1
    repeat (first | (apply Plan.chain_skip rfl rfl; simp only [Act.put, List.setIfInBounds_toArray, List.set_cons_zero, List.set_cons_succ]) | (apply Plan.chain_det rfl rfl; (· intro w' hb; obtain ⟨hcl, hfz⟩ := bcellB hb; go_simp; rfl); simp only [Act.put, List.setIfInBounds_toArray, List.set_cons_zero, List.set_cons_succ]))
    refine Plan.chain_nil ?_
    go_wp2_with fail
    go_ret
    exact ⟨rfl, HB9.out⟩

end Go.Proofs.Ytnbffkcnhphdnaa
