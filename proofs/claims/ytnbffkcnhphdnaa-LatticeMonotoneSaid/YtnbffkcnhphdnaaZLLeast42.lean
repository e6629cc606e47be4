/-
  The law LatticeLeast, walked.
-/
import Derived.IntWalk
import Derived.Test.YtnbffkcnhphdnaaZJoined42
namespace Go.Proofs.Ytnbffkcnhphdnaa
set_option linter.unusedVariables false
set_option linter.unusedSimpArgs false
open Go.RowKit

/-- The start sets that the law makes of other. -/
def y0 (O : List (List Int)) (i : Nat) : List Int := if i < O.length then setL (nth O i) else []
theorem y0_end (O : List (List Int)) (N k : Nat) (hk : k ≤ N) (he : k < N → O.length ≤ k) : (List.range k).map (y0 O) ++ List.replicate (N - k) [] = (List.range N).map (y0 O) := by
  refine ext_nth _ _ (by simp; omega) fun i hi => ?_
  rw [nth_rmap _ _ _ (by simp at hi; omega)]
  by_cases h : i < k
  · rw [nth_append_left _ _ _ (by simpa using h), nth_rmap _ _ _ h]
  · have h2 := he (by simp at hi; omega)
    rw [nth_eq _ _ hi, List.getElem_append_right (by simp; omega)]
    unfold y0
    rw [if_neg (by omega)]
    simp
theorem y0_len (O : List (List Int)) (N k : Nat) (he : k < N → O.length ≤ k) (h8 : ∀ i, i < k → (y0 O i).length ≤ 8) (i : Nat) (hi : i < N) : (y0 O i).length ≤ 8 := by
  by_cases h : i < k
  · exact h8 i h
  · unfold y0
    rw [if_neg (by omega)]
    simp
/-- A graph that is small, with greater start sets. -/
theorem gok_of {N : Nat} {E : List Edg} {S T : List (List Int)} (h : FewP N E S) (hT : T.length ≤ 10) (h20 : ∀ i, i < T.length → (nth T i).length ≤ 20) : GOk N E T (allU E T []) := by
  obtain ⟨h1, h2, h3, h4, h5⟩ := h
  have e1 := flat_le id 20 T fun i hi => h20 i hi
  have e2 := flat_le Edg.gen 6 E fun i hi => (h4 i hi).2
  refine ⟨by omega, ⟨by omega, fun i hi => ⟨by have := (h4 i hi).1; omega, by have := (h4 i hi).2; omega⟩⟩, ?_, fun i hi => ⟨by have := h20 i hi; omega, fun r hr => ?_⟩, fun i hi r hr => ?_⟩
  · unfold allU
    rw [List.length_append, List.length_append, List.length_nil]
    omega
  · exact List.mem_append.2 (.inl (mem_flat id T i hi r hr))
  · exact List.mem_append.2 (.inr (List.mem_append.2 (.inl (mem_flat Edg.gen E i hi r hr))))
theorem unionL_len (a b : List Int) : (unionL a b).length ≤ a.length + b.length := by
  have := setL_length (a ++ b)
  rw [List.length_append] at this
  exact this
theorem joinAt_len {N : Nat} {E : List Edg} {S : List (List Int)} {Y : List (List Int)} (h : FewP N E S) (i : Nat) (hi : (nth Y i).length ≤ 8) : (joinAt S Y i).length ≤ 20 := by
  unfold joinAt
  split
  · rename_i h1
    have := unionL_len (nth Y i) (nth S i)
    have := h.2.2.2.2 i h1
    omega
  · omega
theorem least_in {N : Nat} {E : List Edg} {S X Y Z : List (List Int)} (hX : IsMay N E S X) (hY : IsMay N E ((List.range N).map (joinAt S Z)) Y) : SubV X Y := by
  refine hX.least ?_
  intro i r hr
  rw [← hY.2]
  rw [mayStep_nth] at hr ⊢
  split
  · rename_i hi
    rw [if_pos hi] at hr
    unfold mayAt at *
    rw [mayFold_mem] at *
    refine hr.imp (fun h => ?_) id
    unfold may0 at *
    rw [if_pos (by simpa using hi), nth_rmap _ _ _ hi, setL_mem]
    split at h
    · rename_i hs
      unfold joinAt
      rw [if_pos hs, unionL_mem]
      exact .inr ((setL_mem _ _).1 h)
    · cases h
  · rename_i hi
    rw [if_neg hi] at hr
    cases hr

noncomputable def planLL6 : Plan := mkPlan (regionOf Try.f5 6) [(3, .new), (6, .new)] []

noncomputable def planLL16 : Plan := mkPlan (regionOf Try.f5 16) [(7, .new), (8, .new)] []

noncomputable def planLL20 : Plan := mkPlan (regionOf Try.f5 20) [(8, .new)] []

set_option maxRecDepth 100000 in
set_option maxHeartbeats 8000000 in
theorem lleast_no (lo1 lo2 : Nat) (ve vs : Value) (N : Nat) (E : List Edg) (S : List (List Int)) (lo3 : Nat) (vo : Value) (O : List (List Int)) (w : World) (hN : N < 256) (hE0 : EdgesAt lo1 w ve E) (hS0 : LaysAt lo2 w vs S) (ho0 : LaysAt lo3 w vo O) (hcase : N = 0 ∨ 10 < O.length) :
    Calls Try.prog 5 #[.agg #[.int .u8 (N : Nat), ve, vs], vo] w fun e w' => e = .returned (.bool true) ∧ Below w.heap.size w w' := by
  have HE := hid hE0
  have HS := hid hS0
  have HO := hid ho0
  obtain ⟨oa, oc, ob, oo, OS, rfl, o1, o2, o3, o4, _, m9, n9⟩ := ho0.open
  have HOO := hid (And.intro o1 (And.intro o2 (And.intro o3 o4)))
  clear hE0 hS0 ho0 o1 o2 o3 o4
  have hwN : IntKind.i64.wrap (N : Int) = (N : Int) := IntWalk.i64_in _ (by omega)
  rcases Nat.eq_zero_or_pos N with hp | hp
  · have hn0 : ((N : Int) == 0) = true := by simp; omega
    clear hcase hp
    go_enter Try.func5, Try.ntmps5
    go_wp2_with fail
    generalize hW : World.alloc _ _ = W
    have hbW : Below w.heap.size w W := by rw [← hW]; exact (Below.refl _ _).alloc (Nat.le_refl _) _
    have R1 := hid (show BoxAt W w.heap.size 25 [.int .u8 (N : Nat), ve, vs] by rw [← hW]; exact BoxAt.new _ _ _ _ _ rfl rfl)
    have HBW := hid hbW
    clear hW hbW
    refine (awake42_calls W).mono ?_
    rintro e w1 ⟨rfl, hb1⟩
    have hr := R1.out.below hb1
    have HR1 := hid hr
    have c0 := hr.cell 0 _ rfl
    have c1 := hr.cell 1 _ rfl
    have c2 := hr.cell 2 _ rfl
    have s1 := hr.lt
    have HB1 := hid (bvia HBW.out hb1)
    clear hb1 hr R1
    go_wp2_with fail
    refine (few_calls lo1 lo2 ve vs N E S w1 (HE.out.below HB1.out) (HS.out.keep (Keep.below HB1.out)) hN).mono ?_
    rintro e w2 ⟨hq, hb2⟩
    have HB2 := hid (bvia HB1.out hb2)
    have hr := HR1.out.below hb2
    clear c0 c1 c2 s1
    have c0 := hr.cell 0 _ rfl
    have c1 := hr.cell 1 _ rfl
    have c2 := hr.cell 2 _ rfl
    have s1 := hr.lt
    have HR2 := hid hr
    clear hb2 hr HR1
    rcases hq with rfl | ⟨rfl, hf⟩
    · clear c0 c1 c2 s1
      go_wp2_with fail
      go_ret
      exact ⟨rfl, HB2.out⟩
    have HF := hid hf
    have HE2 := hid (HE.out.below HB2.out)
    have HS2 := hid (HS.out.keep (Keep.below HB2.out))
    have HCONT := hid (show N ≤ 8 ∧ E.length ≤ 16 from ⟨hf.1, hf.2.1⟩)
    clear hf HE HS
    go_wp2_with fail
    go_ret
    exact ⟨rfl, HB2.out⟩
  have hal : (10 : Int) < O.length := by rcases hcase with h | h <;> omega
  have hn0 : ((N : Int) == 0) = false := by simp; omega
  clear hcase hp
  go_enter Try.func5, Try.ntmps5
  go_wp2_with fail
  generalize hW : World.alloc _ _ = W
  have hbW : Below w.heap.size w W := by rw [← hW]; exact (Below.refl _ _).alloc (Nat.le_refl _) _
  have R1 := hid (show BoxAt W w.heap.size 25 [.int .u8 (N : Nat), ve, vs] by rw [← hW]; exact BoxAt.new _ _ _ _ _ rfl rfl)
  have HBW := hid hbW
  clear hW hbW
  refine (awake42_calls W).mono ?_
  rintro e w1 ⟨rfl, hb1⟩
  have hr := R1.out.below hb1
  have HR1 := hid hr
  have c0 := hr.cell 0 _ rfl
  have c1 := hr.cell 1 _ rfl
  have c2 := hr.cell 2 _ rfl
  have s1 := hr.lt
  have HB1 := hid (bvia HBW.out hb1)
  clear hb1 hr R1
  go_wp2_with fail
  refine (few_calls lo1 lo2 ve vs N E S w1 (HE.out.below HB1.out) (HS.out.keep (Keep.below HB1.out)) hN).mono ?_
  rintro e w2 ⟨hq, hb2⟩
  have HB2 := hid (bvia HB1.out hb2)
  have hr := HR1.out.below hb2
  clear c0 c1 c2 s1
  have c0 := hr.cell 0 _ rfl
  have c1 := hr.cell 1 _ rfl
  have c2 := hr.cell 2 _ rfl
  have s1 := hr.lt
  have HR2 := hid hr
  clear hb2 hr HR1
  rcases hq with rfl | ⟨rfl, hf⟩
  · clear c0 c1 c2 s1
    go_wp2_with fail
    go_ret
    exact ⟨rfl, HB2.out⟩
  have HF := hid hf
  have HE2 := hid (HE.out.below HB2.out)
  have HS2 := hid (HS.out.keep (Keep.below HB2.out))
  have HCONT := hid (show N ≤ 8 ∧ E.length ≤ 16 from ⟨hf.1, hf.2.1⟩)
  clear hf HE HS
  go_wp2_with fail
  go_ret
  exact ⟨rfl, HB2.out⟩

set_option maxRecDepth 100000 in
set_option maxHeartbeats 8000000 in
theorem lleast_yes (lo1 lo2 : Nat) (ve vs : Value) (N : Nat) (E : List Edg) (S : List (List Int)) (lo3 : Nat) (vo : Value) (O : List (List Int)) (w : World) (hN : N < 256) (hE0 : EdgesAt lo1 w ve E) (hS0 : LaysAt lo2 w vs S) (ho0 : LaysAt lo3 w vo O) (hp : 1 ≤ N) (hol : O.length ≤ 10) :
    Calls Try.prog 5 #[.agg #[.int .u8 (N : Nat), ve, vs], vo] w fun e w' => e = .returned (.bool true) ∧ Below w.heap.size w w' := by
  have HE := hid hE0
  have HS := hid hS0
  have HO := hid ho0
  obtain ⟨oa, oc, ob, oo, OS, rfl, o1, o2, o3, o4, _, m9, n9⟩ := ho0.open
  have HOO := hid (And.intro o1 (And.intro o2 (And.intro o3 o4)))
  clear hE0 hS0 ho0 o1 o2 o3 o4
  have hwN : IntKind.i64.wrap (N : Int) = (N : Int) := IntWalk.i64_in _ (by omega)
  have hal : ¬ (10 : Int) < O.length := by omega
  have hn0 : ((N : Int) == 0) = false := by simp; omega
  go_enter Try.func5, Try.ntmps5
  go_wp2_with fail
  generalize hW : World.alloc _ _ = W
  have hbW : Below w.heap.size w W := by rw [← hW]; exact (Below.refl _ _).alloc (Nat.le_refl _) _
  have R1 := hid (show BoxAt W w.heap.size 25 [.int .u8 (N : Nat), ve, vs] by rw [← hW]; exact BoxAt.new _ _ _ _ _ rfl rfl)
  have HBW := hid hbW
  clear hW hbW
  refine (awake42_calls W).mono ?_
  rintro e w1 ⟨rfl, hb1⟩
  have hr := R1.out.below hb1
  have HR1 := hid hr
  have c0 := hr.cell 0 _ rfl
  have c1 := hr.cell 1 _ rfl
  have c2 := hr.cell 2 _ rfl
  have s1 := hr.lt
  have HB1 := hid (bvia HBW.out hb1)
  clear hb1 hr R1
  go_wp2_with fail
  refine (few_calls lo1 lo2 ve vs N E S w1 (HE.out.below HB1.out) (HS.out.keep (Keep.below HB1.out)) hN).mono ?_
  rintro e w2 ⟨hq, hb2⟩
  have HB2 := hid (bvia HB1.out hb2)
  have hr := HR1.out.below hb2
  clear c0 c1 c2 s1
  have c0 := hr.cell 0 _ rfl
  have c1 := hr.cell 1 _ rfl
  have c2 := hr.cell 2 _ rfl
  have s1 := hr.lt
  have HR2 := hid hr
  clear hb2 hr HR1
  rcases hq with rfl | ⟨rfl, hf⟩
  · clear c0 c1 c2 s1
    go_wp2_with fail
    go_ret
    exact ⟨rfl, HB2.out⟩
  have HF := hid hf
  have HE2 := hid (HE.out.below HB2.out)
  have HS2 := hid (HS.out.keep (Keep.below HB2.out))
  have HCONT := hid (show N ≤ 8 ∧ E.length ≤ 16 from ⟨hf.1, hf.2.1⟩)
  clear hf HE HS
  go_wp2_with fail
  refine Plan.wp_chain planLL6 w2.heap.size (by kernel_rfl) rfl (by kernel_rfl) (by kernel_rfl) ?_
  repeat (first | (apply Plan.chain_skip rfl rfl; simp only [Act.put, List.setIfInBounds_toArray, List.set_cons_zero, List.set_cons_succ]) | (apply Plan.chain_det rfl rfl; (· intro w' hb; obtain ⟨hcl, hfz⟩ := bcellB hb; go_simp; rfl); simp only [Act.put, List.setIfInBounds_toArray, List.set_cons_zero, List.set_cons_succ]))
  refine Plan.chain_call 14 #[ve] (fun v w' => EdgesAt 0 w' v E ∧ Below w2.heap.size w2 w') rfl rfl rfl (by go_simp) ?_ (fun v w' h => h.2) (fun v3 w3 h => ?_)
  · refine (own42_calls lo1 ve E w2.drew (HE2.out.below (Below.refl _ _).drew) (by have := HCONT.out; omega)).mono ?_
    rintro e w' ⟨v', rfl, h1, hb⟩
    exact ⟨v', rfl, h1, bvia (Below.refl _ _).drew hb⟩
  obtain ⟨h3, hb3⟩ := h
  have HE3 := hid h3
  have HB3 := hid hb3
  clear h3 hb3
  repeat (first | (apply Plan.chain_skip rfl rfl; simp only [Act.put, List.setIfInBounds_toArray, List.set_cons_zero, List.set_cons_succ]) | (apply Plan.chain_det rfl rfl; (· intro w' hb; obtain ⟨hcl, hfz⟩ := bcellB hb; go_simp; rfl); simp only [Act.put, List.setIfInBounds_toArray, List.set_cons_zero, List.set_cons_succ]))
  refine Plan.chain_call 13 #[.int .i64 N, v3, vs] (fun v w' => (∃ X, IsMay N E S X ∧ LaysAt 0 w' v X) ∧ Below w2.heap.size w2 w') rfl rfl rfl (by go_simp) ?_ (fun v w' h => h.2) (fun v4 w4 h => ?_)
  · refine (may_calls 0 lo2 v3 vs N E S _ w3 HE3.out (HS2.out.keep (Keep.below HB3.out)) (HF.out.ok [] (by simp)).1 hp).mono ?_
    rintro e w' ⟨v', X, rfl, h1, h2, hb⟩
    exact ⟨_, rfl, ⟨X, h1, h2⟩, bvia HB3.out hb⟩
  obtain ⟨⟨X, hX, hx4⟩, hb4⟩ := h
  have hr := HR2.out.below hb4
  have HXI := hid hX
  have HX4N := hid hx4
  have HX4 := hid hx4
  obtain ⟨xa, xc, xb, xo, XS, rfl, x1, x2, x3, x4, _, x6, x7⟩ := hx4.open
  rw [hX.len] at x1 x2 x4
  have HXO := hid (And.intro x1 (And.intro x2 (And.intro x3 x4)))
  have HXL := hid hX.len
  have hxl : (X.length : Int) = N := by rw [hX.len]
  have hxl2 : ((N : Int) == N) = true := by simp
  have HE4 := hid (HE2.out.below hb4)
  have HS4 := hid (HS2.out.keep (Keep.below hb4))
  have HB4 := hid (bvia HB2.out hb4)
  clear c0 c1 c2 s1 hX hx4 hb4 x1 x2 x3 x4 HE2 HS2 HE3 HB3 HB2 HR2
  have c0 := hr.cell 0 _ rfl
  have c1 := hr.cell 1 _ rfl
  have c2 := hr.cell 2 _ rfl
  have s1 := hr.lt
  have HR4 := hid hr
  clear hr
  repeat (first | (apply Plan.chain_skip rfl rfl; simp only [Act.put, List.setIfInBounds_toArray, List.set_cons_zero, List.set_cons_succ]) | (apply Plan.chain_det rfl rfl; (· intro w' hb; obtain ⟨hcl, hfz⟩ := bcellB hb; go_simp; rfl); simp only [Act.put, List.setIfInBounds_toArray, List.set_cons_zero, List.set_cons_succ]))
  refine Plan.chain_nil ?_
  have HXN := hid (show LaysAt 0 w4 (.slice xa N xc) X by have := HX4.out; rw [HXL.out] at this; exact this)
  have HNN := hid (show N ≤ 1000 by have := HCONT.out; omega)
  have HUU := hid (HF.out.ok [] (by simp)).1
  have HXU := hid (show ∀ i r, r ∈ nth X i → r ∈ allU E S [] by
    obtain ⟨⟨k, e⟩, _⟩ := HXI.out
    rw [e]
    exact mayIter_in HUU.out k)
  rw [HXL.out]
  go_wp2_with fail
  refine (rmaystep_calls lo1 lo2 0 ve vs _ N E S X (allU E S []) w4 HE4.out HUU.out.e HS4.out HXN.out HXL.out HNN.out (by have := HUU.out.u; omega) HUU.out.s HUU.out.g HXI.out.inc HXU.out).mono ?_
  rintro e w5 ⟨g5, s5, rfl, hv5, hb5⟩
  rw [HXI.out.2] at hv5
  have HV5 := hid (hv5.lays (by rw [HXL.out]; have := HNN.out; omega))
  have HX5 := hid (HXN.out.keep (Keep.below hb5))
  have HB5 := hid (bvia HB4.out hb5)
  have hr := HR4.out.below hb5
  have HE5 := hid (HE4.out.below hb5)
  have HS5 := hid (HS4.out.keep (Keep.below hb5))
  clear c0 c1 c2 s1 hv5 hb5 HR4 HE4 HS4 HB4 HX4 HX4N
  have HR5 := hid hr
  clear hr
  go_wp2_with fail
  refine (sameall_calls 0 0 _ _ X X w5 HV5.out HX5.out).mono ?_
  rintro e w6 ⟨rfl, hb6⟩
  rw [show decide (X = X) = true from decide_eq_true rfl]
  have HB6 := hid (bvia HB5.out hb6)
  have hr := HR5.out.below hb6
  have HX6 := hid (HX5.out.keep (Keep.below hb6))
  have HE6 := hid (HE5.out.below hb6)
  have HS6 := hid (HS5.out.keep (Keep.below hb6))
  clear hb6 HV5 HX5 HR5 HB5 HE5 HS5
  have HR6 := hid hr
  clear hr
  have hmk := run_make_row' (P := Try.prog) 23 34 (.slice none 0 0) 24 Try.underlying23 infoRow42 rfl .i64 .i64 N (by omega) (by omega)
  go_wp2_with fail
  generalize hW2 : World.alloc _ _ = W2
  have hv := show VAt w6.heap.size W2 (.slice (some ⟨w6.heap.size, 0, none⟩) N N) (List.replicate N ⟨none, 0, 0⟩) (List.replicate N []) by rw [← hW2]; exact VAt.made w6 N HNN.out
  have HV := hid hv
  have hb7 : Below w6.heap.size w6 W2 := by rw [← hW2]; exact (Below.refl _ _).alloc (Nat.le_refl _) _
  have HB7 := hid hb7
  clear hW2 hv hmk hb7
  go_loopw [8] (fun i wr => ∃ (k : Nat) (ss : List Slc), k ≤ N ∧ k ≤ O.length ∧ i = .int .i64 k ∧ (∀ i, i < k → (y0 O i).length ≤ 8) ∧ VAt w6.heap.size wr (.slice (some ⟨w6.heap.size, 0, none⟩) N N) ss ((List.range k).map (y0 O) ++ List.replicate (N - k) []) ∧ Below w6.heap.size w6 wr) (fun i _ => N - (intOf i).toNat)
  case atStart => exact ⟨0, _, Nat.zero_le _, Nat.zero_le _, rfl, fun i hi => by omega, HV.out, HB7.out⟩
  case round =>
    obtain ⟨k, ss, hk, hko, rfl, h8, hv, hbl⟩ := hrel
    obtain ⟨wo, hwo⟩ : ∃ wo, wo = wr := ⟨_, rfl⟩
    subst hwo
    have HVO := hid hv
    have HBL := hid hbl
    have H8 := hid h8
    have zg : w6.heap.size < wo.heap.size := (hv.own.lt _ rfl).2
    have zf := hv.frozen k
    have HLN := hid (show ((List.range k).map (y0 O) ++ List.replicate (N - k) []).length = N by simp; omega)
    clear hv hbl h8 HV HB7
    have HOO2 := hid (show Below w.heap.size w wo from bvia HB6.out HBL.out)
    by_cases hlk : k < N ∧ k < O.length
    · obtain ⟨hlt, hlo⟩ := hlk
      have hlt2 : (k : Int) < N := Int.ofNat_lt.2 hlt
      have hlo2 : (k : Int) < O.length := Int.ofNat_lt.2 hlo
      have hd1 : decide ((k : Int) < N) = true := decide_eq_true hlt2
      have hd2 : decide (k < N) = true := decide_eq_true hlt
      have hd3 : decide ((k : Int) < O.length) = true := decide_eq_true hlo2
      have hd4 : decide (k < O.length) = true := decide_eq_true hlo
      obtain ⟨o1, o2, o3, o4⟩ := HOO.out
      have e1 := o1 (by omega)
      have zo := o4 (by omega)
      subst e1
      have dO := (HOO2.out.cell (p := ⟨ob, _, none⟩) zo).trans (o2 k hlo)
      have HRO := hid (o3 k hlo)
      have HNK := hid ((HRO.out.open : _))
      have hnO : (nth O k).length ≤ 140737488355328 := by obtain ⟨_, _, _, _, _, _, _, _, _, _, _, h⟩ := HNK.out; exact h
      have HY := hid (show y0 O k = setL (nth O k) by unfold y0; rw [if_pos hlo])
      clear o1 o2 o3 o4 HNK
      by_cases h9 : 8 < (nth O k).length
      · have h92 : (8 : Int) < (nth O k).length := by omega
        go_wp2_with fail
        go_ret
        exact ⟨rfl, HOO2.out⟩
      · have h92 : ¬ (8 : Int) < (nth O k).length := by omega
        have HSL := hid (show (y0 O k).length ≤ 8 by rw [HY.out]; have := setL_length (nth O k); omega)
        go_wp2_with (
          go_at_call 20
          refine (rset_calls lo3 _ (nth O k) _ (HRO.out.below HOO2.out) (by omega)).mono ?_
          rintro e w8 ⟨v8, rfl, hi8, hb8⟩
          obtain ⟨a8, c8, _, _, rfl, _⟩ := IntsAt.open hi8
          have HI8 := hid hi8
          have HB8 := hid (bvia HBL.out hb8)
          have HV8 := hid (HVO.out.below hb8)
          have zg8 : w6.heap.size < w8.heap.size := Nat.lt_of_lt_of_le zg hb8.size
          have zf8 := HV8.out.frozen k
          have d8 := HV8.out.cell k (by rw [HLN.out]; exact hlt)
          clear hi8 hb8)
        have hput := HV8.out.put k ⟨a8, (setL (nth O k)).length, c8⟩ (setL (nth O k)) (by rw [HLN.out]; exact hlt) HI8.out (fun h0 q hq => by have := (HI8.out.blk h0 q hq).1; omega)
        rw [← HY.out, rmap_set _ _ _ _ hlt, HY.out] at hput
        exact ⟨⟨k + 1, _, by omega, by omega, by go_num, upto_succ H8.out HSL.out, hput, HB8.out.setCell (Nat.le_refl _) _⟩, by simp [intOf] <;> omega⟩
    · have HEND := hid (show k < N → O.length ≤ k by intro h; by_cases h2 : k < O.length; exact absurd ⟨h, h2⟩ hlk; omega)
      have HY8 := hid (y0_len O N k HEND.out H8.out)
      have HYL := hid (show LaysAt 0 wo (.slice (some ⟨w6.heap.size, 0, none⟩) N N) ((List.range N).map (y0 O)) by
        have h := HVO.out.lays (by rw [HLN.out]; have := HNN.out; omega)
        rw [y0_end O N k hk HEND.out] at h
        exact h)
      have hr := HR6.out.below HBL.out
      have HR7 := hid hr
      have c0 := hr.cell 0 _ rfl
      have c1 := hr.cell 1 _ rfl
      have c2 := hr.cell 2 _ rfl
      have s1 := hr.lt
      have HE7 := hid (HE6.out.below HBL.out)
      have HS7 := hid (HS6.out.keep (Keep.below HBL.out))
      have HX7 := hid (HX6.out.keep (Keep.below HBL.out))
      clear hr HVO HR6 HE6 HS6 HX6 zg zf HLN H8
      have hcs : (k : Int) < N ∨ ¬ (k : Int) < N := Classical.em _
      rcases hcs with hc1 | hc1
      all_goals
        first
          | (have hlt : k < N := by omega
             have hlo : ¬ (k : Int) < O.length := by have := HEND.out hlt; omega
             have hd1 : decide ((k : Int) < N) = true := decide_eq_true hc1
             have hd2 : decide (k < N) = true := decide_eq_true hlt
             have hd3 : decide ((k : Int) < O.length) = false := decide_eq_false hlo
             have hd4 : decide (k < O.length) = false := decide_eq_false (by omega))
          | (have hd1 : decide ((k : Int) < N) = false := decide_eq_false hc1
             have hd2 : decide (k < N) = false := decide_eq_false (by omega))
        clear hlk
        go_wp2_with fail
        refine Plan.wp_chain planLL16 wo.heap.size (by kernel_rfl) rfl (by kernel_rfl) (by kernel_rfl) ?_
        repeat (first | (apply Plan.chain_skip rfl rfl; simp only [Act.put, List.setIfInBounds_toArray, List.set_cons_zero, List.set_cons_succ]) | (apply Plan.chain_det rfl rfl; (· intro w' hb; obtain ⟨hcl, hfz⟩ := bcellB hb; go_simp; rfl); simp only [Act.put, List.setIfInBounds_toArray, List.set_cons_zero, List.set_cons_succ]))
        refine Plan.chain_call 21 #[.int .i64 N, vs, .slice (some ⟨w6.heap.size, 0, none⟩) N N] (fun v w' => LaysAt 0 w' v ((List.range N).map (joinAt S ((List.range N).map (y0 O)))) ∧ Below wo.heap.size wo w') rfl rfl rfl (by go_simp) ?_ (fun v w' h => h.2) (fun v10 w10 h => ?_)
        · have hd := (Below.refl wo.heap.size wo).drew
          refine (joined_calls lo2 0 vs _ N S ((List.range N).map (y0 O)) wo.drew (HS7.out.keep (Keep.below hd)) (HYL.out.keep (Keep.below hd)) (by simp) HNN.out (fun i hi => by have := HF.out.2.2.2.2 i hi; omega) (fun i hi => by rw [nth_rmap _ _ _ hi]; have := HY8.out i hi; omega)).mono ?_
          rintro e w' ⟨v', rfl, h1, hb⟩
          exact ⟨_, rfl, h1, bvia hd hb⟩
        obtain ⟨h10, hb10⟩ := h
        have HJ10 := hid h10
        have HB10 := hid hb10
        clear h10 hb10
        repeat (first | (apply Plan.chain_skip rfl rfl; simp only [Act.put, List.setIfInBounds_toArray, List.set_cons_zero, List.set_cons_succ]) | (apply Plan.chain_det rfl rfl; (· intro w' hb; obtain ⟨hcl, hfz⟩ := bcellB hb; go_simp; rfl); simp only [Act.put, List.setIfInBounds_toArray, List.set_cons_zero, List.set_cons_succ]))
        refine Plan.chain_call 16 #[.int .i64 N, ve, v10] (fun v w' => (∃ Y, IsMay N E ((List.range N).map (joinAt S ((List.range N).map (y0 O)))) Y ∧ LaysAt 0 w' v Y) ∧ Below wo.heap.size wo w') rfl rfl rfl (by go_simp) ?_ (fun v w' h => h.2) (fun v11 w11 h => ?_)
        · refine (rmay_calls lo1 0 ve v10 N E _ _ w10 (HE7.out.below HB10.out) HJ10.out (gok_of HF.out (by simp; have := HCONT.out; omega) (fun i hi => by
            have hi2 : i < N := by simpa using hi
            rw [nth_rmap _ _ _ hi2]
            exact joinAt_len HF.out i (by rw [nth_rmap _ _ _ hi2]; exact HY8.out i hi2))) hp).mono ?_
          rintro e w' ⟨v', Y, rfl, h1, h2, hb⟩
          exact ⟨_, rfl, ⟨Y, h1, h2⟩, bvia HB10.out hb⟩
        obtain ⟨⟨Y, hY, hy11⟩, hb11⟩ := h
        have HSUB := hid (least_in HXI.out hY)
        have HX11 := hid (HX7.out.keep (Keep.below hb11))
        have HB11 := hid (bvia HOO2.out hb11)
        obtain ⟨ya, yc, yb, yo, YS, rfl, y1, y2, y3, y4, _, y6, y7⟩ := hy11.open
        have HYO := hid (And.intro y1 (And.intro y2 (And.intro y3 y4)))
        have HYN := hid hY.len
        clear hY hy11 hb11 y1 y2 y3 y4 c0 c1 c2 s1 HR7 HE7 HS7 HX7 HJ10 HYL
        repeat (first | (apply Plan.chain_skip rfl rfl; simp only [Act.put, List.setIfInBounds_toArray, List.set_cons_zero, List.set_cons_succ]) | (apply Plan.chain_det rfl rfl; (· intro w' hb; obtain ⟨hcl, hfz⟩ := bcellB hb; go_simp; rfl); simp only [Act.put, List.setIfInBounds_toArray, List.set_cons_zero, List.set_cons_succ]))
        refine Plan.chain_nil ?_
        go_wp2_with fail
        go_loopw [9] (fun i wr => ∃ k : Nat, k ≤ N ∧ i = .int .i64 k ∧ Below w11.heap.size w11 wr) (fun i _ => N - (intOf i).toNat)
        case atStart => exact ⟨0, Nat.zero_le _, rfl, Below.refl _ _⟩
        case round =>
          obtain ⟨j, hj, rfl, hbl2⟩ := hrel
          obtain ⟨wi, hwi⟩ : ∃ wi, wi = wr := ⟨_, rfl⟩
          subst hwi
          have HBI := hid hbl2
          have HBI2 := hid (bvia HB11.out hbl2)
          clear hbl2
          by_cases hjn : j < N
          · have hjn2 : (j : Int) < N := Int.ofNat_lt.2 hjn
            obtain ⟨y1, y2, y3, y4⟩ := HYO.out
            have hjy : j < Y.length := by rw [HYN.out]; exact hjn
            have hjy2 : (j : Int) < Y.length := Int.ofNat_lt.2 hjy
            have e1 := y1 (by omega)
            have zy := y4 (by omega)
            subst e1
            have dy := (HBI.out.cell (p := ⟨yb, _, none⟩) zy).trans (y2 j hjy)
            have HRY := hid ((y3 j hjy).below HBI.out)
            obtain ⟨xa2, xc2, xb2, xo2, XS2, ex2, x1, x2, x3, x4, _, _, _⟩ := HX11.out.open
            obtain ⟨rfl, hxn, rfl⟩ := Value.slice.inj ex2
            clear hxn
            rw [HXL.out] at x1 x2 x3 x4
            have e2 := x1 (by omega)
            have zx := x4 (by omega)
            subst e2
            have dx := (HBI.out.cell (p := ⟨xb2, _, none⟩) zx).trans (x2 j hjn)
            have HRX := hid ((x3 j hjn).below HBI.out)
            have HXLE := hid (show (nth X j).length ≤ 100000 from Nat.le_trans (inc_sub_len (HXI.out.inc j) (HXU.out j)) (by have := HUU.out.u; omega))
            have HSB := hid (show subB (nth X j) (nth Y j) = true from (subB_iff _ _).2 (HSUB.out j))
            have zx2 : xb2 < wi.heap.size := Nat.lt_of_lt_of_le zx HBI.out.size
            have zy2 : yb < wi.heap.size := Nat.lt_of_lt_of_le zy HBI.out.size
            clear y1 y2 y3 y4 x1 x2 x3 x4 ex2
            go_wp2_with fail
            refine Plan.wp_chain planLL20 wi.heap.size (by kernel_rfl) rfl (by kernel_rfl) (by kernel_rfl) ?_
            repeat (first | (apply Plan.chain_skip rfl rfl; simp only [Act.put, List.setIfInBounds_toArray, List.set_cons_zero, List.set_cons_succ]) | (apply Plan.chain_det rfl rfl; (· intro w' hb; obtain ⟨hcl, hfz⟩ := bcellB hb; go_simp; rfl); simp only [Act.put, List.setIfInBounds_toArray, List.set_cons_zero, List.set_cons_succ]))
            refine Plan.chain_call 22 #[.slice (XS2 j).a (nth X j).length (XS2 j).c, .slice (YS j).a (nth Y j).length (YS j).c] (fun v w' => v = .bool true ∧ Below wi.heap.size wi w') rfl rfl rfl (by go_simp) ?_ (fun v w' h => h.2) (fun v12 w12 h => ?_)
            · have hd := (Below.refl wi.heap.size wi).drew
              refine (rsubset_calls 0 0 _ _ (nth X j) (nth Y j) wi.drew (HRX.out.below hd) (HRY.out.below hd) HXLE.out).mono ?_
              rintro e w' ⟨rfl, hb⟩
              rw [HSB.out]
              exact ⟨_, rfl, rfl, bvia hd hb⟩
            obtain ⟨rfl, hb12⟩ := h
            have HB12 := hid (bvia HBI.out hb12)
            clear hb12
            repeat (first | (apply Plan.chain_skip rfl rfl; simp only [Act.put, List.setIfInBounds_toArray, List.set_cons_zero, List.set_cons_succ]) | (apply Plan.chain_det rfl rfl; (· intro w' hb; obtain ⟨hcl, hfz⟩ := bcellB hb; go_simp; rfl); simp only [Act.put, List.setIfInBounds_toArray, List.set_cons_zero, List.set_cons_succ]))
            refine Plan.chain_nil ?_
            go_wp2_with fail
            exact ⟨⟨j + 1, by omega, by go_num, HB12.out⟩, by simp [intOf] <;> omega⟩
          · have hjn2 : ¬ (j : Int) < N := by omega
            go_wp2_with fail
            go_ret
            exact ⟨rfl, HBI2.out⟩

theorem lleast_calls (lo1 lo2 : Nat) (ve vs : Value) (N : Nat) (E : List Edg) (S : List (List Int)) (lo3 : Nat) (vo : Value) (O : List (List Int)) (w : World) (hN : N < 256) (hE0 : EdgesAt lo1 w ve E) (hS0 : LaysAt lo2 w vs S) (ho0 : LaysAt lo3 w vo O) :
    Calls Try.prog 5 #[.agg #[.int .u8 (N : Nat), ve, vs], vo] w fun e w' => e = .returned (.bool true) ∧ Below w.heap.size w w' := by
  by_cases h : N = 0 ∨ 10 < O.length
  · exact lleast_no lo1 lo2 ve vs N E S lo3 vo O w hN hE0 hS0 ho0 h
  · exact lleast_yes lo1 lo2 ve vs N E S lo3 vo O w hN hE0 hS0 ho0 (by omega) (by omega)

end Go.Proofs.Ytnbffkcnhphdnaa
