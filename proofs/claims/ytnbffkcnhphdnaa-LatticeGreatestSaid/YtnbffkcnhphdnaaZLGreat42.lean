/-
  The law LatticeGreatest, walked.
-/
import Derived.Test.YtnbffkcnhphdnaaZLLeast42
import Derived.Test.YtnbffkcnhphdnaaZLMust42
namespace Go.Proofs.Ytnbffkcnhphdnaa
set_option linter.unusedVariables false
set_option linter.unusedSimpArgs false
open Go.RowKit

/-- The start sets that the law makes. -/
def s0 (S L : List (List Int)) (all : List Int) (i : Nat) : List Int := if i < L.length then minusL (must0 S all i) (nth L i) else must0 S all i
theorem must0_len (S : List (List Int)) (all : List Int) (i : Nat) : (must0 S all i).length ≤ all.length := by
  unfold must0
  have := setL_length all
  split
  · exact Nat.le_trans (List.length_filter_le _ _) this
  · exact this
theorem s0_len (S L : List (List Int)) (all : List Int) (i : Nat) : (s0 S L all i).length ≤ all.length := by
  have := must0_len S all i
  unfold s0
  split
  · exact Nat.le_trans (List.length_filter_le _ _) this
  · exact this
theorem s0_sub (S L : List (List Int)) (all : List Int) (i : Nat) (r : Int) (h : r ∈ s0 S L all i) : r ∈ must0 S all i := by
  unfold s0 at h
  split at h
  · exact ((minusL_mem _ _ _).1 h).1
  · exact h
/-- A graph that is small, with greater start sets and a universe. -/
theorem gokA_of {N : Nat} {E : List Edg} {S T : List (List Int)} (all : List Int) (ha : all.length ≤ 8) (h : FewP N E S) (hT : T.length ≤ 10) (h20 : ∀ i, i < T.length → (nth T i).length ≤ 20) : GOk N E T (allU E T all) ∧ (∀ r ∈ all, r ∈ allU E T all) := by
  obtain ⟨h1, h2, h3, h4, h5⟩ := h
  have e1 := flat_le id 20 T fun i hi => h20 i hi
  have e2 := flat_le Edg.gen 6 E fun i hi => (h4 i hi).2
  refine ⟨⟨by omega, ⟨by omega, fun i hi => ⟨by have := (h4 i hi).1; omega, by have := (h4 i hi).2; omega⟩⟩, ?_, fun i hi => ⟨by have := h20 i hi; omega, fun r hr => ?_⟩, fun i hi r hr => ?_⟩, fun r hr => ?_⟩
  · unfold allU
    rw [List.length_append, List.length_append]
    omega
  · exact List.mem_append.2 (.inl (mem_flat id T i hi r hr))
  · exact List.mem_append.2 (.inr (List.mem_append.2 (.inl (mem_flat Edg.gen E i hi r hr))))
  · exact List.mem_append.2 (.inr (List.mem_append.2 (.inr hr)))
theorem greatest_in {N : Nat} {E : List Edg} {S X Y L : List (List Int)} {all : List Int} (hX : IsMust N E S all X) (hY : IsMust N E ((List.range N).map (s0 S L all)) all Y) : SubV Y X := by
  refine hX.greatest ?_
  intro i r hr
  rw [← hY.2] at hr
  rw [mustStep_nth] at hr ⊢
  split
  · rename_i hi
    rw [if_pos hi] at hr
    unfold mustAt at *
    rw [mustFold_mem] at *
    refine ⟨?_, hr.2⟩
    have h := hr.1
    unfold must0 at h
    rw [if_pos (by simpa using hi), nth_rmap _ _ _ hi, meetL_mem] at h
    exact s0_sub S L all i r h.2
  · rename_i hi
    rw [if_neg hi] at hr
    cases hr

noncomputable def planLG6 : Plan := mkPlan (regionOf Try.f6 6) [(3, .new), (7, .new)] []
noncomputable def planLG15 : Plan := mkPlan (regionOf Try.f6 15) [(11, .new), (13, .fin)] []
noncomputable def planLG19 : Plan := mkPlan (regionOf Try.f6 19) [(10, .new), (12, .fin)] []
noncomputable def planLG24 : Plan := mkPlan (regionOf Try.f6 24) [(8, .new)] []

set_option maxRecDepth 100000 in
set_option maxHeartbeats 8000000 in
theorem lgreat_no (lo1 lo2 : Nat) (ve vs : Value) (N : Nat) (E : List Edg) (S : List (List Int)) (lo4 : Nat) (va : Value) (all : List Int) (lo3 : Nat) (vo : Value) (L : List (List Int)) (w : World) (hN : N < 256) (hE0 : EdgesAt lo1 w ve E) (hS0 : LaysAt lo2 w vs S) (ha0 : IntsAt lo4 w va all) (ho0 : LaysAt lo3 w vo L) (hcase : N = 0 ∨ 8 < all.length ∨ 10 < L.length) :
    Calls Try.prog 6 #[.agg #[.int .u8 (N : Nat), ve, vs], va, vo] w fun e w' => e = .returned (.bool true) ∧ Below w.heap.size w w' := by
  have HE := hid hE0
  have HS := hid hS0
  have HA := hid ha0
  obtain ⟨aa, ac, ab, ao, rfl, _, _, _, _, _, am, an⟩ := ha0.open
  obtain ⟨oa, oc, ob, oo, OS, rfl, o1, o2, o3, o4, _, m9, n9⟩ := ho0.open
  have HOO := hid (And.intro o1 (And.intro o2 (And.intro o3 o4)))
  clear hE0 hS0 ha0 ho0 o1 o2 o3 o4
  have hwN : IntKind.i64.wrap (N : Int) = (N : Int) := IntWalk.i64_in _ (by omega)
  have hcs : ((N : Int) == 0) = true ∨ (((N : Int) == 0) = false ∧ (8 : Int) < all.length) ∨ (((N : Int) == 0) = false ∧ ¬ (8 : Int) < all.length ∧ (10 : Int) < L.length) := by
    simp only [beq_iff_eq, beq_eq_false_iff_ne]
    omega
  clear hcase
  rcases hcs with hn0 | ⟨hn0, hal⟩ | ⟨hn0, hal, hol⟩
  all_goals
    go_enter Try.func6, Try.ntmps6
    go_wp2_with fail
    generalize hW : World.alloc _ _ = W
    have hbW : Below w.heap.size w W := by rw [← hW]; exact (Below.refl _ _).alloc (Nat.le_refl _) _
    have R1 := hid (show BoxAt W w.heap.size 25 [.int .u8 (N : Nat), ve, vs] by rw [← hW]; exact BoxAt.new _ _ _ _ _ rfl rfl)
    have HBW := hid hbW
    clear hW hbW
    refine (awake42_calls W).mono ?_
    rintro e w1 ⟨rfl, hb1⟩
    have hr := R1.out.below hb1
    have HR1 := hid hr
    have c0 := hr.cell 0 _ rfl
    have c1 := hr.cell 1 _ rfl
    have c2 := hr.cell 2 _ rfl
    have s1 := hr.lt
    have HB1 := hid (bvia HBW.out hb1)
    clear hb1 hr R1
    go_wp2_with fail
    refine (few_calls lo1 lo2 ve vs N E S w1 (HE.out.below HB1.out) (HS.out.keep (Keep.below HB1.out)) hN).mono ?_
    rintro e w2 ⟨hq, hb2⟩
    have HB2 := hid (bvia HB1.out hb2)
    have hr := HR1.out.below hb2
    clear c0 c1 c2 s1
    have c0 := hr.cell 0 _ rfl
    have c1 := hr.cell 1 _ rfl
    have c2 := hr.cell 2 _ rfl
    have s1 := hr.lt
    have HR2 := hid hr
    clear hb2 hr HR1
    rcases hq with rfl | ⟨rfl, hf⟩
    · clear c0 c1 c2 s1
      go_wp2_with fail
      go_ret
      exact ⟨rfl, HB2.out⟩
    have HF := hid hf
    have HE2 := hid (HE.out.below HB2.out)
    have HS2 := hid (HS.out.keep (Keep.below HB2.out))
    have HA2 := hid (HA.out.below HB2.out)
    have HCONT := hid (show N ≤ 8 ∧ E.length ≤ 16 from ⟨hf.1, hf.2.1⟩)
    clear hf HE HS HA
    go_wp2_with fail
    go_ret
    exact ⟨rfl, HB2.out⟩

set_option maxRecDepth 100000 in
set_option maxHeartbeats 8000000 in
theorem lgreat_yes (lo1 lo2 : Nat) (ve vs : Value) (N : Nat) (E : List Edg) (S : List (List Int)) (lo4 : Nat) (va : Value) (all : List Int) (lo3 : Nat) (vo : Value) (L : List (List Int)) (w : World) (hN : N < 256) (hE0 : EdgesAt lo1 w ve E) (hS0 : LaysAt lo2 w vs S) (ha0 : IntsAt lo4 w va all) (ho0 : LaysAt lo3 w vo L) (hp : 1 ≤ N) (hal8 : all.length ≤ 8) (hol9 : L.length ≤ 10) :
    Calls Try.prog 6 #[.agg #[.int .u8 (N : Nat), ve, vs], va, vo] w fun e w' => e = .returned (.bool true) ∧ Below w.heap.size w w' := by
  have HE := hid hE0
  have HS := hid hS0
  have HA := hid ha0
  obtain ⟨aa, ac, ab, ao, rfl, _, _, _, _, _, am, an⟩ := ha0.open
  obtain ⟨oa, oc, ob, oo, OS, rfl, o1, o2, o3, o4, _, m9, n9⟩ := ho0.open
  have HOO := hid (And.intro o1 (And.intro o2 (And.intro o3 o4)))
  clear hE0 hS0 ha0 ho0 o1 o2 o3 o4
  have hwN : IntKind.i64.wrap (N : Int) = (N : Int) := IntWalk.i64_in _ (by omega)
  have hn0 : ((N : Int) == 0) = false := by simp; omega
  have hal : ¬ (8 : Int) < all.length := by omega
  have hol : ¬ (10 : Int) < L.length := by omega
  have HAL := hid hal8
  go_enter Try.func6, Try.ntmps6
  go_wp2_with fail
  generalize hW : World.alloc _ _ = W
  have hbW : Below w.heap.size w W := by rw [← hW]; exact (Below.refl _ _).alloc (Nat.le_refl _) _
  have R1 := hid (show BoxAt W w.heap.size 25 [.int .u8 (N : Nat), ve, vs] by rw [← hW]; exact BoxAt.new _ _ _ _ _ rfl rfl)
  have HBW := hid hbW
  clear hW hbW
  refine (awake42_calls W).mono ?_
  rintro e w1 ⟨rfl, hb1⟩
  have hr := R1.out.below hb1
  have HR1 := hid hr
  have c0 := hr.cell 0 _ rfl
  have c1 := hr.cell 1 _ rfl
  have c2 := hr.cell 2 _ rfl
  have s1 := hr.lt
  have HB1 := hid (bvia HBW.out hb1)
  clear hb1 hr R1
  go_wp2_with fail
  refine (few_calls lo1 lo2 ve vs N E S w1 (HE.out.below HB1.out) (HS.out.keep (Keep.below HB1.out)) hN).mono ?_
  rintro e w2 ⟨hq, hb2⟩
  have HB2 := hid (bvia HB1.out hb2)
  have hr := HR1.out.below hb2
  clear c0 c1 c2 s1
  have c0 := hr.cell 0 _ rfl
  have c1 := hr.cell 1 _ rfl
  have c2 := hr.cell 2 _ rfl
  have s1 := hr.lt
  have HR2 := hid hr
  clear hb2 hr HR1
  rcases hq with rfl | ⟨rfl, hf⟩
  · clear c0 c1 c2 s1
    go_wp2_with fail
    go_ret
    exact ⟨rfl, HB2.out⟩
  have HF := hid hf
  have HE2 := hid (HE.out.below HB2.out)
  have HS2 := hid (HS.out.keep (Keep.below HB2.out))
  have HA2 := hid (HA.out.below HB2.out)
  have HCONT := hid (show N ≤ 8 ∧ E.length ≤ 16 from ⟨hf.1, hf.2.1⟩)
  clear hf HE HS HA
  go_wp2_with fail

  refine Plan.wp_chain planLG6 w2.heap.size (by kernel_rfl) rfl (by kernel_rfl) (by kernel_rfl) ?_
  repeat (first | (apply Plan.chain_skip rfl rfl; simp only [Act.put, List.setIfInBounds_toArray, List.set_cons_zero, List.set_cons_succ]) | (apply Plan.chain_det rfl rfl; (· intro w' hb; obtain ⟨hcl, hfz⟩ := bcellB hb; go_simp; rfl); simp only [Act.put, List.setIfInBounds_toArray, List.set_cons_zero, List.set_cons_succ]))
  refine Plan.chain_call 14 #[ve] (fun v w' => EdgesAt 0 w' v E ∧ Below w2.heap.size w2 w') rfl rfl rfl (by go_simp) ?_ (fun v w' h => h.2) (fun v3 w3 h => ?_)
  · refine (own42_calls lo1 ve E w2.drew (HE2.out.below (Below.refl _ _).drew) (by have := HCONT.out; omega)).mono ?_
    rintro e w' ⟨v', rfl, h1, hb⟩
    exact ⟨v', rfl, h1, bvia (Below.refl _ _).drew hb⟩
  obtain ⟨h3, hb3⟩ := h
  have HE3 := hid h3
  have HB3 := hid hb3
  clear h3 hb3
  repeat (first | (apply Plan.chain_skip rfl rfl; simp only [Act.put, List.setIfInBounds_toArray, List.set_cons_zero, List.set_cons_succ]) | (apply Plan.chain_det rfl rfl; (· intro w' hb; obtain ⟨hcl, hfz⟩ := bcellB hb; go_simp; rfl); simp only [Act.put, List.setIfInBounds_toArray, List.set_cons_zero, List.set_cons_succ]))
  have HUU := hid (HF.out.ok all hal8)
  refine Plan.chain_call 17 #[.int .i64 N, v3, vs, .slice aa all.length ac] (fun v w' => (∃ X, IsMust N E S all X ∧ LaysAt 0 w' v X) ∧ Below w2.heap.size w2 w') rfl rfl rfl (by go_simp) ?_ (fun v w' h => h.2) (fun v4 w4 h => ?_)
  · refine (must_calls 0 lo2 lo4 v3 vs _ N E S all _ w3 HE3.out (HS2.out.keep (Keep.below HB3.out)) (HA2.out.below HB3.out) HUU.out.1 HUU.out.2 (by omega) hp).mono ?_
    rintro e w' ⟨v', X, rfl, h1, h2, hb⟩
    exact ⟨_, rfl, ⟨X, h1, h2⟩, bvia HB3.out hb⟩
  obtain ⟨⟨X, hX, hx4⟩, hb4⟩ := h
  have hr := HR2.out.below hb4
  have HXI := hid hX
  have HXL := hid hX.len
  obtain ⟨xa, xc, xb, xo, XS, rfl, _, _, _, _, _, x6, x7⟩ := hx4.open
  rw [hX.len] at hx4
  have HXN := hid hx4
  have hxl2 : ((N : Int) == N) = true := by simp
  have HE4 := hid (HE2.out.below hb4)
  have HS4 := hid (HS2.out.keep (Keep.below hb4))
  have HA4 := hid (HA2.out.below hb4)
  have HB4 := hid (bvia HB2.out hb4)
  clear c0 c1 c2 s1 hX hx4 hb4 HE2 HS2 HA2 HE3 HB3 HB2 HR2
  have c0 := hr.cell 0 _ rfl
  have c1 := hr.cell 1 _ rfl
  have c2 := hr.cell 2 _ rfl
  have s1 := hr.lt
  have HR4 := hid hr
  clear hr
  have HNN := hid (show N ≤ 1000 by have := HCONT.out; omega)
  have HXU := hid (show ∀ i r, r ∈ nth X i → r ∈ allU E S all by
    obtain ⟨⟨k, e⟩, _⟩ := HXI.out
    rw [e]
    exact fun i r hr => HUU.out.2 r (mustIter_in N E S all k i r hr))
  repeat (first | (apply Plan.chain_skip rfl rfl; simp only [Act.put, List.setIfInBounds_toArray, List.set_cons_zero, List.set_cons_succ]) | (apply Plan.chain_det rfl rfl; (· intro w' hb; obtain ⟨hcl, hfz⟩ := bcellB hb; go_simp; rfl); simp only [Act.put, List.setIfInBounds_toArray, List.set_cons_zero, List.set_cons_succ]))
  refine Plan.chain_nil ?_
  rw [HXL.out]
  go_wp2_with fail
  refine (rmuststep_calls lo1 lo2 0 lo4 ve vs _ _ N E S X all (allU E S all) w4 HE4.out HUU.out.1.e HS4.out HXN.out HA4.out (by omega) HXL.out HNN.out (by have := HUU.out.1.u; omega) HUU.out.2 HUU.out.1.g HXI.out.inc HXU.out).mono ?_
  rintro e w5 ⟨g5, s5, rfl, hv5, hb5⟩
  rw [HXI.out.2] at hv5
  have HV5 := hid (hv5.lays (by rw [HXL.out]; have := HNN.out; omega))
  have HX5 := hid (HXN.out.keep (Keep.below hb5))
  have HB5 := hid (bvia HB4.out hb5)
  have hr := HR4.out.below hb5
  have HE5 := hid (HE4.out.below hb5)
  have HS5 := hid (HS4.out.keep (Keep.below hb5))
  have HA5 := hid (HA4.out.below hb5)
  clear c0 c1 c2 s1 hv5 hb5 HR4 HE4 HS4 HA4 HB4
  have HR5 := hid hr
  clear hr
  go_wp2_with fail
  refine (sameall_calls 0 0 _ _ X X w5 HV5.out HX5.out).mono ?_
  rintro e w6 ⟨rfl, hb6⟩
  rw [show decide (X = X) = true from decide_eq_true rfl]
  have HB6 := hid (bvia HB5.out hb6)
  have hr := HR5.out.below hb6
  have HX6 := hid (HX5.out.keep (Keep.below hb6))
  have HE6 := hid (HE5.out.below hb6)
  have HS6 := hid (HS5.out.keep (Keep.below hb6))
  have HA6 := hid (HA5.out.below hb6)
  clear hb6 HV5 HX5 HR5 HB5 HE5 HS5 HA5
  have HR6 := hid hr
  clear hr
  have hmk := run_make_row' (P := Try.prog) 23 34 (.slice none 0 0) 24 Try.underlying23 infoRow42 rfl .i64 .i64 N (by omega) (by omega)
  go_wp2_with fail
  generalize hW2 : World.alloc _ _ = W2
  have hv := show VAt w6.heap.size W2 (.slice (some ⟨w6.heap.size, 0, none⟩) N N) (List.replicate N ⟨none, 0, 0⟩) (List.replicate N []) by rw [← hW2]; exact VAt.made w6 N HNN.out
  have HV := hid hv
  have hb7 : Below w6.heap.size w6 W2 := by rw [← hW2]; exact (Below.refl _ _).alloc (Nat.le_refl _) _
  have HB7 := hid hb7
  clear hW2 hv hmk hb7
  obtain ⟨sa, sc, sb, so, SS, rfl, p1, p2, p3, p4, _, _, _⟩ := HS6.out.open
  have HSO := hid (And.intro p1 (And.intro p2 (And.intro p3 p4)))
  clear p1 p2 p3 p4
  go_loopw [10] (fun i wr => ∃ (k : Nat) (ss : List Slc), k ≤ N ∧ i = .int .i64 k ∧ VAt w6.heap.size wr (.slice (some ⟨w6.heap.size, 0, none⟩) N N) ss ((List.range k).map (s0 S L all) ++ List.replicate (N - k) []) ∧ Below w6.heap.size w6 wr) (fun i _ => N - (intOf i).toNat)
  case atStart => exact ⟨0, _, Nat.zero_le _, rfl, HV.out, HB7.out⟩
  case round =>
    obtain ⟨k, ss, hk, rfl, hv, hbl⟩ := hrel
    obtain ⟨wo, hwo⟩ : ∃ wo, wo = wr := ⟨_, rfl⟩
    subst hwo
    have HVO := hid hv
    have HBL := hid hbl
    have zg : w6.heap.size < wo.heap.size := (hv.own.lt _ rfl).2
    have zf := hv.frozen k
    have HLN := hid (show ((List.range k).map (s0 S L all) ++ List.replicate (N - k) []).length = N by simp; omega)
    clear hv hbl HV HB7
    have HOO2 := hid (show Below w.heap.size w wo from bvia HB6.out HBL.out)
    by_cases hlt : k < N
    · have hlt2 : (k : Int) < N := Int.ofNat_lt.2 hlt
      have HSETL := hid (setL_length all)
      have HM0 := hid (must0_len S all k)
      by_cases hs : k < S.length
      · by_cases hl : k < L.length
        · skip
          have hs2 : (k : Int) < S.length := Int.ofNat_lt.2 hs
          obtain ⟨p1, p2, p3, p4⟩ := HSO.out
          have e2 := p1 (by omega)
          have zs := p4 (by omega)
          subst e2
          have HSC := hid (p2 k hs)
          have HRS := hid (p3 k hs)
          clear p1 p2 p3 p4

          have hl2 : (k : Int) < L.length := Int.ofNat_lt.2 hl
          obtain ⟨o1, o2, o3, o4⟩ := HOO.out
          have e1 := o1 (by omega)
          have zo := o4 (by omega)
          subst e1
          have HLC := hid (o2 k hl)
          have HRO := hid (o3 k hl)
          clear o1 o2 o3 o4
          by_cases h9 : 8 < (nth L k).length
          · have h92 : (8 : Int) < (nth L k).length := by omega
            go_wp2_with (
              go_at_call 20
              refine (rset_calls lo4 _ all _ (HA6.out.below HBL.out) (by have := HAL.out; omega)).mono ?_
              rintro e w8 ⟨v8, rfl, hi8, hb8⟩
              obtain ⟨a8, c8, _, _, rfl, _⟩ := IntsAt.open hi8
              have HI8 := hid hi8
              have HB8 := hid (bvia HBL.out hb8)
              have HV8 := hid (HVO.out.below hb8)
              have zg8 : w6.heap.size < w8.heap.size := Nat.lt_of_lt_of_le zg hb8.size
              have zf8 := HV8.out.frozen k
              have d8 := HV8.out.cell k (by rw [HLN.out]; exact hlt)
              have HB9 := hid (show Below w6.heap.size w6 (w8.setCell ⟨w6.heap.size, k, none⟩ (.slice a8 (setL all).length c8)) from HB8.out.setCell (Nat.le_refl _) _)
              have HR9 := hid (HR6.out.below HB9.out)
              have c2 := HR9.out.cell 2 _ rfl
              have s1 : w.heap.size < w8.heap.size := ((HR6.out.below HBL.out).below hb8).lt
              clear hi8 hb8)
            have HP1 := hid (HV8.out.put k ⟨a8, (setL all).length, c8⟩ (setL all) (by rw [HLN.out]; exact hlt) HI8.out (fun h0 q hq => by have := (HI8.out.blk h0 q hq).1; omega))

            obtain ⟨Wa, hWa⟩ : ∃ Wa, Wa = w8.setCell ⟨w6.heap.size, k, none⟩ (.slice a8 (setL all).length c8) := ⟨_, rfl⟩
            have HQa := hid (show VAt w6.heap.size Wa _ _ _ by rw [hWa]; exact HP1.out)
            have HCa := hid (show Below w6.heap.size w6 Wa by rw [hWa]; exact HB9.out)
            rw [← hWa]
            have zgWa : w6.heap.size < Wa.heap.size := (HQa.out.own.lt _ rfl).2
            have zfWa := HQa.out.frozen k
            have dWa := HQa.out.cell k (by rw [List.length_set, HLN.out]; exact hlt)
            rw [nth_setV _ _ _ _ (by have := HQa.out.len; rw [List.length_set, List.length_set, HLN.out] at this; omega), if_pos rfl, nth_setV _ _ _ _ (by rw [HLN.out]; exact hlt), if_pos rfl] at dWa
            dsimp only at dWa
            have HRWa := hid (HR6.out.below HCa.out)
            have cWa := HRWa.out.cell 2 _ rfl
            have sWa := HRWa.out.lt
            have dOa : Wa.cell? ⟨sb, so + k, none⟩ = _ := (HCa.out.cell (p := ⟨sb, _, none⟩) zs).trans HSC.out
            have zOa : sb < Wa.heap.size := Nat.lt_of_lt_of_le zs HCa.out.size
            have HRYa := hid (HRS.out.below HCa.out)
            refine Plan.wp_chain planLG15 Wa.heap.size (by kernel_rfl) rfl (by kernel_rfl) (by kernel_rfl) ?_
            clear hWa
            repeat (first | (apply Plan.chain_skip rfl rfl; simp only [Act.put, List.setIfInBounds_toArray, List.set_cons_zero, List.set_cons_succ]) | (apply Plan.chain_det rfl rfl; (· intro w' hb; obtain ⟨hcl, hfz⟩ := bcellB hb; go_simp; rfl); simp only [Act.put, List.setIfInBounds_toArray, List.set_cons_zero, List.set_cons_succ]))
            refine Plan.chain_call 24 #[.slice a8 (setL all).length c8, .slice (SS k).a (nth S k).length (SS k).c] (fun v w' => IntsAt Wa.heap.size w' v (meetL (setL all) (nth S k)) ∧ Below Wa.heap.size Wa w') rfl rfl rfl (by go_simp) ?_ (fun v w' h => h.2) (fun v9a w9a h => ?_)
            · have hd := (Below.refl Wa.heap.size Wa).drew
              have hx := HQa.out.ints k (by rw [List.length_set, HLN.out]; exact hlt)
              rw [nth_setV _ _ _ _ (by have := HQa.out.len; rw [List.length_set, List.length_set, HLN.out] at this; omega), if_pos rfl, nth_setV _ _ _ _ (by rw [HLN.out]; exact hlt), if_pos rfl] at hx
              refine (rmeet_calls 0 _ _ _ (setL all) (nth S k) Wa.drew (hx.below hd) (HRYa.out.below hd) (by have := HSETL.out; have := HM0.out; have := HAL.out; omega)).mono ?_
              rintro e w' ⟨v', rfl, hi, hb⟩
              exact ⟨_, rfl, hi, bvia hd hb⟩
            obtain ⟨hi9, hb9⟩ := h
            obtain ⟨a9a, c9a, _, _, rfl, _⟩ := IntsAt.open hi9
            have HI9a := hid hi9
            have HB9a := hid (bvia HCa.out hb9)
            have HV9a := hid (HQa.out.below hb9)
            have zg9a : w6.heap.size < w9a.heap.size := Nat.lt_of_lt_of_le zgWa hb9.size
            have zf9a := HV9a.out.frozen k
            have d9a := HV9a.out.cell k (by rw [List.length_set, HLN.out]; exact hlt)
            clear hi9 hb9
            repeat (first | (apply Plan.chain_skip rfl rfl; simp only [Act.put, List.setIfInBounds_toArray, List.set_cons_zero, List.set_cons_succ]) | (apply Plan.chain_det rfl rfl; (· intro w' hb; obtain ⟨hcl, hfz⟩ := bcellB hb; go_simp; rfl); simp only [Act.put, List.setIfInBounds_toArray, List.set_cons_zero, List.set_cons_succ]))
            refine Plan.chain_fin rfl rfl ?_
            have hput := HV9a.out.put k ⟨a9a, (meetL (setL all) (nth S k)).length, c9a⟩ (meetL (setL all) (nth S k)) (by rw [List.length_set, HLN.out]; exact hlt) HI9a.out (fun h0 q hq => by have := (HI9a.out.blk h0 q hq).1; omega)
            rw [List.set_set, List.set_set] at hput
            rw [show meetL (setL all) (nth S k) = must0 S all k by unfold must0; rw [if_pos hs]] at hput HI9a
            rw [show meetL (setL all) (nth S k) = must0 S all k by unfold must0; rw [if_pos hs]]
            have HP2a := hid hput
            have HBFa := hid (show Below w6.heap.size w6 (w9a.setCell ⟨w6.heap.size, k, none⟩ (.slice a9a (must0 S all k).length c9a)) from HB9a.out.setCell (Nat.le_refl _) _)
            clear hput
            have dLb : (w9a.setCell ⟨w6.heap.size, k, none⟩ (.slice a9a (must0 S all k).length c9a)).cell? ⟨ob, oo + k, none⟩ = _ := ((bvia HB6.out HBFa.out).cell (p := ⟨ob, _, none⟩) zo).trans HLC.out
            have zLb : ob < w9a.heap.size := Nat.lt_of_lt_of_le zo (bvia HB6.out HB9a.out).size
            go_wp2_with fail
            go_ret
            exact ⟨rfl, bvia HB6.out HBFa.out⟩
          · have h92 : ¬ (8 : Int) < (nth L k).length := by omega
            go_wp2_with (
              go_at_call 20
              refine (rset_calls lo4 _ all _ (HA6.out.below HBL.out) (by have := HAL.out; omega)).mono ?_
              rintro e w8 ⟨v8, rfl, hi8, hb8⟩
              obtain ⟨a8, c8, _, _, rfl, _⟩ := IntsAt.open hi8
              have HI8 := hid hi8
              have HB8 := hid (bvia HBL.out hb8)
              have HV8 := hid (HVO.out.below hb8)
              have zg8 : w6.heap.size < w8.heap.size := Nat.lt_of_lt_of_le zg hb8.size
              have zf8 := HV8.out.frozen k
              have d8 := HV8.out.cell k (by rw [HLN.out]; exact hlt)
              have HB9 := hid (show Below w6.heap.size w6 (w8.setCell ⟨w6.heap.size, k, none⟩ (.slice a8 (setL all).length c8)) from HB8.out.setCell (Nat.le_refl _) _)
              have HR9 := hid (HR6.out.below HB9.out)
              have c2 := HR9.out.cell 2 _ rfl
              have s1 : w.heap.size < w8.heap.size := ((HR6.out.below HBL.out).below hb8).lt
              clear hi8 hb8)
            have HP1 := hid (HV8.out.put k ⟨a8, (setL all).length, c8⟩ (setL all) (by rw [HLN.out]; exact hlt) HI8.out (fun h0 q hq => by have := (HI8.out.blk h0 q hq).1; omega))

            obtain ⟨Wa, hWa⟩ : ∃ Wa, Wa = w8.setCell ⟨w6.heap.size, k, none⟩ (.slice a8 (setL all).length c8) := ⟨_, rfl⟩
            have HQa := hid (show VAt w6.heap.size Wa _ _ _ by rw [hWa]; exact HP1.out)
            have HCa := hid (show Below w6.heap.size w6 Wa by rw [hWa]; exact HB9.out)
            rw [← hWa]
            have zgWa : w6.heap.size < Wa.heap.size := (HQa.out.own.lt _ rfl).2
            have zfWa := HQa.out.frozen k
            have dWa := HQa.out.cell k (by rw [List.length_set, HLN.out]; exact hlt)
            rw [nth_setV _ _ _ _ (by have := HQa.out.len; rw [List.length_set, List.length_set, HLN.out] at this; omega), if_pos rfl, nth_setV _ _ _ _ (by rw [HLN.out]; exact hlt), if_pos rfl] at dWa
            dsimp only at dWa
            have HRWa := hid (HR6.out.below HCa.out)
            have cWa := HRWa.out.cell 2 _ rfl
            have sWa := HRWa.out.lt
            have dOa : Wa.cell? ⟨sb, so + k, none⟩ = _ := (HCa.out.cell (p := ⟨sb, _, none⟩) zs).trans HSC.out
            have zOa : sb < Wa.heap.size := Nat.lt_of_lt_of_le zs HCa.out.size
            have HRYa := hid (HRS.out.below HCa.out)
            refine Plan.wp_chain planLG15 Wa.heap.size (by kernel_rfl) rfl (by kernel_rfl) (by kernel_rfl) ?_
            clear hWa
            repeat (first | (apply Plan.chain_skip rfl rfl; simp only [Act.put, List.setIfInBounds_toArray, List.set_cons_zero, List.set_cons_succ]) | (apply Plan.chain_det rfl rfl; (· intro w' hb; obtain ⟨hcl, hfz⟩ := bcellB hb; go_simp; rfl); simp only [Act.put, List.setIfInBounds_toArray, List.set_cons_zero, List.set_cons_succ]))
            refine Plan.chain_call 24 #[.slice a8 (setL all).length c8, .slice (SS k).a (nth S k).length (SS k).c] (fun v w' => IntsAt Wa.heap.size w' v (meetL (setL all) (nth S k)) ∧ Below Wa.heap.size Wa w') rfl rfl rfl (by go_simp) ?_ (fun v w' h => h.2) (fun v9a w9a h => ?_)
            · have hd := (Below.refl Wa.heap.size Wa).drew
              have hx := HQa.out.ints k (by rw [List.length_set, HLN.out]; exact hlt)
              rw [nth_setV _ _ _ _ (by have := HQa.out.len; rw [List.length_set, List.length_set, HLN.out] at this; omega), if_pos rfl, nth_setV _ _ _ _ (by rw [HLN.out]; exact hlt), if_pos rfl] at hx
              refine (rmeet_calls 0 _ _ _ (setL all) (nth S k) Wa.drew (hx.below hd) (HRYa.out.below hd) (by have := HSETL.out; have := HM0.out; have := HAL.out; omega)).mono ?_
              rintro e w' ⟨v', rfl, hi, hb⟩
              exact ⟨_, rfl, hi, bvia hd hb⟩
            obtain ⟨hi9, hb9⟩ := h
            obtain ⟨a9a, c9a, _, _, rfl, _⟩ := IntsAt.open hi9
            have HI9a := hid hi9
            have HB9a := hid (bvia HCa.out hb9)
            have HV9a := hid (HQa.out.below hb9)
            have zg9a : w6.heap.size < w9a.heap.size := Nat.lt_of_lt_of_le zgWa hb9.size
            have zf9a := HV9a.out.frozen k
            have d9a := HV9a.out.cell k (by rw [List.length_set, HLN.out]; exact hlt)
            clear hi9 hb9
            repeat (first | (apply Plan.chain_skip rfl rfl; simp only [Act.put, List.setIfInBounds_toArray, List.set_cons_zero, List.set_cons_succ]) | (apply Plan.chain_det rfl rfl; (· intro w' hb; obtain ⟨hcl, hfz⟩ := bcellB hb; go_simp; rfl); simp only [Act.put, List.setIfInBounds_toArray, List.set_cons_zero, List.set_cons_succ]))
            refine Plan.chain_fin rfl rfl ?_
            have hput := HV9a.out.put k ⟨a9a, (meetL (setL all) (nth S k)).length, c9a⟩ (meetL (setL all) (nth S k)) (by rw [List.length_set, HLN.out]; exact hlt) HI9a.out (fun h0 q hq => by have := (HI9a.out.blk h0 q hq).1; omega)
            rw [List.set_set, List.set_set] at hput
            rw [show meetL (setL all) (nth S k) = must0 S all k by unfold must0; rw [if_pos hs]] at hput HI9a
            rw [show meetL (setL all) (nth S k) = must0 S all k by unfold must0; rw [if_pos hs]]
            have HP2a := hid hput
            have HBFa := hid (show Below w6.heap.size w6 (w9a.setCell ⟨w6.heap.size, k, none⟩ (.slice a9a (must0 S all k).length c9a)) from HB9a.out.setCell (Nat.le_refl _) _)
            clear hput
            have dLb : (w9a.setCell ⟨w6.heap.size, k, none⟩ (.slice a9a (must0 S all k).length c9a)).cell? ⟨ob, oo + k, none⟩ = _ := ((bvia HB6.out HBFa.out).cell (p := ⟨ob, _, none⟩) zo).trans HLC.out
            have zLb : ob < w9a.heap.size := Nat.lt_of_lt_of_le zo (bvia HB6.out HB9a.out).size
            go_wp2_with fail

            obtain ⟨Wb, hWb⟩ : ∃ Wb, Wb = w9a.setCell ⟨w6.heap.size, k, none⟩ (.slice a9a (must0 S all k).length c9a) := ⟨_, rfl⟩
            have HQb := hid (show VAt w6.heap.size Wb _ _ _ by rw [hWb]; exact HP2a.out)
            have HCb := hid (show Below w6.heap.size w6 Wb by rw [hWb]; exact HBFa.out)
            rw [← hWb]
            have zgWb : w6.heap.size < Wb.heap.size := (HQb.out.own.lt _ rfl).2
            have zfWb := HQb.out.frozen k
            have dWb := HQb.out.cell k (by rw [List.length_set, HLN.out]; exact hlt)
            rw [nth_setV _ _ _ _ (by have := HQb.out.len; rw [List.length_set, List.length_set, HLN.out] at this; omega), if_pos rfl, nth_setV _ _ _ _ (by rw [HLN.out]; exact hlt), if_pos rfl] at dWb
            dsimp only at dWb
            have HRWb := hid (HR6.out.below HCb.out)
            have cWb := HRWb.out.cell 2 _ rfl
            have sWb := HRWb.out.lt
            have dOb : Wb.cell? ⟨ob, oo + k, none⟩ = _ := ((bvia HB6.out HCb.out).cell (p := ⟨ob, _, none⟩) zo).trans HLC.out
            have zOb : ob < Wb.heap.size := Nat.lt_of_lt_of_le zo (bvia HB6.out HCb.out).size
            have HRYb := hid (HRO.out.below (bvia HB6.out HCb.out))
            refine Plan.wp_chain planLG19 Wb.heap.size (by kernel_rfl) rfl (by kernel_rfl) (by kernel_rfl) ?_
            clear hWb
            repeat (first | (apply Plan.chain_skip rfl rfl; simp only [Act.put, List.setIfInBounds_toArray, List.set_cons_zero, List.set_cons_succ]) | (apply Plan.chain_det rfl rfl; (· intro w' hb; obtain ⟨hcl, hfz⟩ := bcellB hb; go_simp; rfl); simp only [Act.put, List.setIfInBounds_toArray, List.set_cons_zero, List.set_cons_succ]))
            refine Plan.chain_call 25 #[.slice a9a (must0 S all k).length c9a, .slice (OS k).a (nth L k).length (OS k).c] (fun v w' => IntsAt Wb.heap.size w' v (minusL (must0 S all k) (nth L k)) ∧ Below Wb.heap.size Wb w') rfl rfl rfl (by go_simp) ?_ (fun v w' h => h.2) (fun v9b w9b h => ?_)
            · have hd := (Below.refl Wb.heap.size Wb).drew
              have hx := HQb.out.ints k (by rw [List.length_set, HLN.out]; exact hlt)
              rw [nth_setV _ _ _ _ (by have := HQb.out.len; rw [List.length_set, List.length_set, HLN.out] at this; omega), if_pos rfl, nth_setV _ _ _ _ (by rw [HLN.out]; exact hlt), if_pos rfl] at hx
              refine (rminus_calls 0 _ _ _ (must0 S all k) (nth L k) Wb.drew (hx.below hd) (HRYb.out.below hd) (by have := HSETL.out; have := HM0.out; have := HAL.out; omega)).mono ?_
              rintro e w' ⟨v', rfl, hi, hb⟩
              exact ⟨_, rfl, hi, bvia hd hb⟩
            obtain ⟨hi9, hb9⟩ := h
            obtain ⟨a9b, c9b, _, _, rfl, _⟩ := IntsAt.open hi9
            have HI9b := hid hi9
            have HB9b := hid (bvia HCb.out hb9)
            have HV9b := hid (HQb.out.below hb9)
            have zg9b : w6.heap.size < w9b.heap.size := Nat.lt_of_lt_of_le zgWb hb9.size
            have zf9b := HV9b.out.frozen k
            have d9b := HV9b.out.cell k (by rw [List.length_set, HLN.out]; exact hlt)
            clear hi9 hb9
            repeat (first | (apply Plan.chain_skip rfl rfl; simp only [Act.put, List.setIfInBounds_toArray, List.set_cons_zero, List.set_cons_succ]) | (apply Plan.chain_det rfl rfl; (· intro w' hb; obtain ⟨hcl, hfz⟩ := bcellB hb; go_simp; rfl); simp only [Act.put, List.setIfInBounds_toArray, List.set_cons_zero, List.set_cons_succ]))
            refine Plan.chain_fin rfl rfl ?_
            have hput := HV9b.out.put k ⟨a9b, (minusL (must0 S all k) (nth L k)).length, c9b⟩ (minusL (must0 S all k) (nth L k)) (by rw [List.length_set, HLN.out]; exact hlt) HI9b.out (fun h0 q hq => by have := (HI9b.out.blk h0 q hq).1; omega)
            rw [List.set_set, List.set_set] at hput
            rw [show minusL (must0 S all k) (nth L k) = s0 S L all k by unfold s0; rw [if_pos hl]] at hput HI9b
            rw [show minusL (must0 S all k) (nth L k) = s0 S L all k by unfold s0; rw [if_pos hl]]
            have HP2b := hid hput
            have HBFb := hid (show Below w6.heap.size w6 (w9b.setCell ⟨w6.heap.size, k, none⟩ (.slice a9b (s0 S L all k).length c9b)) from HB9b.out.setCell (Nat.le_refl _) _)
            clear hput
            go_wp2_with fail

            have hput := HP2b.out
            rw [rmap_set _ _ _ _ hlt] at hput
            exact ⟨⟨k + 1, _, by omega, by go_num, hput, HBFb.out⟩, by simp [intOf] <;> omega⟩
        · skip
          have hs2 : (k : Int) < S.length := Int.ofNat_lt.2 hs
          obtain ⟨p1, p2, p3, p4⟩ := HSO.out
          have e2 := p1 (by omega)
          have zs := p4 (by omega)
          subst e2
          have HSC := hid (p2 k hs)
          have HRS := hid (p3 k hs)
          clear p1 p2 p3 p4
          have hl2 : ¬ (k : Int) < L.length := by omega
          have HS0 := hid (show must0 S all k = s0 S L all k by unfold s0; rw [if_neg hl])

          go_wp2_with (
            go_at_call 20
            refine (rset_calls lo4 _ all _ (HA6.out.below HBL.out) (by have := HAL.out; omega)).mono ?_
            rintro e w8 ⟨v8, rfl, hi8, hb8⟩
            obtain ⟨a8, c8, _, _, rfl, _⟩ := IntsAt.open hi8
            have HI8 := hid hi8
            have HB8 := hid (bvia HBL.out hb8)
            have HV8 := hid (HVO.out.below hb8)
            have zg8 : w6.heap.size < w8.heap.size := Nat.lt_of_lt_of_le zg hb8.size
            have zf8 := HV8.out.frozen k
            have d8 := HV8.out.cell k (by rw [HLN.out]; exact hlt)
            have HB9 := hid (show Below w6.heap.size w6 (w8.setCell ⟨w6.heap.size, k, none⟩ (.slice a8 (setL all).length c8)) from HB8.out.setCell (Nat.le_refl _) _)
            have HR9 := hid (HR6.out.below HB9.out)
            have c2 := HR9.out.cell 2 _ rfl
            have s1 : w.heap.size < w8.heap.size := ((HR6.out.below HBL.out).below hb8).lt
            clear hi8 hb8)
          have HP1 := hid (HV8.out.put k ⟨a8, (setL all).length, c8⟩ (setL all) (by rw [HLN.out]; exact hlt) HI8.out (fun h0 q hq => by have := (HI8.out.blk h0 q hq).1; omega))

          obtain ⟨Wa, hWa⟩ : ∃ Wa, Wa = w8.setCell ⟨w6.heap.size, k, none⟩ (.slice a8 (setL all).length c8) := ⟨_, rfl⟩
          have HQa := hid (show VAt w6.heap.size Wa _ _ _ by rw [hWa]; exact HP1.out)
          have HCa := hid (show Below w6.heap.size w6 Wa by rw [hWa]; exact HB9.out)
          rw [← hWa]
          have zgWa : w6.heap.size < Wa.heap.size := (HQa.out.own.lt _ rfl).2
          have zfWa := HQa.out.frozen k
          have dWa := HQa.out.cell k (by rw [List.length_set, HLN.out]; exact hlt)
          rw [nth_setV _ _ _ _ (by have := HQa.out.len; rw [List.length_set, List.length_set, HLN.out] at this; omega), if_pos rfl, nth_setV _ _ _ _ (by rw [HLN.out]; exact hlt), if_pos rfl] at dWa
          dsimp only at dWa
          have HRWa := hid (HR6.out.below HCa.out)
          have cWa := HRWa.out.cell 2 _ rfl
          have sWa := HRWa.out.lt
          have dOa : Wa.cell? ⟨sb, so + k, none⟩ = _ := (HCa.out.cell (p := ⟨sb, _, none⟩) zs).trans HSC.out
          have zOa : sb < Wa.heap.size := Nat.lt_of_lt_of_le zs HCa.out.size
          have HRYa := hid (HRS.out.below HCa.out)
          refine Plan.wp_chain planLG15 Wa.heap.size (by kernel_rfl) rfl (by kernel_rfl) (by kernel_rfl) ?_
          clear hWa
          repeat (first | (apply Plan.chain_skip rfl rfl; simp only [Act.put, List.setIfInBounds_toArray, List.set_cons_zero, List.set_cons_succ]) | (apply Plan.chain_det rfl rfl; (· intro w' hb; obtain ⟨hcl, hfz⟩ := bcellB hb; go_simp; rfl); simp only [Act.put, List.setIfInBounds_toArray, List.set_cons_zero, List.set_cons_succ]))
          refine Plan.chain_call 24 #[.slice a8 (setL all).length c8, .slice (SS k).a (nth S k).length (SS k).c] (fun v w' => IntsAt Wa.heap.size w' v (meetL (setL all) (nth S k)) ∧ Below Wa.heap.size Wa w') rfl rfl rfl (by go_simp) ?_ (fun v w' h => h.2) (fun v9a w9a h => ?_)
          · have hd := (Below.refl Wa.heap.size Wa).drew
            have hx := HQa.out.ints k (by rw [List.length_set, HLN.out]; exact hlt)
            rw [nth_setV _ _ _ _ (by have := HQa.out.len; rw [List.length_set, List.length_set, HLN.out] at this; omega), if_pos rfl, nth_setV _ _ _ _ (by rw [HLN.out]; exact hlt), if_pos rfl] at hx
            refine (rmeet_calls 0 _ _ _ (setL all) (nth S k) Wa.drew (hx.below hd) (HRYa.out.below hd) (by have := HSETL.out; have := HM0.out; have := HAL.out; omega)).mono ?_
            rintro e w' ⟨v', rfl, hi, hb⟩
            exact ⟨_, rfl, hi, bvia hd hb⟩
          obtain ⟨hi9, hb9⟩ := h
          obtain ⟨a9a, c9a, _, _, rfl, _⟩ := IntsAt.open hi9
          have HI9a := hid hi9
          have HB9a := hid (bvia HCa.out hb9)
          have HV9a := hid (HQa.out.below hb9)
          have zg9a : w6.heap.size < w9a.heap.size := Nat.lt_of_lt_of_le zgWa hb9.size
          have zf9a := HV9a.out.frozen k
          have d9a := HV9a.out.cell k (by rw [List.length_set, HLN.out]; exact hlt)
          clear hi9 hb9
          repeat (first | (apply Plan.chain_skip rfl rfl; simp only [Act.put, List.setIfInBounds_toArray, List.set_cons_zero, List.set_cons_succ]) | (apply Plan.chain_det rfl rfl; (· intro w' hb; obtain ⟨hcl, hfz⟩ := bcellB hb; go_simp; rfl); simp only [Act.put, List.setIfInBounds_toArray, List.set_cons_zero, List.set_cons_succ]))
          refine Plan.chain_fin rfl rfl ?_
          have hput := HV9a.out.put k ⟨a9a, (meetL (setL all) (nth S k)).length, c9a⟩ (meetL (setL all) (nth S k)) (by rw [List.length_set, HLN.out]; exact hlt) HI9a.out (fun h0 q hq => by have := (HI9a.out.blk h0 q hq).1; omega)
          rw [List.set_set, List.set_set] at hput
          rw [show meetL (setL all) (nth S k) = must0 S all k by unfold must0; rw [if_pos hs]] at hput HI9a
          rw [show meetL (setL all) (nth S k) = must0 S all k by unfold must0; rw [if_pos hs]]
          have HP2a := hid hput
          have HBFa := hid (show Below w6.heap.size w6 (w9a.setCell ⟨w6.heap.size, k, none⟩ (.slice a9a (must0 S all k).length c9a)) from HB9a.out.setCell (Nat.le_refl _) _)
          clear hput
          go_wp2_with fail

          have hput := HP2a.out
          rw [HS0.out, rmap_set _ _ _ _ hlt, ← HS0.out] at hput
          exact ⟨⟨k + 1, _, by omega, by go_num, hput, HBFa.out⟩, by simp [intOf] <;> omega⟩
      · by_cases hl : k < L.length
        · skip
          have hs2 : ¬ (k : Int) < S.length := by omega
          have HM := hid (show setL all = must0 S all k by unfold must0; rw [if_neg hs])

          have hl2 : (k : Int) < L.length := Int.ofNat_lt.2 hl
          obtain ⟨o1, o2, o3, o4⟩ := HOO.out
          have e1 := o1 (by omega)
          have zo := o4 (by omega)
          subst e1
          have HLC := hid (o2 k hl)
          have HRO := hid (o3 k hl)
          clear o1 o2 o3 o4
          by_cases h9 : 8 < (nth L k).length
          · have h92 : (8 : Int) < (nth L k).length := by omega
            go_wp2_with (
              go_at_call 20
              refine (rset_calls lo4 _ all _ (HA6.out.below HBL.out) (by have := HAL.out; omega)).mono ?_
              rintro e w8 ⟨v8, rfl, hi8, hb8⟩
              obtain ⟨a8, c8, _, _, rfl, _⟩ := IntsAt.open hi8
              have HI8 := hid hi8
              have HB8 := hid (bvia HBL.out hb8)
              have HV8 := hid (HVO.out.below hb8)
              have zg8 : w6.heap.size < w8.heap.size := Nat.lt_of_lt_of_le zg hb8.size
              have zf8 := HV8.out.frozen k
              have d8 := HV8.out.cell k (by rw [HLN.out]; exact hlt)
              have HB9 := hid (show Below w6.heap.size w6 (w8.setCell ⟨w6.heap.size, k, none⟩ (.slice a8 (setL all).length c8)) from HB8.out.setCell (Nat.le_refl _) _)
              have HR9 := hid (HR6.out.below HB9.out)
              have c2 := HR9.out.cell 2 _ rfl
              have s1 : w.heap.size < w8.heap.size := ((HR6.out.below HBL.out).below hb8).lt
              have dL : (w8.setCell ⟨w6.heap.size, k, none⟩ (.slice a8 (setL all).length c8)).cell? ⟨ob, oo + k, none⟩ = _ := ((bvia HB6.out HB9.out).cell (p := ⟨ob, _, none⟩) zo).trans HLC.out
              have zL : ob < w8.heap.size := Nat.lt_of_lt_of_le zo (by have := (bvia HB6.out HB8.out).size; exact this)
              clear hi8 hb8)
            have HP1 := hid (HV8.out.put k ⟨a8, (setL all).length, c8⟩ (setL all) (by rw [HLN.out]; exact hlt) HI8.out (fun h0 q hq => by have := (HI8.out.blk h0 q hq).1; omega))
            go_ret
            exact ⟨rfl, bvia HB6.out HB9.out⟩
          · have h92 : ¬ (8 : Int) < (nth L k).length := by omega
            go_wp2_with (
              go_at_call 20
              refine (rset_calls lo4 _ all _ (HA6.out.below HBL.out) (by have := HAL.out; omega)).mono ?_
              rintro e w8 ⟨v8, rfl, hi8, hb8⟩
              obtain ⟨a8, c8, _, _, rfl, _⟩ := IntsAt.open hi8
              have HI8 := hid hi8
              have HB8 := hid (bvia HBL.out hb8)
              have HV8 := hid (HVO.out.below hb8)
              have zg8 : w6.heap.size < w8.heap.size := Nat.lt_of_lt_of_le zg hb8.size
              have zf8 := HV8.out.frozen k
              have d8 := HV8.out.cell k (by rw [HLN.out]; exact hlt)
              have HB9 := hid (show Below w6.heap.size w6 (w8.setCell ⟨w6.heap.size, k, none⟩ (.slice a8 (setL all).length c8)) from HB8.out.setCell (Nat.le_refl _) _)
              have HR9 := hid (HR6.out.below HB9.out)
              have c2 := HR9.out.cell 2 _ rfl
              have s1 : w.heap.size < w8.heap.size := ((HR6.out.below HBL.out).below hb8).lt
              have dL : (w8.setCell ⟨w6.heap.size, k, none⟩ (.slice a8 (setL all).length c8)).cell? ⟨ob, oo + k, none⟩ = _ := ((bvia HB6.out HB9.out).cell (p := ⟨ob, _, none⟩) zo).trans HLC.out
              have zL : ob < w8.heap.size := Nat.lt_of_lt_of_le zo (by have := (bvia HB6.out HB8.out).size; exact this)
              clear hi8 hb8)
            have HP1 := hid (HV8.out.put k ⟨a8, (setL all).length, c8⟩ (setL all) (by rw [HLN.out]; exact hlt) HI8.out (fun h0 q hq => by have := (HI8.out.blk h0 q hq).1; omega))
            rw [HM.out] at HP1 HB9 HR9 ⊢

            obtain ⟨Wb, hWb⟩ : ∃ Wb, Wb = w8.setCell ⟨w6.heap.size, k, none⟩ (.slice a8 (must0 S all k).length c8) := ⟨_, rfl⟩
            have HQb := hid (show VAt w6.heap.size Wb _ _ _ by rw [hWb]; exact HP1.out)
            have HCb := hid (show Below w6.heap.size w6 Wb by rw [hWb]; exact HB9.out)
            rw [← hWb]
            have zgWb : w6.heap.size < Wb.heap.size := (HQb.out.own.lt _ rfl).2
            have zfWb := HQb.out.frozen k
            have dWb := HQb.out.cell k (by rw [List.length_set, HLN.out]; exact hlt)
            rw [nth_setV _ _ _ _ (by have := HQb.out.len; rw [List.length_set, List.length_set, HLN.out] at this; omega), if_pos rfl, nth_setV _ _ _ _ (by rw [HLN.out]; exact hlt), if_pos rfl] at dWb
            dsimp only at dWb
            have HRWb := hid (HR6.out.below HCb.out)
            have cWb := HRWb.out.cell 2 _ rfl
            have sWb := HRWb.out.lt
            have dOb : Wb.cell? ⟨ob, oo + k, none⟩ = _ := ((bvia HB6.out HCb.out).cell (p := ⟨ob, _, none⟩) zo).trans HLC.out
            have zOb : ob < Wb.heap.size := Nat.lt_of_lt_of_le zo (bvia HB6.out HCb.out).size
            have HRYb := hid (HRO.out.below (bvia HB6.out HCb.out))
            refine Plan.wp_chain planLG19 Wb.heap.size (by kernel_rfl) rfl (by kernel_rfl) (by kernel_rfl) ?_
            clear hWb
            repeat (first | (apply Plan.chain_skip rfl rfl; simp only [Act.put, List.setIfInBounds_toArray, List.set_cons_zero, List.set_cons_succ]) | (apply Plan.chain_det rfl rfl; (· intro w' hb; obtain ⟨hcl, hfz⟩ := bcellB hb; go_simp; rfl); simp only [Act.put, List.setIfInBounds_toArray, List.set_cons_zero, List.set_cons_succ]))
            refine Plan.chain_call 25 #[.slice a8 (must0 S all k).length c8, .slice (OS k).a (nth L k).length (OS k).c] (fun v w' => IntsAt Wb.heap.size w' v (minusL (must0 S all k) (nth L k)) ∧ Below Wb.heap.size Wb w') rfl rfl rfl (by go_simp) ?_ (fun v w' h => h.2) (fun v9b w9b h => ?_)
            · have hd := (Below.refl Wb.heap.size Wb).drew
              have hx := HQb.out.ints k (by rw [List.length_set, HLN.out]; exact hlt)
              rw [nth_setV _ _ _ _ (by have := HQb.out.len; rw [List.length_set, List.length_set, HLN.out] at this; omega), if_pos rfl, nth_setV _ _ _ _ (by rw [HLN.out]; exact hlt), if_pos rfl] at hx
              refine (rminus_calls 0 _ _ _ (must0 S all k) (nth L k) Wb.drew (hx.below hd) (HRYb.out.below hd) (by have := HSETL.out; have := HM0.out; have := HAL.out; omega)).mono ?_
              rintro e w' ⟨v', rfl, hi, hb⟩
              exact ⟨_, rfl, hi, bvia hd hb⟩
            obtain ⟨hi9, hb9⟩ := h
            obtain ⟨a9b, c9b, _, _, rfl, _⟩ := IntsAt.open hi9
            have HI9b := hid hi9
            have HB9b := hid (bvia HCb.out hb9)
            have HV9b := hid (HQb.out.below hb9)
            have zg9b : w6.heap.size < w9b.heap.size := Nat.lt_of_lt_of_le zgWb hb9.size
            have zf9b := HV9b.out.frozen k
            have d9b := HV9b.out.cell k (by rw [List.length_set, HLN.out]; exact hlt)
            clear hi9 hb9
            repeat (first | (apply Plan.chain_skip rfl rfl; simp only [Act.put, List.setIfInBounds_toArray, List.set_cons_zero, List.set_cons_succ]) | (apply Plan.chain_det rfl rfl; (· intro w' hb; obtain ⟨hcl, hfz⟩ := bcellB hb; go_simp; rfl); simp only [Act.put, List.setIfInBounds_toArray, List.set_cons_zero, List.set_cons_succ]))
            refine Plan.chain_fin rfl rfl ?_
            have hput := HV9b.out.put k ⟨a9b, (minusL (must0 S all k) (nth L k)).length, c9b⟩ (minusL (must0 S all k) (nth L k)) (by rw [List.length_set, HLN.out]; exact hlt) HI9b.out (fun h0 q hq => by have := (HI9b.out.blk h0 q hq).1; omega)
            rw [List.set_set, List.set_set] at hput
            rw [show minusL (must0 S all k) (nth L k) = s0 S L all k by unfold s0; rw [if_pos hl]] at hput HI9b
            rw [show minusL (must0 S all k) (nth L k) = s0 S L all k by unfold s0; rw [if_pos hl]]
            have HP2b := hid hput
            have HBFb := hid (show Below w6.heap.size w6 (w9b.setCell ⟨w6.heap.size, k, none⟩ (.slice a9b (s0 S L all k).length c9b)) from HB9b.out.setCell (Nat.le_refl _) _)
            clear hput
            go_wp2_with fail

            have hput := HP2b.out
            rw [rmap_set _ _ _ _ hlt] at hput
            exact ⟨⟨k + 1, _, by omega, by go_num, hput, HBFb.out⟩, by simp [intOf] <;> omega⟩
        · skip
          have hs2 : ¬ (k : Int) < S.length := by omega
          have HM := hid (show setL all = must0 S all k by unfold must0; rw [if_neg hs])
          have hl2 : ¬ (k : Int) < L.length := by omega
          have HS0 := hid (show must0 S all k = s0 S L all k by unfold s0; rw [if_neg hl])

          go_wp2_with (
            go_at_call 20
            refine (rset_calls lo4 _ all _ (HA6.out.below HBL.out) (by have := HAL.out; omega)).mono ?_
            rintro e w8 ⟨v8, rfl, hi8, hb8⟩
            obtain ⟨a8, c8, _, _, rfl, _⟩ := IntsAt.open hi8
            have HI8 := hid hi8
            have HB8 := hid (bvia HBL.out hb8)
            have HV8 := hid (HVO.out.below hb8)
            have zg8 : w6.heap.size < w8.heap.size := Nat.lt_of_lt_of_le zg hb8.size
            have zf8 := HV8.out.frozen k
            have d8 := HV8.out.cell k (by rw [HLN.out]; exact hlt)
            have HB9 := hid (show Below w6.heap.size w6 (w8.setCell ⟨w6.heap.size, k, none⟩ (.slice a8 (setL all).length c8)) from HB8.out.setCell (Nat.le_refl _) _)
            have HR9 := hid (HR6.out.below HB9.out)
            have c2 := HR9.out.cell 2 _ rfl
            have s1 : w.heap.size < w8.heap.size := ((HR6.out.below HBL.out).below hb8).lt
            clear hi8 hb8)
          have HP1 := hid (HV8.out.put k ⟨a8, (setL all).length, c8⟩ (setL all) (by rw [HLN.out]; exact hlt) HI8.out (fun h0 q hq => by have := (HI8.out.blk h0 q hq).1; omega))

          have hput := HP1.out
          rw [HM.out, HS0.out, rmap_set _ _ _ _ hlt, ← HS0.out, ← HM.out] at hput
          exact ⟨⟨k + 1, _, by omega, by go_num, hput, HB9.out⟩, by simp [intOf] <;> omega⟩
    · have HLS := hid (show LaysAt 0 wo (.slice (some ⟨w6.heap.size, 0, none⟩) N N) ((List.range N).map (s0 S L all)) by
        have h := HVO.out.lays (by rw [HLN.out]; have := HNN.out; omega)
        rw [show k = N by omega, Nat.sub_self, List.replicate_zero, List.append_nil] at h
        exact h)
      have hlt2 : ¬ (k : Int) < N := by omega
      have hr := HR6.out.below HBL.out
      have c1 := hr.cell 1 _ rfl
      have s1 := hr.lt
      clear hr zg zf
      go_wp2_with (
        go_at_call 18
        refine (rmust_calls lo1 0 lo4 ve _ _ N E ((List.range N).map (s0 S L all)) all _ wo (HE6.out.below HBL.out) HLS.out (HA6.out.below HBL.out) (gokA_of all HAL.out HF.out (by simp; have := HCONT.out; omega) (fun i hi => by
          have hi2 : i < N := by simpa using hi
          rw [nth_rmap _ _ _ hi2]
          have := s0_len S L all i
          have := HAL.out
          omega)).1 (gokA_of all HAL.out HF.out (by simp; have := HCONT.out; omega) (fun i hi => by
          have hi2 : i < N := by simpa using hi
          rw [nth_rmap _ _ _ hi2]
          have := s0_len S L all i
          have := HAL.out
          omega)).2 (by have := HAL.out; omega) hp).mono ?_
        rintro e w11 ⟨v11, Y, rfl, hY, hy11, hb11⟩
        have HSUB := hid (greatest_in HXI.out hY)
        have HX11 := hid ((HX6.out.keep (Keep.below HBL.out)).keep (Keep.below hb11))
        have HB11 := hid (bvia HOO2.out hb11)
        obtain ⟨ya, yc, yb, yo, YS, rfl, y1, y2, y3, y4, _, y6, y7⟩ := hy11.open
        have HYO := hid (And.intro y1 (And.intro y2 (And.intro y3 y4)))
        have HYN := hid hY.len
        have HYI := hid hY.inc
        have HYU := hid (show ∀ i r, r ∈ nth Y i → r ∈ all by
          obtain ⟨⟨j, e⟩, _⟩ := hY
          rw [e]
          exact mustIter_in N E _ all j)
        clear hY hy11 hb11 y1 y2 y3 y4)
      go_loopw [12] (fun i wr => ∃ k : Nat, k ≤ N ∧ i = .int .i64 k ∧ Below w11.heap.size w11 wr) (fun i _ => N - (intOf i).toNat)
      case atStart => exact ⟨0, Nat.zero_le _, rfl, Below.refl _ _⟩
      case round =>
        obtain ⟨j, hj, rfl, hbl2⟩ := hrel
        obtain ⟨wi, hwi⟩ : ∃ wi, wi = wr := ⟨_, rfl⟩
        subst hwi
        have HBI := hid hbl2
        have HBI2 := hid (bvia HB11.out hbl2)
        clear hbl2
        by_cases hjn : j < N
        · have hjn2 : (j : Int) < N := Int.ofNat_lt.2 hjn
          obtain ⟨y1, y2, y3, y4⟩ := HYO.out
          have hjy : j < Y.length := by rw [HYN.out]; exact hjn
          have hjy2 : (j : Int) < Y.length := Int.ofNat_lt.2 hjy
          have e1 := y1 (by omega)
          have zy := y4 (by omega)
          subst e1
          have dy := (HBI.out.cell (p := ⟨yb, _, none⟩) zy).trans (y2 j hjy)
          have HRY := hid ((y3 j hjy).below HBI.out)
          obtain ⟨xa2, xc2, xb2, xo2, XS2, ex2, x1, x2, x3, x4, _, _, _⟩ := HX11.out.open
          obtain ⟨rfl, hxn, rfl⟩ := Value.slice.inj ex2
          clear hxn
          rw [HXL.out] at x1 x2 x3 x4
          have e2 := x1 (by omega)
          have zx := x4 (by omega)
          subst e2
          have dx := (HBI.out.cell (p := ⟨xb2, _, none⟩) zx).trans (x2 j hjn)
          have HRX := hid ((x3 j hjn).below HBI.out)
          have HYLE := hid (show (nth Y j).length ≤ 100000 from Nat.le_trans (inc_sub_len (HYI.out j) (HYU.out j)) (by have := HAL.out; omega))
          have HSB := hid (show subB (nth Y j) (nth X j) = true from (subB_iff _ _).2 (HSUB.out j))
          have zx2 : xb2 < wi.heap.size := Nat.lt_of_lt_of_le zx HBI.out.size
          have zy2 : yb < wi.heap.size := Nat.lt_of_lt_of_le zy HBI.out.size
          clear y1 y2 y3 y4 x1 x2 x3 x4 ex2
          go_wp2_with fail
          refine Plan.wp_chain planLG24 wi.heap.size (by kernel_rfl) rfl (by kernel_rfl) (by kernel_rfl) ?_
          repeat (first | (apply Plan.chain_skip rfl rfl; simp only [Act.put, List.setIfInBounds_toArray, List.set_cons_zero, List.set_cons_succ]) | (apply Plan.chain_det rfl rfl; (· intro w' hb; obtain ⟨hcl, hfz⟩ := bcellB hb; go_simp; rfl); simp only [Act.put, List.setIfInBounds_toArray, List.set_cons_zero, List.set_cons_succ]))
          refine Plan.chain_call 22 #[.slice (YS j).a (nth Y j).length (YS j).c, .slice (XS2 j).a (nth X j).length (XS2 j).c] (fun v w' => v = .bool true ∧ Below wi.heap.size wi w') rfl rfl rfl (by go_simp) ?_ (fun v w' h => h.2) (fun v12 w12 h => ?_)
          · have hd := (Below.refl wi.heap.size wi).drew
            refine (rsubset_calls 0 0 _ _ (nth Y j) (nth X j) wi.drew (HRY.out.below hd) (HRX.out.below hd) HYLE.out).mono ?_
            rintro e w' ⟨rfl, hb⟩
            rw [HSB.out]
            exact ⟨_, rfl, rfl, bvia hd hb⟩
          obtain ⟨rfl, hb12⟩ := h
          have HB12 := hid (bvia HBI.out hb12)
          clear hb12
          repeat (first | (apply Plan.chain_skip rfl rfl; simp only [Act.put, List.setIfInBounds_toArray, List.set_cons_zero, List.set_cons_succ]) | (apply Plan.chain_det rfl rfl; (· intro w' hb; obtain ⟨hcl, hfz⟩ := bcellB hb; go_simp; rfl); simp only [Act.put, List.setIfInBounds_toArray, List.set_cons_zero, List.set_cons_succ]))
          refine Plan.chain_nil ?_
          go_wp2_with fail
          exact ⟨⟨j + 1, by omega, by go_num, HB12.out⟩, by simp [intOf] <;> omega⟩
        · have hjn2 : ¬ (j : Int) < N := by omega
          go_wp2_with fail
          go_ret
          exact ⟨rfl, HBI2.out⟩

theorem lgreat_calls (lo1 lo2 : Nat) (ve vs : Value) (N : Nat) (E : List Edg) (S : List (List Int)) (lo4 : Nat) (va : Value) (all : List Int) (lo3 : Nat) (vo : Value) (L : List (List Int)) (w : World) (hN : N < 256) (hE0 : EdgesAt lo1 w ve E) (hS0 : LaysAt lo2 w vs S) (ha0 : IntsAt lo4 w va all) (ho0 : LaysAt lo3 w vo L) :
    Calls Try.prog 6 #[.agg #[.int .u8 (N : Nat), ve, vs], va, vo] w fun e w' => e = .returned (.bool true) ∧ Below w.heap.size w w' := by
  by_cases h : N = 0 ∨ 8 < all.length ∨ 10 < L.length
  · exact lgreat_no lo1 lo2 ve vs N E S lo4 va all lo3 vo L w hN hE0 hS0 ha0 ho0 h
  · exact lgreat_yes lo1 lo2 ve vs N E S lo4 va all lo3 vo L w hN hE0 hS0 ha0 ho0 (by omega) (by omega) (by omega)

end Go.Proofs.Ytnbffkcnhphdnaa
