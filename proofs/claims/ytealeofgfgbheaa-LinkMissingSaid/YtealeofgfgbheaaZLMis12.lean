/-
  LinkMissing: the law, walked.
-/
import Derived.Test.YtealeofgfgbheaaZValid
import Derived.Test.YtealeofgfgbheaaZLkS
import Derived.Test.YtealeofgfgbheaaZAwk12
import Derived.Test.YtealeofgfgbheaaZCopy
import Derived.Test.YtealeofgfgbheaaZMis12P
namespace Go.Proofs.Ytealeofgfgbheaa
set_option linter.unusedVariables false
set_option linter.unusedSimpArgs false
open Go.RowKit

theorem nth_cut {α : Type} [Inhabited α] (l : List α) (i j : Nat) (hi : i < l.length) (hj : j + 1 < l.length) : nth (l.take i ++ l.drop (i + 1)) j = nth l (if j < i then j else j + 1) := by
  unfold nth
  rw [List.getD_eq_getElem?_getD, List.getD_eq_getElem?_getD]
  split
  · next h => rw [List.getElem?_append_left (by rw [List.length_take]; omega), List.getElem?_take_of_lt h]
  · next h =>
    rw [List.getElem?_append_right (by rw [List.length_take]; omega), List.length_take, List.getElem?_drop]
    congr 2
    omega
theorem cut_len {α : Type} (l : List α) (i : Nat) (hi : i < l.length) : (l.take i ++ l.drop (i + 1)).length + 1 = l.length := by
  rw [List.length_append, List.length_take, List.length_drop]; omega
/-- The list without one part. -/
theorem ProgsAt.cut {lo base : Nat} {w : World} {v v' : Value} {p : Prg} {T : List PV} {i : Nat} (h : ProgsQ base w v (ptsL p (List.range p.funcs.length)) T) (hw : ∀ P ∈ ptsL p (List.range p.funcs.length), PrgWf P) (hi : i < p.funcs.length) {X : World} (hb : Below w.heap.size w X) (hrow : SlE prgE 0 X v' (T.take i ++ T.drop (i + 1))) : ProgsAt 0 X v' (ptsL p (restI p.funcs.length i)) (T.take i ++ T.drop (i + 1)) := by
  have hL : (ptsL p (List.range p.funcs.length)).length = p.funcs.length := by rw [pts_len, List.length_range]
  have hT : T.length = p.funcs.length := by rw [h.len, hL]
  have hcl := cut_len T i (by omega)
  have hrl := cut_len (List.range p.funcs.length) i (by rw [List.length_range]; exact hi)
  rw [List.length_range] at hrl
  have hPl : (ptsL p (restI p.funcs.length i)).length + 1 = p.funcs.length := by rw [pts_len]; exact hrl
  have hent : ∀ j, j < (ptsL p (restI p.funcs.length i)).length → ∃ t, t < p.funcs.length ∧ nth (T.take i ++ T.drop (i + 1)) j = nth T t ∧ nth (ptsL p (restI p.funcs.length i)) j = nth (ptsL p (List.range p.funcs.length)) t := by
    intro j hj
    refine ⟨if j < i then j else j + 1, by split <;> omega, nth_cut T i j (by omega) (by omega), ?_⟩
    have hj2 : j < (restI p.funcs.length i).length := by rw [pts_len] at hj; exact hj
    rw [nth_idx hj2, nth_idx (by rw [List.length_range]; split <;> omega)]
    congr 1
    exact nth_cut (List.range p.funcs.length) i j (by rw [List.length_range]; exact hi) (by rw [List.length_range]; omega)
  refine ⟨by omega, hrow, fun j hj => ?_, fun j hj => ?_⟩
  · obtain ⟨t, h1, h2, h3⟩ := hent j hj
    rw [h2, h3]
    exact h.main t (by rw [hL]; exact h1)
  · obtain ⟨t, h1, h2, h3⟩ := hent j hj
    rw [h2, h3]
    exact (((h.each t (by rw [hL]; exact h1)).at (Nat.zero_le base) (hw _ (nth_mem _ t (by rw [hL]; exact h1)))).below hb)
noncomputable def planMiA : Plan := mkPlan (regionOf Try.f8 16) ((List.range 21).map fun k => (k + 2, .skip)) []
noncomputable def planMiB : Plan := mkPlan (regionOf Try.f8 16) ((List.range 16).map fun k => (k + 6, .skip)) []
noncomputable def planMiC : Plan := mkPlan (regionOf Try.f8 16) [] []
noncomputable def planMi17 : RegS.Plan := RegS.mkPlan (regionOf Try.f8 17) [(0, .new), (4, .upd 0), (9, .upd 4), (10, .new), (14, .new), (15, .st 14)] [(0, 4), (4, 9), (14, 15)] [(15, [14, 12])]

set_option maxRecDepth 100000 in
set_option maxHeartbeats 8000000 in
theorem lmissing_calls (lo : Nat) (vf vg vl : Value) (p : Prg) (k : Int) (w : World) (hp : ProgAt lo w vf vg vl p) (hwf : PrgWf p) (hk0 : 0 ≤ k) (hk1 : k ≤ 255) :
    Calls Try.prog 8 #[.agg #[vf, vg, vl, .int .i64 p.main], .int .u8 k] w fun e w' => e = .returned (.bool true) ∧ Below w.heap.size w w' := by
  have HP := hid hp
  have HWF := hid hwf
  obtain ⟨fa, fc, _, _, _, rfl, -⟩ := hp.funcs.open
  obtain ⟨ga, gc, _, _, rfl, -⟩ := hp.globs.open
  obtain ⟨la, lc, _, _, _, rfl, -⟩ := hp.lays.open
  clear hp hwf
  go_enter Try.func8, Try.ntmps8
  go_wp2_with fail
  generalize hW : World.alloc _ _ = W
  have hbx := show BoxAt W w.heap.size 26 [.slice fa p.funcs.length fc, .slice ga p.globals.length gc, .slice la p.layouts.length lc, .int .i64 p.main] by rw [← hW]; exact BoxAt.new _ _ _ _ _ rfl rfl
  have hbW : Below w.heap.size w W := by rw [← hW]; exact (Below.refl _ _).alloc (Nat.le_refl _) _
  have HBX := hid hbx
  have HBW := hid hbW
  clear hW hbx hbW
  refine (awake12_calls W).mono ?_
  rintro e w1 ⟨rfl, hb1⟩
  have HB1 := hid (bvia HBW.out hb1)
  have hx1 := HBX.out.below hb1
  have HX1 := hid hx1
  have c0 := hx1.cell 0 _ rfl
  have c1 := hx1.cell 1 _ rfl
  have c2 := hx1.cell 2 _ rfl
  have c3 := hx1.cell 3 _ rfl
  have s1 := hx1.lt
  clear hx1 hb1
  go_wp2_with fail
  refine (great_calls lo _ _ _ p w1 (HP.out.below HB1.out) HWF.out).mono ?_
  rintro e w2 ⟨⟨gb, rfl⟩, hb2⟩
  have HB2 := hid (bvia HB1.out hb2)
  have hx2 := HX1.out.below hb2
  have HX2 := hid hx2
  clear c0 c1 c2 c3 s1 hb2
  have c0 := hx2.cell 0 _ rfl
  have c1 := hx2.cell 1 _ rfl
  have c2 := hx2.cell 2 _ rfl
  have c3 := hx2.cell 3 _ rfl
  have s1 := hx2.lt
  clear hx2
  cases gb with
  | true =>
    go_wp2_with fail
    go_ret
    exact ⟨rfl, HB2.out⟩
  | false =>
    go_wp2_with fail
    refine (valid_calls lo _ _ _ p w2 (HP.out.below HB2.out)).mono ?_
    rintro e w3 ⟨rfl, hb3⟩
    have HB3 := hid (bvia HB2.out hb3)
    have hx3 := HX2.out.below hb3
    have HX3 := hid hx3
    clear c0 c1 c2 c3 s1 hb3
    have c0 := hx3.cell 0 _ rfl
    have c1 := hx3.cell 1 _ rfl
    have c2 := hx3.cell 2 _ rfl
    have c3 := hx3.cell 3 _ rfl
    have s1 := hx3.lt
    clear hx3
    cases hv : validB p with
    | false =>
      go_wp2_with fail
      go_ret
      exact ⟨rfl, HB3.out⟩
    | true =>
      have hpos := valid_pos hv
      by_cases h64 : p.funcs.length = 64
      · have he : ((p.funcs.length : Int) == 64) = true := by rw [h64]; rfl
        go_wp2_with fail
        go_ret
        exact ⟨rfl, HB3.out⟩
      · have he : ((p.funcs.length : Int) == 64) = false := by
          rw [beq_eq_false_iff_ne]; omega
        have hlt64 : p.funcs.length < 64 := by omega
        have HV := hid hv
        clear hv h64
        go_wp2_with fail
        refine (copy_calls lo _ _ _ p w3 (HP.out.below HB3.out) HWF.out).mono ?_
        rintro e w4 ⟨uf, ug, ul, rfl, hop, hb4⟩
        have hat := OwnPrg.at (lo := 0) hop (Nat.zero_le _) HWF.out
        have HAT4 := hid hat
        have HB4 := hid (bvia HB3.out hb4)
        have HX4 := hid (HX3.out.below hb4)
        obtain ⟨_, _, _, _, _, rfl, -⟩ := hat.funcs.open
        obtain ⟨_, _, _, _, rfl, -⟩ := hat.globs.open
        obtain ⟨_, _, _, _, _, rfl, -⟩ := hat.lays.open
        clear hat hop hb4 c0 c1 c2 c3 s1
        go_wp2_with fail
        refine (split_calls 0 _ _ _ p w4 HAT4.out HWF.out).mono ?_
        rintro e w5 ⟨v, T, rfl, hq, hb5⟩
        rw [split_pts HV.out hlt64] at hq
        obtain ⟨g, cap, rfl, hg1, hg2⟩ := hq.row.open (by rw [hq.len, pts_len, List.length_range]; omega)
        have hTl : T.length = p.funcs.length := by rw [hq.len, pts_len, List.length_range]
        rw [hTl] at hq ⊢
        have HQ := hid hq
        have HB5 := hid (bvia HB4.out hb5)
        have HB45 := hid hb5
        have hx5 := HX4.out.below hb5
        have HX5 := hid hx5
        have c0 := hx5.cell 0 _ rfl
        have c3 := hx5.cell 3 _ rfl
        have s1 := hx5.lt
        have hgz := hg2
        clear hq hb5 hx5
        have hnz : (0 : Int) < (p.funcs.length : Int) := by omega
        have hix : ∃ i : Nat, k % (p.funcs.length : Int) = (i : Int) ∧ i < p.funcs.length := by
          have h1 := Int.emod_nonneg k (show (p.funcs.length : Int) ≠ 0 by omega)
          have h2 := Int.emod_lt_of_pos k hnz
          exact ⟨(k % (p.funcs.length : Int)).toNat, by omega, by omega⟩
        obtain ⟨i, hi, hin⟩ := hix
        have HALLW := hid (show ∀ P ∈ ptsL p (List.range p.funcs.length), PrgWf P from (pts_ok (idx_all HV.out hlt64 HWF.out)).wf)
        go_wp2_with fail
        rw [hi]
        have HI := hid hin
        clear hi hgz c0 c3 s1
        go_loopw [8, 7] (fun jv nv wr => ∃ J : Nat, J ≤ p.funcs.length ∧ jv = .int .i64 J ∧ nv = .bool (ndJ p i J) ∧ Below w5.heap.size w5 wr) (fun jv _ _ => p.funcs.length - (intOf jv).toNat)
        case atStart => exact ⟨0, Nat.zero_le _, rfl, by unfold ndJ; simp, Below.refl _ _⟩
        case round =>
        obtain ⟨J, hJ, rfl, rfl, hb⟩ := hrel
        obtain ⟨wo, hwo⟩ : ∃ wo, wo = wr := ⟨_, rfl⟩
        subst hwo
        have HB := hid hb
        clear hb
        by_cases hlt : J < p.funcs.length
        · have hlt2 : (J : Int) < p.funcs.length := Int.ofNat_lt.2 hlt
          go_wp2_with fail
          rw [← ndM_zero]
          go_loopw [9, 7] (fun mv nv wr => ∃ M : Nat, M ≤ (usL p J).length ∧ mv = .int .i64 M ∧ nv = .bool (ndM p i J M) ∧ Below w5.heap.size w5 wr) (fun mv _ _ => (usL p J).length - (intOf mv).toNat)
          case atStart => exact ⟨0, Nat.zero_le _, rfl, rfl, HB.out⟩
          case round =>
          clear HB
          obtain ⟨M, hM, rfl, rfl, hb⟩ := hrel
          obtain ⟨wl, hwl⟩ : ∃ wl, wl = wr := ⟨_, rfl⟩
          subst hwl
          have HB := hid hb
          have hJJ : J < (ptsL p (List.range p.funcs.length)).length := by rw [pts_len, List.length_range]; exact hlt
          obtain ⟨ea, ec, _, _, _, _, x0, -, -, -, -, hpj⟩ := HQ.out.entry HALLW.out J hJJ
          have hnt : nth (ptsL p (List.range p.funcs.length)) J = partP p J := by rw [nth_idx (by rw [List.length_range]; exact hlt), nth_eq _ _ (by rw [List.length_range]; exact hlt), List.getElem_range]
          rw [hnt] at x0 hpj
          rw [part_len] at x0 hpj
          have x0' := (hb.cell (p := ⟨g, _, none⟩) hg2).trans x0
          rw [Nat.add_zero] at x0'
          have gz := Nat.lt_of_lt_of_le hg2 hb.size
          have hji : ¬ ((J : Int) < 0) := by omega
          have hmi : ¬ ((M : Int) < 0) := by omega
          have hul := us_len p J
          have HPJ := hid (hpj.below hb)
          clear hnt hpj x0 hb
          by_cases hMl : M < (usL p J).length
          · have hMl2 : (M : Int) < (usL p J).length := Int.ofNat_lt.2 hMl
            have hx6 := HX5.out.below HB.out
            have c0 := hx6.cell 0 _ rfl
            have s1 := hx6.lt
            clear hx6
            cases hnd : ndM p i J M with
            | true =>
              have HND := hid hnd
              go_wp2_with fail
              refine Plan.wp_chain planMiA wl.heap.size (by kernel_rfl) rfl (by kernel_rfl) (by kernel_rfl) ?_
              repeat (first | (apply Plan.chain_skip rfl rfl; simp only [Act.put, List.setIfInBounds_toArray, List.set_cons_zero, List.set_cons_succ]) | (apply Plan.chain_det rfl rfl; (· intro w' hb; obtain ⟨hcl, hfz⟩ := bcellB hb; go_simp; rfl); simp only [Act.put, List.setIfInBounds_toArray, List.set_cons_zero, List.set_cons_succ]))
              refine Plan.chain_nil ?_
              go_wp2_with fail
              refine ⟨⟨M + 1, hMl, rfl, by rw [ndM_succ, HND.out]; rfl, HB.out.drew⟩, ?_⟩
              simp only [intOf]
              omega
            | false =>
              have HND := hid hnd
              by_cases hJi : J = i
              · subst hJi
                have hJn : ((J : Int) != (J : Int)) = false := by simp
                go_wp2_with fail
                refine Plan.wp_chain planMiB wl.heap.size (by kernel_rfl) rfl (by kernel_rfl) (by kernel_rfl) ?_
                repeat (first | (apply Plan.chain_skip rfl rfl; simp only [Act.put, List.setIfInBounds_toArray, List.set_cons_zero, List.set_cons_succ]) | (apply Plan.chain_det rfl rfl; (· intro w' hb; obtain ⟨hcl, hfz⟩ := bcellB hb; go_simp; rfl); simp only [Act.put, List.setIfInBounds_toArray, List.set_cons_zero, List.set_cons_succ]))
                refine Plan.chain_nil ?_
                go_wp2_with fail
                refine ⟨⟨M + 1, hMl, rfl, by rw [ndM_succ, HND.out]; simp, HB.out.drew⟩, ?_⟩
                simp only [intOf]
                omega
              · have hJe : ((J : Int) == (i : Int)) = false := by rw [beq_eq_false_iff_ne]; omega
                have hJn : ((J : Int) != (i : Int)) = true := by rw [bne_iff_ne]; omega
                have hJd : ¬ ((J : Int) = (i : Int)) := by omega
                have HSM := hid (show ndM p i J (M + 1) = decide ((nth (partP p J).funcs M).name = (nth p.funcs i).name) by rw [ndM_succ, HND.out]; simp [hJi, sameM])
                obtain ⟨qa, qc, qb, qo, QS, hqe, qp, q0, -, -, -, -, qbl, -, -, -⟩ := HPJ.out.funcs.open
                rw [part_len] at hqe qp q0 qbl
                obtain ⟨rfl, -, rfl⟩ := Value.slice.inj hqe
                obtain rfl := qp (by omega)
                have y0 := q0 M hMl
                have yz := qbl (by omega)
                obtain ⟨ra, rc, rb, ro, RS, hre, rp, r0, -, -, -, -, rbl, -, -, -⟩ := HP.out.funcs.open
                obtain ⟨rfl, -, rfl⟩ := Value.slice.inj hre
                obtain rfl := rp (by omega)
                have hbw := (bvia HB5.out HB.out)
                have v0 := (hbw.cell (p := ⟨rb, _, none⟩) (rbl (by omega))).trans (r0 i HI.out)
                have vz := Nat.lt_of_lt_of_le (rbl (by omega)) hbw.size
                have hi2 : (i : Int) < p.funcs.length := Int.ofNat_lt.2 HI.out
                have hi3 : ¬ ((i : Int) < 0) := by omega
                obtain ⟨nA, hA⟩ : ∃ nA, (nth (partP p J).funcs M).name = nA := ⟨_, rfl⟩
                obtain ⟨nB, hBn⟩ : ∃ nB, (nth p.funcs i).name = nB := ⟨_, rfl⟩
                rw [hA] at y0 HSM
                rw [hBn] at v0 HSM
                clear hqe qp q0 qbl hre rp r0 rbl hbw hA hBn hJi
                go_wp2_with fail
                refine Plan.wp_chain planMiC wl.heap.size (by kernel_rfl) rfl (by kernel_rfl) (by kernel_rfl) ?_
                repeat (first | (apply Plan.chain_skip rfl rfl; simp only [Act.put, List.setIfInBounds_toArray, List.set_cons_zero, List.set_cons_succ]) | (apply Plan.chain_det rfl rfl; (· intro w' hb; obtain ⟨hcl, hfz⟩ := bcellB hb; go_simp; rfl); simp only [Act.put, List.setIfInBounds_toArray, List.set_cons_zero, List.set_cons_succ]))
                refine Plan.chain_nil ?_
                go_wp2_with fail
                refine ⟨⟨M + 1, hMl, rfl, by rw [HSM.out, ← sameName_eq]; rfl, HB.out.drew⟩, ?_⟩
                simp only [intOf]
                omega
          · have hme : M = (usL p J).length := by omega
            subst hme
            go_wp2_with fail
            refine ⟨⟨J + 1, hlt, rfl, by rw [ndM_end], HB.out⟩, ?_⟩
            simp only [intOf]
            omega
        · have hje : J = p.funcs.length := by omega
          subst hje
          have hcap : p.funcs.length ≤ cap := by
            obtain ⟨a, c, b, o, he, _, _, _, h2, _⟩ := HQ.out.row.sl (Nat.le_refl _) (by rw [HQ.out.len, pts_len, List.length_range]; omega)
            obtain ⟨-, -, rfl⟩ := Value.slice.inj he
            rw [hTl] at h2
            exact h2
          have hin := HI.out
          have hi1 : (i : Int) ≤ cap := by omega
          have hi2 : ¬ ((i : Int) < 0) := by omega
          have hi3 : wrap64 ((i : Int) + 1) = (i : Int) + 1 := by unfold wrap64; omega
          have hi3k : IntKind.i64.wrap ((i : Int) + 1) = (i : Int) + 1 := by rw [IntKind.wrap_i64]; omega
          have hi9 : 0 ≤ (i : Int) + 1 := by omega
          have hi4 : (i : Int) + 1 ≤ p.funcs.length := by omega
          have hi5 : ¬ ((i : Int) + 1 < 0) := by omega
          have hi6 : (p.funcs.length : Int) ≤ cap := by omega
          have hi7 : ((i : Int) + 1).toNat = i + 1 := by omega
          have hi8 : (i : Int) + 1 ≤ cap := by omega
          go_wp2_with fail
          obtain ⟨mb, hmb⟩ : ∃ mb, missB (ptsL p (restI p.funcs.length i)) = mb := ⟨_, rfl⟩
          obtain ⟨en, hen⟩ : ∃ en : Int, (if mb = true then (5 : Int) else 0) = en := ⟨_, rfl⟩
          refine RegS.Plan.wp_facts (B := wo.heap.size) planMi17 [(0, ownF prgE wo.heap.size 26 []), (4, ownF prgE wo.heap.size 26 ([] ++ T.take i)), (9, ownF prgE wo.heap.size 26 (([] ++ T.take i) ++ T.drop (i + 1))), (10, shapeF wo.heap.size (isRes en) (isRes_ne en) (fun _ _ _ => True)), (14, varF wo.heap.size 26 [.slice none 0 0, .slice none 0 0, .slice none 0 0, .int .i64 0]), (15, layF 26)] (by kernel_rfl) rfl (by kernel_rfl) (by kernel_rfl) (Nat.le_refl _) ?_
          refine RegS.Plan.runs_lit prgE wo.heap.size 26 [] #[] 0 rfl rfl _ rfl rfl (fun w' => by go_simp) rfl rfl rfl (by simp) (Nat.le_refl _) (fun v86 => ?_)
          simp only [Act.put, List.setIfInBounds_toArray, List.set_cons_zero, List.set_cons_succ]
          repeat (first | (apply RegS.Plan.runs_skip rfl rfl; simp only [Act.put, List.setIfInBounds_toArray, List.set_cons_zero, List.set_cons_succ]) | (apply RegS.Plan.runs_det rfl rfl; (· intro F w' hb hf; obtain ⟨hcl, hfz⟩ := bcell hb; go_simp; rfl); simp only [Act.put, List.setIfInBounds_toArray, List.set_cons_zero, List.set_cons_succ]))
          have HROW := hid (show ∀ X, Below wo.heap.size wo X → SlE prgE 0 X (.slice (some ⟨g, 0, none⟩) p.funcs.length cap) T from fun X hX => (((HQ.out.row.sl (Nat.zero_le _) (by rw [hTl]; omega)).below HB.out).below hX))
          refine RegS.Plan.runs_append prgE 0 (.tmp 86) (.tmp 89) 30 wo.heap.size 0 26 _ 80 [] (T.take i) rfl rfl _ rfl rfl rfl Try.underlying30 infoPrg12 rfl rfl rfl rfl rfl (by kernel_rfl) rfl (Nat.le_refl _) (Nat.le_refl _) (Nat.le_refl _) (by rw [List.length_take]; simp; omega) (by rw [List.length_take]; simp only [maxLen]; simp; omega) (fun F w' hb hf => (HROW.out w' hb).take i (by omega)) (fun v90 => ?_)
          simp only [Act.put, List.setIfInBounds_toArray, List.set_cons_zero, List.set_cons_succ]
          repeat (first | (apply RegS.Plan.runs_skip rfl rfl; simp only [Act.put, List.setIfInBounds_toArray, List.set_cons_zero, List.set_cons_succ]) | (apply RegS.Plan.runs_det rfl rfl; (· intro F w' hb hf; obtain ⟨hcl, hfz⟩ := bcell hb; go_simp; rfl); simp only [Act.put, List.setIfInBounds_toArray, List.set_cons_zero, List.set_cons_succ]))
          have HEN := hid hen
          have HMB := hid hmb
          refine RegS.Plan.runs_append prgE 4 (.tmp 90) (.tmp 94) 30 wo.heap.size 0 26 _ 80 ([] ++ T.take i) (T.drop (i + 1)) rfl rfl _ rfl rfl rfl Try.underlying30 infoPrg12 rfl rfl rfl rfl rfl (by kernel_rfl) rfl (Nat.le_refl _) (Nat.le_refl _) (Nat.le_refl _) (by rw [List.nil_append, List.length_take, List.length_drop]; omega) (by rw [List.nil_append, List.length_take, List.length_drop]; simp only [maxLen]; omega) (fun F w' hb hf => (HROW.out w' hb).drop (i + 1) (by omega) (by rw [hTl]) rfl (by split <;> simp [Addr.add, prgE])) (fun v95 => ?_)
          simp only [Act.put, List.setIfInBounds_toArray, List.set_cons_zero, List.set_cons_succ]
          refine RegS.Plan.runs_shape 15 #[v95] (isRes en) (isRes_ne en) _ rfl rfl _ rfl rfl (fun F w' hb hf => by go_simp) rfl (Nat.le_refl _) (fun F w' hb hf => ?_) (fun v96 hv96 => ?_)
          · have hown := RegS.Plan.facts_own hf 9 rfl (by kernel_rfl) rfl (.inl rfl)
            rw [List.nil_append] at hown
            have hX := rest_idx HV.out hlt64 HWF.out HI.out
            have hpa : ProgsAt 0 w' v95 (ptsL p (restI p.funcs.length i)) (T.take i ++ T.drop (i + 1)) :=
              ProgsAt.cut (lo := 0) HQ.out HALLW.out HI.out (HB.out.trans (hb.mono HB.out.size)) (hown.sl (Nat.zero_le _) (by rw [List.length_append, List.length_take, List.length_drop]; omega))
            refine (link_calls 0 w' v95 _ _ hpa (pts_ok hX)).mono ?_
            rintro e w'' ⟨hr, hbl⟩
            rcases hr with ⟨hm, rfl⟩ | ⟨hm, uf, ug, ul, rfl, hR⟩
            · rw [HMB.out] at hm
              subst hm
              rw [if_pos rfl] at HEN
              rw [← HEN.out]
              exact ⟨_, rfl, ⟨_, _, _, _, _, _, _, _, _, _, rfl⟩, trivial, hbl⟩
            · rw [HMB.out] at hm
              subst hm
              have h0 := HEN.out
              rw [if_neg (by simp)] at h0
              rw [← h0]
              exact ⟨_, rfl, isRes_of hR _ 0, trivial, hbl⟩
          obtain ⟨xa, xn, xc, ya, yn, yc, za, zn, zc, rm, rfl⟩ := hv96
          simp only [Act.put, List.setIfInBounds_toArray, List.set_cons_zero, List.set_cons_succ]
          repeat (first | (apply RegS.Plan.runs_skip rfl rfl; simp only [Act.put, List.setIfInBounds_toArray, List.set_cons_zero, List.set_cons_succ]) | (apply RegS.Plan.runs_det rfl rfl; (· intro F w' hb hf; obtain ⟨hcl, hfz⟩ := bcell hb; go_simp; rfl); simp only [Act.put, List.setIfInBounds_toArray, List.set_cons_zero, List.set_cons_succ]))
          refine RegS.Plan.runs_alloc 26 [.slice none 0 0, .slice none 0 0, .slice none 0 0, .int .i64 0] rfl rfl _ rfl rfl (fun w' => by go_simp) rfl (Nat.le_refl _) (fun bP => ?_)
          simp only [Act.put, List.setIfInBounds_toArray, List.set_cons_zero, List.set_cons_succ]
          refine RegS.Plan.runs_put4 26 bP (.slice xa xn xc) (.slice ya yn yc) (.slice za zn zc) (.int .i64 rm) _ _ _ _ rfl rfl rfl rfl rfl rfl rfl (by kernel_rfl) rfl rfl (fun w' hx => ?_) ?_
          · have q0 := hx.cell 0 _ rfl
            have q1 := hx.cell 1 _ rfl
            have q2 := hx.cell 2 _ rfl
            have q3 := hx.cell 3 _ rfl
            have qz := hx.lt
            have f0 := hx.frozen 0
            have f1 := hx.frozen 1
            have f2 := hx.frozen 2
            have f3 := hx.frozen 3
            go_simp
          repeat (first | (apply RegS.Plan.runs_skip rfl rfl; simp only [Act.put, List.setIfInBounds_toArray, List.set_cons_zero, List.set_cons_succ]) | (apply RegS.Plan.runs_det rfl rfl; (· intro F w' hb hf; obtain ⟨hcl, hfz⟩ := bcell hb; go_simp; rfl); simp only [Act.put, List.setIfInBounds_toArray, List.set_cons_zero, List.set_cons_succ]))
          refine RegS.Plan.runs_nil (fun F w6 hb hf => ?_)
          have hfin : ((en == 5) == ndJ p i p.funcs.length) = true := by
            rw [nd_miss HV.out hlt64 HWF.out HI.out, HMB.out, ← HEN.out]
            cases mb <;> rfl
          have HFIN := hid hfin
          have HBE := hid (bvia (bvia HB5.out HB.out) hb)
          clear hf hfin
          go_wp2_with fail
          all_goals
            go_ret
            refine ⟨?_, HBE.out⟩
            show Ending.returned (Value.bool ((en == 5) == ndJ p i p.funcs.length)) = _
            rw [HFIN.out]

end Go.Proofs.Ytealeofgfgbheaa
