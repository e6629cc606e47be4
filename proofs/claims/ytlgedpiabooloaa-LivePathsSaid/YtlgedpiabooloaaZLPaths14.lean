/-
  The law LivePaths, walked.
-/
import Derived.Test.YtlgedpiabooloaaZLIn14
import Derived.Test.YtlgedpiabooloaaZReads14
namespace Go.Proofs.Ytlgedpiabooloaa
set_option linter.unusedVariables false
set_option linter.unusedSimpArgs false
open Go.RowKit

noncomputable def planLP13 : Plan := mkPlan (regionOf Try.f5 13) [(5, .new), (10, .new)] []

set_option maxRecDepth 100000 in
set_option maxHeartbeats 8000000 in
theorem paths_no (lo : Nat) (vf vg vl : Value) (p : Prg) (n : Nat) (w : World) (hp : ProgAt lo w vf vg vl p) (hv : validB p = false) :
    Calls Try.prog 5 #[.agg #[vf, vg, vl, .int .i64 p.main], .int .u8 n] w fun e w' => e = .returned (.bool true) ∧ Below w.heap.size w w' := by
  have HP := hid hp
  have HV := hid hv
  clear hp hv
  go_enter Try.func5, Try.ntmps5
  go_wp2_with fail
  generalize hW : World.alloc _ _ = W
  have hbW : Below w.heap.size w W := by rw [← hW]; exact (Below.refl _ _).alloc (Nat.le_refl _) _
  have R1 := hid (show BoxAt W w.heap.size 26 [vf, vg, vl, .int .i64 p.main] by rw [← hW]; exact BoxAt.new _ _ _ _ _ rfl rfl)
  have HBW := hid hbW
  clear hW hbW
  refine (awake14_calls W).mono ?_
  rintro e w1 ⟨rfl, hb1⟩
  have hr := R1.out.below hb1
  have c0 := hr.cell 0 _ rfl
  have c1 := hr.cell 1 _ rfl
  have c2 := hr.cell 2 _ rfl
  have c3 := hr.cell 3 _ rfl
  have s1 := hr.lt
  have HB1 := hid (bvia HBW.out hb1)
  clear hb1 hr
  go_wp2_with fail
  refine (valid_calls lo _ _ _ p w1 (HP.out.below HB1.out)).mono ?_
  rintro e w2 ⟨rfl, hb2⟩
  rw [HV.out]
  have HB2 := hid (bvia HB1.out hb2)
  clear hb2 c0 c1 c2 c3 s1
  go_wp2_with fail
  refine (awake14_calls w2).mono ?_
  rintro e w3 ⟨rfl, hb3⟩
  have HB3 := hid (bvia HB2.out hb3)
  clear hb3
  go_wp2_with fail
  go_ret
  exact ⟨rfl, HB3.out⟩

set_option maxRecDepth 100000 in
set_option maxHeartbeats 16000000 in
theorem paths_yes (lo : Nat) (vf vg vl : Value) (p : Prg) (n0 : Nat) (w : World) (hp : ProgAt lo w vf vg vl p) (hv : validB p = true) (hn0 : n0 < 256) :
    Calls Try.prog 5 #[.agg #[vf, vg, vl, .int .i64 p.main], .int .u8 n0] w fun e w' => e = .returned (.bool true) ∧ Below w.heap.size w w' := by
  have HP := hid hp
  have HV := hid hv
  obtain ⟨hl0, hl1⟩ := valid_pos hv
  have hF : n0 % p.funcs.length < p.funcs.length := Nat.mod_lt _ hl0
  have hidx : (wrap64 (n0 : Int)).tmod (p.funcs.length : Int) = ((n0 % p.funcs.length : Nat) : Int) := by
    have e : wrap64 (n0 : Int) = (n0 : Int) := by unfold wrap64; omega
    rw [e]
    exact (Int.tmod_eq_emod_of_nonneg (by omega)).trans (by simp)
  have hidx2 : (n0 : Int) % (p.funcs.length : Int) = ((n0 % p.funcs.length : Nat) : Int) := by simp
  generalize n0 % p.funcs.length = F at *
  have hz0 : ((p.funcs.length : Int) == 0) = false := beq_eq_false_iff_ne.2 (by omega)
  have HF := hid hF
  have hfok := fok_of_funcB (valid_func hv F hF)
  have HFOK := hid hfok
  have hpos := hfok.pos
  have hle := hfok.le
  have HT := hid (show thereB p F = true by unfold thereB; rw [hv, decide_eq_true (show (0 : Int) ≤ F by omega), decide_eq_true (show (F : Int) < p.funcs.length by omega)]; rfl)
  obtain ⟨fa, fc, fb, fo, S, rfl, p1, x0, x1, x2, x3, xi, k1, _, m1, n1⟩ := hp.funcs.open
  obtain ⟨ga, gc, _, _, rfl, hz2⟩ := hp.globs.open
  obtain ⟨la, lc, _, _, _, rfl, hz3⟩ := hp.lays.open
  have e1 := p1 (by omega)
  subst e1
  have z1 := k1 (by omega)
  have hF2 : (F : Int) < p.funcs.length := Int.ofNat_lt.2 hF
  have d0 := x0 F hF
  have d1 := x1 F hF
  have d2 := x2 F hF
  have d3 := x3 F hF
  have hcode := xi F hF
  obtain ⟨n, hn⟩ : ∃ n, (nth p.funcs F).code.length = n := ⟨_, rfl⟩
  have HN := hid hn
  have HC0 := hid (show CodeAt lo w (.slice (S F).a n (S F).c) (nth p.funcs F).code by rw [← hn]; exact hcode)
  rw [hn] at d3 hpos hle
  obtain ⟨fname, hfn⟩ : ∃ q, (nth p.funcs F).name = q := ⟨_, rfl⟩
  obtain ⟨fpar, hfp⟩ : ∃ q, (nth p.funcs F).params = q := ⟨_, rfl⟩
  obtain ⟨freg, hfr⟩ : ∃ q, (nth p.funcs F).regs = q := ⟨_, rfl⟩
  have HFR := hid hfr
  have hfr64 : freg ≤ 64 := by have := fun_regs hv F hF; omega
  rw [hfn] at d0
  rw [hfp] at d1
  rw [hfr] at d2
  obtain ⟨sa, hsa⟩ : ∃ q, (S F).a = q := ⟨_, rfl⟩
  obtain ⟨sc, hsc⟩ : ∃ q, (S F).c = q := ⟨_, rfl⟩
  rw [hsa, hsc] at d3 HC0
  clear hp hv hfok hn hfn hfp hfr hsa hsc hcode p1 x0 x1 x2 x3 xi k1 hz2 hz3
  go_enter Try.func5, Try.ntmps5
  go_wp2_with fail
  generalize hW : World.alloc _ _ = W
  have hbW : Below w.heap.size w W := by rw [← hW]; exact (Below.refl _ _).alloc (Nat.le_refl _) _
  have R1 := hid (show BoxAt W w.heap.size 26 [.slice (some ⟨fb, fo, none⟩) p.funcs.length fc, .slice ga p.globals.length gc, .slice la p.layouts.length lc, .int .i64 p.main] by rw [← hW]; exact BoxAt.new _ _ _ _ _ rfl rfl)
  have HBW := hid hbW
  clear hW hbW
  refine (awake14_calls W).mono ?_
  rintro e w1 ⟨rfl, hb1⟩
  have hr := R1.out.below hb1
  have c0 := hr.cell 0 _ rfl
  have c1 := hr.cell 1 _ rfl
  have c2 := hr.cell 2 _ rfl
  have c3 := hr.cell 3 _ rfl
  have s1 := hr.lt
  have HR1 := hid hr
  have HB1 := hid (bvia HBW.out hb1)
  clear hb1 hr
  go_wp2_with fail
  refine (valid_calls lo _ _ _ p w1 (HP.out.below HB1.out)).mono ?_
  rintro e w2 ⟨rfl, hb2⟩
  rw [HV.out]
  have HB2 := hid (bvia HB1.out hb2)
  clear c0 c1 c2 c3 s1
  have hr := HR1.out.below hb2
  have c0 := hr.cell 0 _ rfl
  have c1 := hr.cell 1 _ rfl
  have c2 := hr.cell 2 _ rfl
  have c3 := hr.cell 3 _ rfl
  have s1 := hr.lt
  have HR2 := hid hr
  have d0' := (HB2.out.cell (p := ⟨fb, _, none⟩) z1).trans d0
  have d1' := (HB2.out.cell (p := ⟨fb, _, none⟩) z1).trans d1
  have d2' := (HB2.out.cell (p := ⟨fb, _, none⟩) z1).trans d2
  have d3' := (HB2.out.cell (p := ⟨fb, _, none⟩) z1).trans d3
  have z2 : fb < w2.heap.size := by have := HB2.out.size; omega
  clear hb2 hr
  go_wp2_with (
    go_at_call 10
    refine (in_calls lo _ _ _ p F _ (HP.out.below HB2.out)).mono ?_
    rintro e w3 ⟨v', L, rfl, hL, hlay, hb3⟩
    obtain ⟨ia, ic, ib, io, IS, rfl, i1, i2, i3, i4, y1, y2, y3⟩ := hlay.open
    have hLI := hid (show IsLive p F n L by
      rcases hL with ⟨h1, _⟩ | ⟨_, h2⟩
      · rw [HT.out] at h1; cases h1
      · rw [Int.toNat_natCast, HN.out] at h2; exact h2)
    have HFN := hid (inis_fine HV.out HF.out HN.out hLI.out)
    have hLn : L.length = n := HFN.out.len
    have HLN := hid hLn
    have HI := hid (And.intro i1 (And.intro i2 (And.intro i3 i4)))
    have HB3 := hid (bvia HB2.out hb3)
    have hr := HR2.out.below hb3
    have q0 := hr.cell 0 _ rfl
    have q1 := hr.cell 1 _ rfl
    have q2 := hr.cell 2 _ rfl
    have q3 := hr.cell 3 _ rfl
    have t1 := hr.lt
    have HR3 := hid hr
    have e0 := (HB3.out.cell (p := ⟨fb, _, none⟩) z1).trans d0
    have e1 := (HB3.out.cell (p := ⟨fb, _, none⟩) z1).trans d1
    have e2 := (HB3.out.cell (p := ⟨fb, _, none⟩) z1).trans d2
    have e3 := (HB3.out.cell (p := ⟨fb, _, none⟩) z1).trans d3
    have z3 : fb < w3.heap.size := by have := HB3.out.size; omega
    rw [hLn]
    clear i1 i2 i3 i4 hL hlay hb3 hr hLn c0 c1 c2 c3 s1 d0' d1' d2' d3' z2)
  go_loopw [7] (fun i wr => ∃ k : Nat, k ≤ n ∧ i = .int .i64 k ∧ Below w3.heap.size w3 wr) (fun i _ => n - (intOf i).toNat)
  case atStart => exact ⟨0, Nat.zero_le _, rfl, Below.refl _ _⟩
  case round =>
    obtain ⟨k, hk, rfl, hbl⟩ := hrel
    obtain ⟨wo, hwo⟩ : ∃ wo, wo = wr := ⟨_, rfl⟩
    subst hwo
    have HBL := hid hbl
    clear hbl q0 q1 q2 q3 t1 e0 e1 e2 e3 z3
    by_cases hlt : k < n
    · have hlt2 : (k : Int) < n := Int.ofNat_lt.2 hlt
      go_wp2_with fail
      go_loopw [8] (fun i wr => ∃ r : Nat, i = .int .i64 r ∧ (r : Int) ≤ freg ∧ Below w3.heap.size w3 wr) (fun i _ => freg.toNat - (intOf i).toNat)
      case atStart => exact ⟨0, rfl, by have := fun_regs HV.out F HF.out; have := HFR.out; omega, HBL.out⟩
      case round =>
        obtain ⟨r, rfl, hrr, hbl⟩ := hrel
        obtain ⟨wi, hwi⟩ : ∃ wi, wi = wr := ⟨_, rfl⟩
        subst hwi
        have hr := HR3.out.below hbl
        have c0 := hr.cell 0 _ rfl
        have c1 := hr.cell 1 _ rfl
        have c2 := hr.cell 2 _ rfl
        have c3 := hr.cell 3 _ rfl
        have s1 := hr.lt
        have HBI := hid (bvia HB3.out hbl)
        have HBIL := hid hbl
        have e0 := (HBI.out.cell (p := ⟨fb, _, none⟩) z1).trans d0
        have e1 := (HBI.out.cell (p := ⟨fb, _, none⟩) z1).trans d1
        have e2 := (HBI.out.cell (p := ⟨fb, _, none⟩) z1).trans d2
        have e3 := (HBI.out.cell (p := ⟨fb, _, none⟩) z1).trans d3
        have z3 : fb < wi.heap.size := by have := HBI.out.size; omega
        obtain ⟨i1, i2, i3, i4⟩ := HI.out
        have ei := i1 (by rw [HLN.out]; omega)
        subst ei
        have g0 := (HBIL.out.cell (p := ⟨ib, _, none⟩) (i4 (by rw [HLN.out]; omega))).trans (i2 k (by rw [HLN.out]; omega))
        have hrow := hid ((i3 k (by rw [HLN.out]; omega)).below HBIL.out)
        have z4 : ib < wi.heap.size := by have := HBIL.out.size; have := i4 (by rw [HLN.out]; omega); omega
        clear i1 i2 i3 i4 hbl hr
        by_cases hr2 : (r : Int) < freg
        · go_wp2_with fail
          refine Plan.wp_facts (B := wi.heap.size) planLP13 [(5, valF (.bool (readsB p F k r))), (10, valF (.bool (readsB p F k r)))] (by kernel_rfl) rfl (by kernel_rfl) (by kernel_rfl) (Nat.le_refl _) ?_
          repeat (first | (apply Plan.runs_skip rfl rfl; simp only [Act.put, List.setIfInBounds_toArray, List.set_cons_zero, List.set_cons_succ]) | (apply Plan.runs_det rfl rfl; (· intro F w' hb hf; obtain ⟨hcl, hfz⟩ := bcell hb; go_simp; rfl); simp only [Act.put, List.setIfInBounds_toArray, List.set_cons_zero, List.set_cons_succ]))
          refine Plan.runs_call_val (.bool (readsB p F k r)) 16 #[.slice (IS k).a (nth L k).length (IS k).c, .int .i64 r] rfl rfl _ rfl rfl (fun F w' hb hf => by go_simp) rfl (fun F' w' hb hf => ?_) ?_
          · refine (has_calls _ _ (nth L k) r w' (hrow.out.below hb)).mono ?_
            rintro e w'' ⟨rfl, hb'⟩
            refine ⟨ret_bool ?_, hb'⟩
            rw [Bool.eq_iff_iff, decide_eq_true_eq, readsB_iff]
            exact hLI.out.iff HV.out HF.out HN.out k hlt r
          simp only [Act.put, List.setIfInBounds_toArray, List.set_cons_zero, List.set_cons_succ]
          repeat (first | (apply Plan.runs_skip rfl rfl; simp only [Act.put, List.setIfInBounds_toArray, List.set_cons_zero, List.set_cons_succ]) | (apply Plan.runs_det rfl rfl; (· intro F w' hb hf; obtain ⟨hcl, hfz⟩ := bcell hb; go_simp; rfl); simp only [Act.put, List.setIfInBounds_toArray, List.set_cons_zero, List.set_cons_succ]))
          refine Plan.runs_call_val (.bool (readsB p F k r)) 17 #[.agg #[.slice (some ⟨fb, fo, none⟩) p.funcs.length fc, .slice ga p.globals.length gc, .slice la p.layouts.length lc, .int .i64 p.main], .int .i64 F, .int .i64 k, .int .i64 r] rfl rfl _ rfl rfl (fun F w' hb hf => by obtain ⟨hcl, hfz⟩ := bcell hb; go_simp) rfl (fun F' w' hb hf => ?_) ?_
          · exact reads_calls lo _ _ _ p F k r w' (HP.out.below (bvia HBI.out hb)) HV.out HF.out (by rw [HN.out]; exact hlt)
          simp only [Act.put, List.setIfInBounds_toArray, List.set_cons_zero, List.set_cons_succ]
          repeat (first | (apply Plan.runs_skip rfl rfl; simp only [Act.put, List.setIfInBounds_toArray, List.set_cons_zero, List.set_cons_succ]) | (apply Plan.runs_det rfl rfl; (· intro F w' hb hf; obtain ⟨hcl, hfz⟩ := bcell hb; go_simp; rfl); simp only [Act.put, List.setIfInBounds_toArray, List.set_cons_zero, List.set_cons_succ]))
          refine Plan.runs_nil (fun F' wn hb hf => ?_)
          have HBN := hid (bvia HBIL.out hb)
          clear hf hb c0 c1 c2 c3 s1 e0 e1 e2 e3 z3 g0 z4
          cases readsB p F k r with
          | false =>
            go_wp2_with fail
            go_roundw
            case rel => exact ⟨r + 1, by go_num, by omega, HBN.out⟩
            case measure => simp [intOf] <;> omega
          | true =>
            go_wp2_with fail
            go_roundw
            case rel => exact ⟨r + 1, by go_num, by omega, HBN.out⟩
            case measure => simp [intOf] <;> omega
        · go_wp2_with fail
          go_roundw
          case rel => exact ⟨k + 1, by omega, by go_num, HBIL.out⟩
          case measure => simp [intOf] <;> omega
    · go_wp2_with fail
      go_ret
      exact ⟨rfl, bvia HB3.out HBL.out⟩

end Go.Proofs.Ytlgedpiabooloaa
