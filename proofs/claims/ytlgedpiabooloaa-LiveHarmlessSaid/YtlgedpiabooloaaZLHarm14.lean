/-
  The law LiveHarmless, walked.
-/
import Derived.IntWalk
import Derived.Test.YtlgedpiabooloaaZLIn14
import Derived.Test.YtlgedpiabooloaaZKindsR
namespace Go.Proofs.Ytlgedpiabooloaa
set_option linter.unusedVariables false
set_option linter.unusedSimpArgs false
open Go.RowKit

noncomputable def planLH5 : Plan := mkPlan (regionOf Try.f7 5) [(2, .new), (5, .new)] []
noncomputable def planLH14a : Plan := mkPlan (regionOf Try.f7 14) [] []
noncomputable def planLH14b : Plan := mkPlan (regionOf Try.f7 14) ((List.range 13).map fun i => (i + 8, .skip)) []
noncomputable def planLH15a : Plan := mkPlan (regionOf Try.f7 15) ((List.range 12).map fun i => (i + 3, .skip)) []
noncomputable def planLH15b : Plan := mkPlan (regionOf Try.f7 15) [(14, .new)] []

theorem dead_pure {p : Prg} {F n : Nat} {L : List (List Int)} (hfok : Fok p (nth p.funcs F)) (hn : (nth p.funcs F).code.length = n) (j : Nat) (hj : j < n) (h : deadB p F L j = true) :
    nth (reachL (nth p.funcs F).code) j = true ∧ visB (nth (nth p.funcs F).code j).op = false ∧ j + 1 < n ∧
    (((nth (nth p.funcs F).code j).op = 3 ∧ (nth (nth p.funcs F).code j).a = (nth (nth p.funcs F).code j).b) ∨ (nth (nth p.funcs F).code j).a ∉ nth L (j + 1)) := by
  unfold deadB at h
  simp only [Bool.and_eq_true, Bool.or_eq_true] at h
  obtain ⟨h1, h2, h3⟩ := h
  have h' := of_decide_eq_true h2
  unfold pureOps at h'
  simp only [List.mem_cons, List.not_mem_nil, or_false] at h'
  have hlast := hfok.last
  unfold lastOp at hlast
  have hj1 : j + 1 < n := by
    have : j ≠ (nth p.funcs F).code.length - 1 := by
      intro e
      rw [← e] at hlast
      omega
    omega
  refine ⟨h1, ?_, hj1, ?_⟩
  · rcases h' with e | e | e | e | e | e | e | e | e | e | e | e | e <;> rw [e] <;> rfl
  · rcases h3 with h3 | h3
    · left
      simpa using h3
    · right
      intro hm
      have h4 : (nth (nth p.funcs F).code j).a ∉ afterL p F L j := by simpa using h3
      apply h4
      unfold afterL
      rw [setL_mem, nextL_in _ _ (by omega), List.mem_flatMap]
      refine ⟨(j : Int) + 1, ?_, ?_⟩
      · unfold nextIns
        rw [if_neg (by omega), if_neg (by omega), if_neg (by omega), if_neg (by omega)]
        simp
      · rw [show ((j : Int) + 1).toNat = j + 1 by omega]
        exact hm
theorem deadL_at {p : Prg} {F : Nat} {L : List (List Int)} {n k : Nat} (h : k < (deadL p F L n).length) : ∃ j : Nat, nth (deadL p F L n) k = j ∧ j < n ∧ deadB p F L j = true := by
  have hm := nth_mem _ k h
  unfold deadL at hm
  obtain ⟨j, hj, e⟩ := List.mem_map.1 hm
  rw [List.mem_filter] at hj
  exact ⟨j, e.symm, by simpa using hj.1, hj.2⟩

set_option maxRecDepth 100000 in
set_option maxHeartbeats 8000000 in
theorem harmless_no (lo : Nat) (vf vg vl : Value) (p : Prg) (n : Nat) (w : World) (hp : ProgAt lo w vf vg vl p) (hv : validB p = false) :
    Calls Try.prog 7 #[.agg #[vf, vg, vl, .int .i64 p.main], .int .u8 n] w fun e w' => e = .returned (.bool true) ∧ Below w.heap.size w w' := by
  have HP := hid hp
  have HV := hid hv
  clear hp hv
  go_enter Try.func7, Try.ntmps7
  go_wp2_with fail
  generalize hW : World.alloc _ _ = W
  have hbW : Below w.heap.size w W := by rw [← hW]; exact (Below.refl _ _).alloc (Nat.le_refl _) _
  have R1 := hid (show BoxAt W w.heap.size 26 [vf, vg, vl, .int .i64 p.main] by rw [← hW]; exact BoxAt.new _ _ _ _ _ rfl rfl)
  have HBW := hid hbW
  clear hW hbW
  refine (awake14_calls W).mono ?_
  rintro e w1 ⟨rfl, hb1⟩
  have hr := R1.out.below hb1
  have c0 := hr.cell 0 _ rfl
  have c1 := hr.cell 1 _ rfl
  have c2 := hr.cell 2 _ rfl
  have c3 := hr.cell 3 _ rfl
  have s1 := hr.lt
  have HB1 := hid (bvia HBW.out hb1)
  clear hb1 hr
  go_wp2_with fail
  refine (valid_calls lo _ _ _ p w1 (HP.out.below HB1.out)).mono ?_
  rintro e w2 ⟨rfl, hb2⟩
  rw [HV.out]
  have HB2 := hid (bvia HB1.out hb2)
  clear hb2 c0 c1 c2 c3 s1
  go_wp2_with fail
  refine (awake14_calls w2).mono ?_
  rintro e w3 ⟨rfl, hb3⟩
  have HB3 := hid (bvia HB2.out hb3)
  clear hb3
  go_wp2_with fail
  go_ret
  exact ⟨rfl, HB3.out⟩

set_option maxRecDepth 100000 in
set_option maxHeartbeats 16000000 in
theorem harmless_yes (lo : Nat) (vf vg vl : Value) (p : Prg) (n0 : Nat) (w : World) (hp : ProgAt lo w vf vg vl p) (hv : validB p = true) (hn0 : n0 < 256) :
    Calls Try.prog 7 #[.agg #[vf, vg, vl, .int .i64 p.main], .int .u8 n0] w fun e w' => e = .returned (.bool true) ∧ Below w.heap.size w w' := by
  have HP := hid hp
  have HV := hid hv
  obtain ⟨hl0, hl1⟩ := valid_pos hv
  have hF : n0 % p.funcs.length < p.funcs.length := Nat.mod_lt _ hl0
  have hidx : (wrap64 (n0 : Int)).tmod (p.funcs.length : Int) = ((n0 % p.funcs.length : Nat) : Int) := by
    have e : wrap64 (n0 : Int) = (n0 : Int) := by unfold wrap64; omega
    rw [e]
    exact (Int.tmod_eq_emod_of_nonneg (by omega)).trans (by simp)
  have hidx2 : (n0 : Int) % (p.funcs.length : Int) = ((n0 % p.funcs.length : Nat) : Int) := by simp
  generalize n0 % p.funcs.length = F at *
  have hz0 : ((p.funcs.length : Int) == 0) = false := beq_eq_false_iff_ne.2 (by omega)
  have HF := hid hF
  have hfok := fok_of_funcB (valid_func hv F hF)
  have HFOK := hid hfok
  have hpos := hfok.pos
  have hle := hfok.le
  have HT := hid (show thereB p F = true by unfold thereB; rw [hv, decide_eq_true (show (0 : Int) ≤ F by omega), decide_eq_true (show (F : Int) < p.funcs.length by omega)]; rfl)
  obtain ⟨fa, fc, fb, fo, S, rfl, p1, x0, x1, x2, x3, xi, k1, _, m1, n1⟩ := hp.funcs.open
  obtain ⟨ga, gc, _, _, rfl, hz2⟩ := hp.globs.open
  obtain ⟨la, lc, _, _, _, rfl, hz3⟩ := hp.lays.open
  have e1 := p1 (by omega)
  subst e1
  have z1 := k1 (by omega)
  have hF2 : (F : Int) < p.funcs.length := Int.ofNat_lt.2 hF
  have d0 := x0 F hF
  have d1 := x1 F hF
  have d2 := x2 F hF
  have d3 := x3 F hF
  have hcode := xi F hF
  obtain ⟨n, hn⟩ : ∃ n, (nth p.funcs F).code.length = n := ⟨_, rfl⟩
  have HN := hid hn
  have HC0 := hid (show CodeAt lo w (.slice (S F).a n (S F).c) (nth p.funcs F).code by rw [← hn]; exact hcode)
  rw [hn] at d3 hpos hle
  obtain ⟨fname, hfn⟩ : ∃ q, (nth p.funcs F).name = q := ⟨_, rfl⟩
  obtain ⟨fpar, hfp⟩ : ∃ q, (nth p.funcs F).params = q := ⟨_, rfl⟩
  obtain ⟨freg, hfr⟩ : ∃ q, (nth p.funcs F).regs = q := ⟨_, rfl⟩
  have HFR := hid hfr
  have hfr64 : freg ≤ 64 := by have := fun_regs hv F hF; omega
  rw [hfn] at d0
  rw [hfp] at d1
  rw [hfr] at d2
  obtain ⟨sa, hsa⟩ : ∃ q, (S F).a = q := ⟨_, rfl⟩
  obtain ⟨sc, hsc⟩ : ∃ q, (S F).c = q := ⟨_, rfl⟩
  rw [hsa, hsc] at d3 HC0
  clear hp hv hfok hn hfn hfp hfr hsa hsc hcode p1 x0 x1 x2 x3 xi k1 hz2 hz3
  go_enter Try.func7, Try.ntmps7
  go_wp2_with fail
  generalize hW : World.alloc _ _ = W
  have hbW : Below w.heap.size w W := by rw [← hW]; exact (Below.refl _ _).alloc (Nat.le_refl _) _
  have R1 := hid (show BoxAt W w.heap.size 26 [.slice (some ⟨fb, fo, none⟩) p.funcs.length fc, .slice ga p.globals.length gc, .slice la p.layouts.length lc, .int .i64 p.main] by rw [← hW]; exact BoxAt.new _ _ _ _ _ rfl rfl)
  have HBW := hid hbW
  clear hW hbW
  refine (awake14_calls W).mono ?_
  rintro e w1 ⟨rfl, hb1⟩
  have hr := R1.out.below hb1
  have c0 := hr.cell 0 _ rfl
  have c1 := hr.cell 1 _ rfl
  have c2 := hr.cell 2 _ rfl
  have c3 := hr.cell 3 _ rfl
  have s1 := hr.lt
  have HR1 := hid hr
  have HB1 := hid (bvia HBW.out hb1)
  clear hb1 hr
  go_wp2_with fail
  refine (valid_calls lo _ _ _ p w1 (HP.out.below HB1.out)).mono ?_
  rintro e w2 ⟨rfl, hb2⟩
  rw [HV.out]
  have HB2 := hid (bvia HB1.out hb2)
  clear c0 c1 c2 c3 s1
  have hr := HR1.out.below hb2
  have c0 := hr.cell 0 _ rfl
  have c1 := hr.cell 1 _ rfl
  have c2 := hr.cell 2 _ rfl
  have c3 := hr.cell 3 _ rfl
  have s1 := hr.lt
  have HR2 := hid hr
  have d0' := (HB2.out.cell (p := ⟨fb, _, none⟩) z1).trans d0
  have d1' := (HB2.out.cell (p := ⟨fb, _, none⟩) z1).trans d1
  have d2' := (HB2.out.cell (p := ⟨fb, _, none⟩) z1).trans d2
  have d3' := (HB2.out.cell (p := ⟨fb, _, none⟩) z1).trans d3
  have z2 : fb < w2.heap.size := by have := HB2.out.size; omega
  clear hb2 hr
  go_wp2_with fail
  rw [hidx2]
  clear hidx hidx2
  generalize hW2 : World.alloc _ _ = W2
  have hbW2 : Below w2.heap.size w2 W2 := by rw [← hW2]; exact (Below.refl _ _).alloc (Nat.le_refl _) _
  have hbx := show BoxAt W2 w2.heap.size 36 [.string fname, .int .i64 fpar, .int .i64 freg, .slice sa n sc] by rw [← hW2]; exact BoxAt.new _ _ _ _ _ rfl rfl
  have HBX := hid hbx
  have HB2' := hid (bvia HB2.out hbW2)
  clear hW2 c0 c1 c2 c3 s1 d0' d1' d2' d3' z2
  have hr := HR2.out.below hbW2
  have c0 := hr.cell 0 _ rfl
  have c1 := hr.cell 1 _ rfl
  have c2 := hr.cell 2 _ rfl
  have c3 := hr.cell 3 _ rfl
  have s1 := hr.lt
  have s2 := hbx.lt
  have HP2 := hid (HP.out.below HB2'.out)
  clear hr hbx hbW2
  refine Plan.wp_facts (B := W2.heap.size) planLH5 [(2, callF W2.heap.size (InD p F)), (5, callF W2.heap.size (DeadD p F))] (by kernel_rfl) rfl (by kernel_rfl) (by kernel_rfl) (Nat.le_refl _) ?_
  repeat (first | (apply Plan.runs_skip rfl rfl; simp only [Act.put, List.setIfInBounds_toArray, List.set_cons_zero, List.set_cons_succ]) | (apply Plan.runs_det rfl rfl; (· intro F w' hb hf; obtain ⟨hcl, hfz⟩ := bcell hb; go_simp; rfl); simp only [Act.put, List.setIfInBounds_toArray, List.set_cons_zero, List.set_cons_succ]))
  refine Plan.runs_call 10 #[.agg #[.slice (some ⟨fb, fo, none⟩) p.funcs.length fc, .slice ga p.globals.length gc, .slice la p.layouts.length lc, .int .i64 p.main], .int .i64 F] (InD p F) rfl rfl _ rfl rfl (fun F w' hb hf => by obtain ⟨hcl, hfz⟩ := bcell hb; go_simp) rfl (Nat.le_refl _) (fun F' w' hb hf => ?_) (fun va => ?_)
  · refine (in_calls lo _ _ _ p F w' (HP2.out.below hb)).mono ?_
    rintro e w'' ⟨v', L, rfl, h1, h2, hb'⟩
    exact ⟨v', rfl, ⟨L, h1, h2⟩, hb'⟩
  simp only [Act.put, List.setIfInBounds_toArray, List.set_cons_zero, List.set_cons_succ]
  repeat (first | (apply Plan.runs_skip rfl rfl; simp only [Act.put, List.setIfInBounds_toArray, List.set_cons_zero, List.set_cons_succ]) | (apply Plan.runs_det rfl rfl; (· intro F w' hb hf; obtain ⟨hcl, hfz⟩ := bcell hb; go_simp; rfl); simp only [Act.put, List.setIfInBounds_toArray, List.set_cons_zero, List.set_cons_succ]))
  refine Plan.runs_call 13 #[.agg #[.slice (some ⟨fb, fo, none⟩) p.funcs.length fc, .slice ga p.globals.length gc, .slice la p.layouts.length lc, .int .i64 p.main], .int .i64 F] (DeadD p F) rfl rfl _ rfl rfl (fun F w' hb hf => by obtain ⟨hcl, hfz⟩ := bcell hb; go_simp) rfl (Nat.le_refl _) (fun F' w' hb hf => ?_) (fun vb => ?_)
  · refine (dead_calls lo _ _ _ p F w' (HP2.out.below hb)).mono ?_
    rintro e w'' ⟨v', L, rfl, h1, h2, hb'⟩
    exact ⟨v', rfl, ⟨L, h1, h2⟩, hb'⟩
  simp only [Act.put, List.setIfInBounds_toArray, List.set_cons_zero, List.set_cons_succ]
  repeat (first | (apply Plan.runs_skip rfl rfl; simp only [Act.put, List.setIfInBounds_toArray, List.set_cons_zero, List.set_cons_succ]) | (apply Plan.runs_det rfl rfl; (· intro F w' hb hf; obtain ⟨hcl, hfz⟩ := bcell hb; go_simp; rfl); simp only [Act.put, List.setIfInBounds_toArray, List.set_cons_zero, List.set_cons_succ]))
  refine Plan.runs_nil (fun F' w3 hb hf => ?_)
  have HB3 := hid (bvia HB2'.out hb)
  obtain ⟨lo1, wa, _, ka, da⟩ : ∃ lo w2', W2.heap.size ≤ lo ∧ Keep lo w2' w3 ∧ InD p F lo w2' va := Plan.rest_call (D := InD p F) hf 2 rfl (by decide +kernel) rfl rfl
  obtain ⟨lo2, wb, _, kb, db⟩ : ∃ lo w2', W2.heap.size ≤ lo ∧ Keep lo w2' w3 ∧ DeadD p F lo w2' vb := Plan.rest_call (D := DeadD p F) hf 5 rfl (by decide +kernel) rfl rfl
  obtain ⟨L, hL, ha⟩ := da
  obtain ⟨dl, hD, hb2⟩ := db
  have hLI : IsLive p F n L := by
    rcases hL with ⟨h1, _⟩ | ⟨_, h2⟩
    · rw [HT.out] at h1; cases h1
    · rw [Int.toNat_natCast, HN.out] at h2; exact h2
  have hdl : dl = deadL p F L n := by
    rcases hD with ⟨h1, _⟩ | ⟨_, L', h2, h3⟩
    · rw [HT.out] at h1; cases h1
    · rw [Int.toNat_natCast, HN.out] at h2
      rw [h3, h2.unique hLI, Int.toNat_natCast, HN.out]
  have HDL := hid hdl
  have hLn : L.length = n := (inis_fine HV.out HF.out HN.out hLI).len
  have HLN := hid hLn
  obtain ⟨ia, ic, ib, io, IS, rfl, i1, i2, i3, i4, y1, y2, y3⟩ := (ha.keep ka).open
  obtain ⟨ja, jc, jb, jo, rfl, j1, j2, j3, j4, x1, x2, x3⟩ := (hb2.keep kb).open
  have HI := hid (And.intro i1 (And.intro i2 (And.intro i3 i4)))
  have HJ := hid (And.intro j1 (And.intro j2 j3))
  have hr := HBX.out.below hb
  have q0 := hr.cell 0 _ rfl
  have q1 := hr.cell 1 _ rfl
  have q2 := hr.cell 2 _ rfl
  have q3 := hr.cell 3 _ rfl
  have t1 := hr.lt
  have HBX3 := hid hr
  clear hf hb hr c0 c1 c2 c3 s1 s2 i1 i2 i3 i4 j1 j2 j3 j4 ha hb2 ka kb hL hD hLI hdl HBX HP2
  rw [hLn]
  clear hLn
  go_wp2_with fail
  go_loopw [9] (fun i wr => ∃ k : Nat, k ≤ dl.length ∧ i = .int .i64 k ∧ Below w3.heap.size w3 wr) (fun i _ => dl.length - (intOf i).toNat)
  case atStart => exact ⟨0, Nat.zero_le _, rfl, Below.refl _ _⟩
  case round =>
    obtain ⟨k, hk, rfl, hbl⟩ := hrel
    obtain ⟨wo, hwo⟩ : ∃ wo, wo = wr := ⟨_, rfl⟩
    subst hwo
    have HBL := hid hbl
    have HBO := hid (bvia HB3.out hbl)
    have hr := HBX3.out.below hbl
    clear hbl q0 q1 q2 q3 t1
    have q0 := hr.cell 0 _ rfl
    have q1 := hr.cell 1 _ rfl
    have q2 := hr.cell 2 _ rfl
    have q3 := hr.cell 3 _ rfl
    have t1 := hr.lt
    have HBXO := hid hr
    clear hr
    by_cases hlt : k < dl.length
    · have hlt2 : (k : Int) < dl.length := Int.ofNat_lt.2 hlt
      obtain ⟨j1, j2, j3⟩ := HJ.out
      have ej := j1 (by omega)
      subst ej
      obtain ⟨j, hj0, hjn, hjd⟩ := deadL_at (show k < (deadL p F L n).length by rw [← HDL.out]; exact hlt)
      rw [← HDL.out] at hj0
      obtain ⟨g1, g2, g3, g4⟩ := dead_pure HFOK.out HN.out j hjn hjd
      have k0 := (HBL.out.cell (p := ⟨jb, _, none⟩) (j3 (by omega))).trans (j2 k hlt)
      have zj : jb < wo.heap.size := by have := HBL.out.size; have := j3 (by omega); omega
      rw [hj0] at k0
      have hjn2 : (j : Int) < n := Int.ofNat_lt.2 hjn
      have hjge : decide ((n : Int) - 1 ≤ j) = false := by simp; omega
      have hj00 : decide ((j : Int) < 0) = false := by simp
      have HG1 := hid g1
      have HG2 := hid g2
      have HG4 := hid g4
      obtain ⟨xa, xc, xb, xo, hxe, w1', w2', w3', w4', w5', w6', w7', _, _, _, _⟩ := (HC0.out.below HBO.out).open
      obtain ⟨hx1, hx2⟩ : sa = xa ∧ sc = xc := by simpa [HN.out] using hxe
      subst hx1 hx2
      have exa := w1' (by rw [HN.out]; omega)
      subst exa
      have zx := w7' (by rw [HN.out]; omega)
      have v0 := w2' j (by rw [HN.out]; exact hjn)
      have va := w3' j (by rw [HN.out]; exact hjn)
      have vb := w4' j (by rw [HN.out]; exact hjn)
      obtain ⟨i1, i2, i3, i4⟩ := HI.out
      have ei := i1 (by rw [HLN.out]; omega)
      subst ei
      have HIC := hid (i2 (j + 1) (by rw [HLN.out]; omega))
      have HIR := hid (i3 (j + 1) (by rw [HLN.out]; omega))
      have HIZ := i4 (by rw [HLN.out]; omega)
      generalize hxx : nth (nth p.funcs F).code j = x at *
      have HXX := hid hxx
      clear hxx hxe w1' w2' w3' w4' w5' w6' w7' i1 i2 i3 i4 j1 j2 j3 hj0 hjd g1 g2 g4
      have HV0 := hid v0
      have HVA := hid va
      have HVB := hid vb
      go_wp2_with (first
        | (go_at_call 22
           refine (rreach_calls lo _ fname fpar freg (nth p.funcs F).code _ (HC0.out.below HBO.out) HFOK.out.jok).mono ?_
           rintro e w4 ⟨g, n9, rfl, hn9, hg9, hrow9, hb9⟩
           have e9 : n9 = n := by rw [hn9]; exact HN.out
           subst e9
           have HB9 := hid (bvia HBL.out hb9)
           have HB9o := hid (bvia HBO.out hb9)
           have u9 : w4.cell? ⟨g, j, none⟩ = some (.bool true) := by
             have := hrow9.cell (i := j) (by rw [reachL_len, HN.out]; exact hjn)
             rw [HG1.out] at this
             exact this
           have z9 := hrow9.lt
           have hr := HBXO.out.below hb9
           have u0 := hr.cell 0 _ rfl
           have u1 := hr.cell 1 _ rfl
           have u2 := hr.cell 2 _ rfl
           have u3 := hr.cell 3 _ rfl
           have u4 := hr.lt
           have o0 := (hb9.cell (p := ⟨xb, _, none⟩) zx).trans HV0.out
           have oa := (hb9.cell (p := ⟨xb, _, none⟩) zx).trans HVA.out
           have ob := (hb9.cell (p := ⟨xb, _, none⟩) zx).trans HVB.out
           have zx9 := Nat.lt_of_lt_of_le zx hb9.size
           clear hn9 hg9 hrow9 hb9 hr q0 q1 q2 q3 t1 k0 zj v0 va vb)
        | (go_at_call 23
           refine (rvisible_calls x.op _).mono ?_
           rw [HG2.out]
           rintro e w5 ⟨rfl, hw5⟩
           obtain rfl : w4 = w5 := hw5.symm
           clear hw5))
      cases hop : (x.op == 3) with
      | false =>
        have hself := hid (show x.a ∉ nth L (j + 1) by
          rcases HG4.out with ⟨h, _⟩ | h
          · rw [h] at hop; cases hop
          · exact h)
        refine Plan.wp_facts (B := w4.heap.size) planLH14b [] (by kernel_rfl) rfl (by kernel_rfl) (by kernel_rfl) (Nat.le_refl _) ?_
        repeat (first | (apply Plan.runs_skip rfl rfl; simp only [Act.put, List.setIfInBounds_toArray, List.set_cons_zero, List.set_cons_succ]) | (apply Plan.runs_det rfl rfl; (· intro F w' hb hf; obtain ⟨hcl, hfz⟩ := bcell hb; go_simp; rfl); simp only [Act.put, List.setIfInBounds_toArray, List.set_cons_zero, List.set_cons_succ]))
        refine Plan.runs_nil (fun F' w5 hb5 hf => ?_)
        have HB5 := hid (bvia HB9.out hb5)
        have HB5o := hid (bvia HB9o.out hb5)
        obtain ⟨y0, y1, y2, y3, y4, y5⟩ := And.intro ((hb5.cell (p := ⟨w2.heap.size, 0, none⟩) u4).trans u0) (And.intro ((hb5.cell (p := ⟨w2.heap.size, 1, none⟩) u4).trans u1) (And.intro ((hb5.cell (p := ⟨w2.heap.size, 2, none⟩) u4).trans u2) (And.intro ((hb5.cell (p := ⟨w2.heap.size, 3, none⟩) u4).trans u3) (And.intro ((hb5.cell (p := ⟨xb, _, none⟩) zx9).trans oa) (Nat.lt_of_lt_of_le u4 hb5.size)))))
        have y6 := Nat.lt_of_lt_of_le zx9 hb5.size
        clear hf hb5 u0 u1 u2 u3 u4 o0 oa ob u9 z9 zx9
        go_wp2_with fail
        have hw9 : IntKind.i64.wrap ((j : Int) + 1) = (j : Int) + 1 := IntWalk.i64_in _ (by omega)
        have hw8 : (0 : Int) ≤ (j : Int) + 1 := by omega
        have hw7 : ((j : Int) + 1).toNat = j + 1 := by omega
        have hw6 : (j : Int) + 1 < n9 := by omega
        have hw5 : j + 1 < n9 := by omega
        have k5 := (HB5.out.cell (p := ⟨ib, _, none⟩) HIZ).trans HIC.out
        have zi5 : ib < w5.heap.size := Nat.lt_of_lt_of_le HIZ HB5.out.size
        refine Plan.wp_facts (B := w5.heap.size) planLH15b [(14, valF (.bool false))] (by kernel_rfl) rfl (by kernel_rfl) (by kernel_rfl) (Nat.le_refl _) ?_
        repeat (first | (apply Plan.runs_skip rfl rfl; simp only [Act.put, List.setIfInBounds_toArray, List.set_cons_zero, List.set_cons_succ]) | (apply Plan.runs_det rfl rfl; (· intro F w' hb hf; obtain ⟨hcl, hfz⟩ := bcell hb; go_simp; rfl); simp only [Act.put, List.setIfInBounds_toArray, List.set_cons_zero, List.set_cons_succ]))
        refine Plan.runs_call_val (.bool false) 16 #[.slice (IS (j + 1)).a (nth L (j + 1)).length (IS (j + 1)).c, .int .i64 x.a] rfl rfl _ rfl rfl (fun F w' hb hf => by go_simp) rfl (fun F' w' hb hf => ?_) ?_
        · refine (has_calls _ _ (nth L (j + 1)) x.a w' ((HIR.out.below HB5.out).below hb)).mono ?_
          rintro e w'' ⟨rfl, hb'⟩
          exact ⟨ret_bool (decide_eq_false hself.out), hb'⟩
        simp only [Act.put, List.setIfInBounds_toArray, List.set_cons_zero, List.set_cons_succ]
        repeat (first | (apply Plan.runs_skip rfl rfl; simp only [Act.put, List.setIfInBounds_toArray, List.set_cons_zero, List.set_cons_succ]) | (apply Plan.runs_det rfl rfl; (· intro F w' hb hf; obtain ⟨hcl, hfz⟩ := bcell hb; go_simp; rfl); simp only [Act.put, List.setIfInBounds_toArray, List.set_cons_zero, List.set_cons_succ]))
        refine Plan.runs_nil (fun F' wn hb hf => ?_)
        have HBN := hid (bvia HB5.out hb)
        clear hf hb y0 y1 y2 y3 y4 y5 hw9 hw8 hw7 hw6 hw5
        go_wp2_with fail
        go_roundw
        case rel => exact ⟨k + 1, by omega, by go_num, HBN.out⟩
        case measure => simp [intOf] <;> omega
      | true =>
        cases hab : (x.a == x.b) with
        | true =>
          refine Plan.wp_facts (B := w4.heap.size) planLH14a [] (by kernel_rfl) rfl (by kernel_rfl) (by kernel_rfl) (Nat.le_refl _) ?_
          repeat (first | (apply Plan.runs_skip rfl rfl; simp only [Act.put, List.setIfInBounds_toArray, List.set_cons_zero, List.set_cons_succ]) | (apply Plan.runs_det rfl rfl; (· intro F w' hb hf; obtain ⟨hcl, hfz⟩ := bcell hb; go_simp; rfl); simp only [Act.put, List.setIfInBounds_toArray, List.set_cons_zero, List.set_cons_succ]))
          refine Plan.runs_nil (fun F' w5 hb5 hf => ?_)
          have HB5 := hid (bvia HB9.out hb5)
          have HB5o := hid (bvia HB9o.out hb5)
          obtain ⟨y0, y1, y2, y3, y4, y5⟩ := And.intro ((hb5.cell (p := ⟨w2.heap.size, 0, none⟩) u4).trans u0) (And.intro ((hb5.cell (p := ⟨w2.heap.size, 1, none⟩) u4).trans u1) (And.intro ((hb5.cell (p := ⟨w2.heap.size, 2, none⟩) u4).trans u2) (And.intro ((hb5.cell (p := ⟨w2.heap.size, 3, none⟩) u4).trans u3) (And.intro ((hb5.cell (p := ⟨xb, _, none⟩) zx9).trans oa) (Nat.lt_of_lt_of_le u4 hb5.size)))))
          have y6 := Nat.lt_of_lt_of_le zx9 hb5.size
          clear hf hb5 u0 u1 u2 u3 u4 o0 oa ob u9 z9 zx9
          go_wp2_with fail
          refine Plan.wp_facts (B := w5.heap.size) planLH15a [] (by kernel_rfl) rfl (by kernel_rfl) (by kernel_rfl) (Nat.le_refl _) ?_
          repeat (first | (apply Plan.runs_skip rfl rfl; simp only [Act.put, List.setIfInBounds_toArray, List.set_cons_zero, List.set_cons_succ]) | (apply Plan.runs_det rfl rfl; (· intro F w' hb hf; obtain ⟨hcl, hfz⟩ := bcell hb; go_simp; rfl); simp only [Act.put, List.setIfInBounds_toArray, List.set_cons_zero, List.set_cons_succ]))
          refine Plan.runs_nil (fun F' wn hb hf => ?_)
          have HBN := hid (bvia HB5.out hb)
          clear hf hb y0 y1 y2 y3 y4 y5
          go_wp2_with fail
          go_roundw
          case rel => exact ⟨k + 1, by omega, by go_num, HBN.out⟩
          case measure => simp [intOf] <;> omega
        | false =>
          have hself := hid (show x.a ∉ nth L (j + 1) by
            rcases HG4.out with ⟨_, h⟩ | h
            · rw [h] at hab; simp at hab
            · exact h)
          refine Plan.wp_facts (B := w4.heap.size) planLH14a [] (by kernel_rfl) rfl (by kernel_rfl) (by kernel_rfl) (Nat.le_refl _) ?_
          repeat (first | (apply Plan.runs_skip rfl rfl; simp only [Act.put, List.setIfInBounds_toArray, List.set_cons_zero, List.set_cons_succ]) | (apply Plan.runs_det rfl rfl; (· intro F w' hb hf; obtain ⟨hcl, hfz⟩ := bcell hb; go_simp; rfl); simp only [Act.put, List.setIfInBounds_toArray, List.set_cons_zero, List.set_cons_succ]))
          refine Plan.runs_nil (fun F' w5 hb5 hf => ?_)
          have HB5 := hid (bvia HB9.out hb5)
          have HB5o := hid (bvia HB9o.out hb5)
          obtain ⟨y0, y1, y2, y3, y4, y5⟩ := And.intro ((hb5.cell (p := ⟨w2.heap.size, 0, none⟩) u4).trans u0) (And.intro ((hb5.cell (p := ⟨w2.heap.size, 1, none⟩) u4).trans u1) (And.intro ((hb5.cell (p := ⟨w2.heap.size, 2, none⟩) u4).trans u2) (And.intro ((hb5.cell (p := ⟨w2.heap.size, 3, none⟩) u4).trans u3) (And.intro ((hb5.cell (p := ⟨xb, _, none⟩) zx9).trans oa) (Nat.lt_of_lt_of_le u4 hb5.size)))))
          have y6 := Nat.lt_of_lt_of_le zx9 hb5.size
          clear hf hb5 u0 u1 u2 u3 u4 o0 oa ob u9 z9 zx9
          go_wp2_with fail
          have hw9 : IntKind.i64.wrap ((j : Int) + 1) = (j : Int) + 1 := IntWalk.i64_in _ (by omega)
          have hw8 : (0 : Int) ≤ (j : Int) + 1 := by omega
          have hw7 : ((j : Int) + 1).toNat = j + 1 := by omega
          have hw6 : (j : Int) + 1 < n9 := by omega
          have hw5 : j + 1 < n9 := by omega
          have k5 := (HB5.out.cell (p := ⟨ib, _, none⟩) HIZ).trans HIC.out
          have zi5 : ib < w5.heap.size := Nat.lt_of_lt_of_le HIZ HB5.out.size
          refine Plan.wp_facts (B := w5.heap.size) planLH15b [(14, valF (.bool false))] (by kernel_rfl) rfl (by kernel_rfl) (by kernel_rfl) (Nat.le_refl _) ?_
          repeat (first | (apply Plan.runs_skip rfl rfl; simp only [Act.put, List.setIfInBounds_toArray, List.set_cons_zero, List.set_cons_succ]) | (apply Plan.runs_det rfl rfl; (· intro F w' hb hf; obtain ⟨hcl, hfz⟩ := bcell hb; go_simp; rfl); simp only [Act.put, List.setIfInBounds_toArray, List.set_cons_zero, List.set_cons_succ]))
          refine Plan.runs_call_val (.bool false) 16 #[.slice (IS (j + 1)).a (nth L (j + 1)).length (IS (j + 1)).c, .int .i64 x.a] rfl rfl _ rfl rfl (fun F w' hb hf => by go_simp) rfl (fun F' w' hb hf => ?_) ?_
          · refine (has_calls _ _ (nth L (j + 1)) x.a w' ((HIR.out.below HB5.out).below hb)).mono ?_
            rintro e w'' ⟨rfl, hb'⟩
            exact ⟨ret_bool (decide_eq_false hself.out), hb'⟩
          simp only [Act.put, List.setIfInBounds_toArray, List.set_cons_zero, List.set_cons_succ]
          repeat (first | (apply Plan.runs_skip rfl rfl; simp only [Act.put, List.setIfInBounds_toArray, List.set_cons_zero, List.set_cons_succ]) | (apply Plan.runs_det rfl rfl; (· intro F w' hb hf; obtain ⟨hcl, hfz⟩ := bcell hb; go_simp; rfl); simp only [Act.put, List.setIfInBounds_toArray, List.set_cons_zero, List.set_cons_succ]))
          refine Plan.runs_nil (fun F' wn hb hf => ?_)
          have HBN := hid (bvia HB5.out hb)
          clear hf hb y0 y1 y2 y3 y4 y5 hw9 hw8 hw7 hw6 hw5
          go_wp2_with fail
          go_roundw
          case rel => exact ⟨k + 1, by omega, by go_num, HBN.out⟩
          case measure => simp [intOf] <;> omega
    · go_wp2_with fail
      go_ret
      exact ⟨rfl, HBO.out⟩

end Go.Proofs.Ytlgedpiabooloaa
