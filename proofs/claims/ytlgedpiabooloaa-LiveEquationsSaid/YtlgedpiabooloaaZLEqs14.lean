/-
  The law LiveEquations, walked.
-/
import Derived.Test.YtlgedpiabooloaaZLIn14
namespace Go.Proofs.Ytlgedpiabooloaa
set_option linter.unusedVariables false
set_option linter.unusedSimpArgs false
open Go.RowKit

noncomputable def planLE18 : Plan := mkPlan (regionOf Try.f6 18) [(3, .new), (14, .new)] []
theorem setL_self {l : List Int} (h : Inc l) : setL l = l := inc_ext _ _ (setL_inc l) h fun x => setL_mem l x

set_option maxRecDepth 100000 in
set_option maxHeartbeats 8000000 in
theorem equations_no (lo : Nat) (vf vg vl : Value) (p : Prg) (n : Nat) (w : World) (hp : ProgAt lo w vf vg vl p) (hv : validB p = false) :
    Calls Try.prog 6 #[.agg #[vf, vg, vl, .int .i64 p.main], .int .u8 n] w fun e w' => e = .returned (.bool true) ∧ Below w.heap.size w w' := by
  have HP := hid hp
  have HV := hid hv
  clear hp hv
  go_enter Try.func6, Try.ntmps6
  go_wp2_with fail
  generalize hW : World.alloc _ _ = W
  have hbW : Below w.heap.size w W := by rw [← hW]; exact (Below.refl _ _).alloc (Nat.le_refl _) _
  have R1 := hid (show BoxAt W w.heap.size 26 [vf, vg, vl, .int .i64 p.main] by rw [← hW]; exact BoxAt.new _ _ _ _ _ rfl rfl)
  have HBW := hid hbW
  clear hW hbW
  refine (awake14_calls W).mono ?_
  rintro e w1 ⟨rfl, hb1⟩
  have hr := R1.out.below hb1
  have c0 := hr.cell 0 _ rfl
  have c1 := hr.cell 1 _ rfl
  have c2 := hr.cell 2 _ rfl
  have c3 := hr.cell 3 _ rfl
  have s1 := hr.lt
  have HB1 := hid (bvia HBW.out hb1)
  clear hb1 hr
  go_wp2_with fail
  refine (valid_calls lo _ _ _ p w1 (HP.out.below HB1.out)).mono ?_
  rintro e w2 ⟨rfl, hb2⟩
  rw [HV.out]
  have HB2 := hid (bvia HB1.out hb2)
  clear hb2 c0 c1 c2 c3 s1
  go_wp2_with fail
  refine (awake14_calls w2).mono ?_
  rintro e w3 ⟨rfl, hb3⟩
  have HB3 := hid (bvia HB2.out hb3)
  clear hb3
  go_wp2_with fail
  go_ret
  exact ⟨rfl, HB3.out⟩

set_option maxRecDepth 100000 in
set_option maxHeartbeats 16000000 in
theorem equations_yes (lo : Nat) (vf vg vl : Value) (p : Prg) (n0 : Nat) (w : World) (hp : ProgAt lo w vf vg vl p) (hv : validB p = true) (hn0 : n0 < 256) :
    Calls Try.prog 6 #[.agg #[vf, vg, vl, .int .i64 p.main], .int .u8 n0] w fun e w' => e = .returned (.bool true) ∧ Below w.heap.size w w' := by
  have HP := hid hp
  have HV := hid hv
  obtain ⟨hl0, hl1⟩ := valid_pos hv
  have hF : n0 % p.funcs.length < p.funcs.length := Nat.mod_lt _ hl0
  have hidx : (wrap64 (n0 : Int)).tmod (p.funcs.length : Int) = ((n0 % p.funcs.length : Nat) : Int) := by
    have e : wrap64 (n0 : Int) = (n0 : Int) := by unfold wrap64; omega
    rw [e]
    exact (Int.tmod_eq_emod_of_nonneg (by omega)).trans (by simp)
  have hidx2 : (n0 : Int) % (p.funcs.length : Int) = ((n0 % p.funcs.length : Nat) : Int) := by simp
  generalize n0 % p.funcs.length = F at *
  have hz0 : ((p.funcs.length : Int) == 0) = false := beq_eq_false_iff_ne.2 (by omega)
  have HF := hid hF
  have hfok := fok_of_funcB (valid_func hv F hF)
  have HFOK := hid hfok
  have hpos := hfok.pos
  have hle := hfok.le
  have HT := hid (show thereB p F = true by unfold thereB; rw [hv, decide_eq_true (show (0 : Int) ≤ F by omega), decide_eq_true (show (F : Int) < p.funcs.length by omega)]; rfl)
  obtain ⟨fa, fc, fb, fo, S, rfl, p1, x0, x1, x2, x3, xi, k1, _, m1, n1⟩ := hp.funcs.open
  obtain ⟨ga, gc, _, _, rfl, hz2⟩ := hp.globs.open
  obtain ⟨la, lc, _, _, _, rfl, hz3⟩ := hp.lays.open
  have e1 := p1 (by omega)
  subst e1
  have z1 := k1 (by omega)
  have hF2 : (F : Int) < p.funcs.length := Int.ofNat_lt.2 hF
  have d0 := x0 F hF
  have d1 := x1 F hF
  have d2 := x2 F hF
  have d3 := x3 F hF
  have hcode := xi F hF
  obtain ⟨n, hn⟩ : ∃ n, (nth p.funcs F).code.length = n := ⟨_, rfl⟩
  have HN := hid hn
  have HC0 := hid (show CodeAt lo w (.slice (S F).a n (S F).c) (nth p.funcs F).code by rw [← hn]; exact hcode)
  rw [hn] at d3 hpos hle
  obtain ⟨fname, hfn⟩ : ∃ q, (nth p.funcs F).name = q := ⟨_, rfl⟩
  obtain ⟨fpar, hfp⟩ : ∃ q, (nth p.funcs F).params = q := ⟨_, rfl⟩
  obtain ⟨freg, hfr⟩ : ∃ q, (nth p.funcs F).regs = q := ⟨_, rfl⟩
  have HFR := hid hfr
  have hfr64 : freg ≤ 64 := by have := fun_regs hv F hF; omega
  rw [hfn] at d0
  rw [hfp] at d1
  rw [hfr] at d2
  obtain ⟨sa, hsa⟩ : ∃ q, (S F).a = q := ⟨_, rfl⟩
  obtain ⟨sc, hsc⟩ : ∃ q, (S F).c = q := ⟨_, rfl⟩
  rw [hsa, hsc] at d3 HC0
  clear hp hv hfok hn hfn hfp hfr hsa hsc hcode p1 x0 x1 x2 x3 xi k1 hz2 hz3
  go_enter Try.func6, Try.ntmps6
  go_wp2_with fail
  generalize hW : World.alloc _ _ = W
  have hbW : Below w.heap.size w W := by rw [← hW]; exact (Below.refl _ _).alloc (Nat.le_refl _) _
  have R1 := hid (show BoxAt W w.heap.size 26 [.slice (some ⟨fb, fo, none⟩) p.funcs.length fc, .slice ga p.globals.length gc, .slice la p.layouts.length lc, .int .i64 p.main] by rw [← hW]; exact BoxAt.new _ _ _ _ _ rfl rfl)
  have HBW := hid hbW
  clear hW hbW
  refine (awake14_calls W).mono ?_
  rintro e w1 ⟨rfl, hb1⟩
  have hr := R1.out.below hb1
  have c0 := hr.cell 0 _ rfl
  have c1 := hr.cell 1 _ rfl
  have c2 := hr.cell 2 _ rfl
  have c3 := hr.cell 3 _ rfl
  have s1 := hr.lt
  have HR1 := hid hr
  have HB1 := hid (bvia HBW.out hb1)
  clear hb1 hr
  go_wp2_with fail
  refine (valid_calls lo _ _ _ p w1 (HP.out.below HB1.out)).mono ?_
  rintro e w2 ⟨rfl, hb2⟩
  rw [HV.out]
  have HB2 := hid (bvia HB1.out hb2)
  clear c0 c1 c2 c3 s1
  have hr := HR1.out.below hb2
  have c0 := hr.cell 0 _ rfl
  have c1 := hr.cell 1 _ rfl
  have c2 := hr.cell 2 _ rfl
  have c3 := hr.cell 3 _ rfl
  have s1 := hr.lt
  have HR2 := hid hr
  have d0' := (HB2.out.cell (p := ⟨fb, _, none⟩) z1).trans d0
  have d1' := (HB2.out.cell (p := ⟨fb, _, none⟩) z1).trans d1
  have d2' := (HB2.out.cell (p := ⟨fb, _, none⟩) z1).trans d2
  have d3' := (HB2.out.cell (p := ⟨fb, _, none⟩) z1).trans d3
  have z2 : fb < w2.heap.size := by have := HB2.out.size; omega
  clear hb2 hr
  go_wp2_with (
    go_at_call 10
    refine (in_calls lo _ _ _ p F _ (HP.out.below HB2.out)).mono ?_
    rintro e w3 ⟨v', L, rfl, hL, hlay, hb3⟩
    obtain ⟨ia, ic, ib, io, IS, rfl, i1, i2, i3, i4, y1, y2, y3⟩ := hlay.open
    have hLI := hid (show IsLive p F n L by
      rcases hL with ⟨h1, _⟩ | ⟨_, h2⟩
      · rw [HT.out] at h1; cases h1
      · rw [Int.toNat_natCast, HN.out] at h2; exact h2)
    have HFN := hid (inis_fine HV.out HF.out HN.out hLI.out)
    have hLn : L.length = n := HFN.out.len
    have HLN := hid hLn
    have HI := hid (And.intro i1 (And.intro i2 (And.intro i3 i4)))
    have HB3 := hid (bvia HB2.out hb3)
    have hr := HR2.out.below hb3
    have q0 := hr.cell 0 _ rfl
    have q1 := hr.cell 1 _ rfl
    have q2 := hr.cell 2 _ rfl
    have q3 := hr.cell 3 _ rfl
    have t1 := hr.lt
    have HR3 := hid hr
    have e0 := (HB3.out.cell (p := ⟨fb, _, none⟩) z1).trans d0
    have e1 := (HB3.out.cell (p := ⟨fb, _, none⟩) z1).trans d1
    have e2 := (HB3.out.cell (p := ⟨fb, _, none⟩) z1).trans d2
    have e3 := (HB3.out.cell (p := ⟨fb, _, none⟩) z1).trans d3
    have z3 : fb < w3.heap.size := by have := HB3.out.size; omega
    rw [hLn]
    clear i1 i2 i3 i4 hL hlay hb3 hr hLn c0 c1 c2 c3 s1 d0' d1' d2' d3' z2)
  go_loopw [7] (fun i wr => ∃ k : Nat, k ≤ n ∧ i = .int .i64 k ∧ Below w3.heap.size w3 wr) (fun i _ => n - (intOf i).toNat)
  case atStart => exact ⟨0, Nat.zero_le _, rfl, Below.refl _ _⟩
  case round =>
    obtain ⟨k, hk, rfl, hbl⟩ := hrel
    obtain ⟨wo, hwo⟩ : ∃ wo, wo = wr := ⟨_, rfl⟩
    subst hwo
    have HBL := hid hbl
    have HBO := hid (bvia HB3.out hbl)
    have hr := HR3.out.below hbl
    clear hbl q0 q1 q2 q3 t1 e0 e1 e2 e3 z3
    by_cases hlt : k < n
    · have hlt2 : (k : Int) < n := Int.ofNat_lt.2 hlt
      have c0 := hr.cell 0 _ rfl
      have c1 := hr.cell 1 _ rfl
      have c2 := hr.cell 2 _ rfl
      have c3 := hr.cell 3 _ rfl
      have s1 := hr.lt
      have HRO := hid hr
      clear hr
      obtain ⟨N, hNe⟩ : ∃ N, nextL (nth p.funcs F).code k = N := ⟨_, rfl⟩
      have hNx := hid (show ∀ x ∈ N, 0 ≤ x ∧ x < n by rw [← hNe]; have := HFOK.out.jok.nx k (by rw [HN.out]; exact hlt); rw [HN.out] at this; exact this)
      have HNE := hid hNe
      obtain ⟨U, hUe⟩ : ∃ U, usesC p F k = U := ⟨_, rfl⟩
      obtain ⟨D, hDe⟩ : ∃ D, defsC p F k = D := ⟨_, rfl⟩
      have hUr := hid (show ∀ r ∈ U, 0 ≤ r ∧ r < 64 by rw [← hUe]; intro r h; have h1 := uses_in HV.out F k HF.out r h; have := fun_regs HV.out F HF.out; omega)
      have HUE := hid hUe
      have HDE := hid hDe
      have hEQ := hid (show setL (U ++ (outL L N).filter fun r => !decide (r ∈ D)) = nth L k by
        rw [hLI.out.eqs HV.out HF.out k hlt, ← hUe, ← hDe, ← hNe]
        refine inc_ext _ _ (setL_inc _) (setL_inc _) fun x => ?_
        rw [before_mem, setL_mem, List.mem_append, List.mem_filter]
        unfold afterL outL
        rw [setL_mem]
        simp)
      clear hNe hUe hDe
      go_wp2_with (first
        | (go_at_call 18
           refine (ruses_calls lo _ _ _ p F k _ (HP.out.below HBO.out) HV.out).mono ?_
           rw [HUE.out]
           rintro e w4 ⟨v4, rfl, hi4, hb4⟩
           have HB4 := hid (bvia HBO.out hb4)
           have HB4o := hid (bvia HBL.out hb4)
           have HI4 := hid (hi4.mono HBO.out.size)
           have hr := HRO.out.below hb4
           have q0 := hr.cell 0 _ rfl
           have q1 := hr.cell 1 _ rfl
           have q2 := hr.cell 2 _ rfl
           have q3 := hr.cell 3 _ rfl
           have t1 := hr.lt
           have e0 := (HB4.out.cell (p := ⟨fb, _, none⟩) z1).trans d0
           have e1 := (HB4.out.cell (p := ⟨fb, _, none⟩) z1).trans d1
           have e2 := (HB4.out.cell (p := ⟨fb, _, none⟩) z1).trans d2
           have e3 := (HB4.out.cell (p := ⟨fb, _, none⟩) z1).trans d3
           have z3 : fb < w4.heap.size := by have := HB4.out.size; omega
           clear hr hi4 hb4 c0 c1 c2 c3 s1)
        | (go_at_call 19
           refine (rnext_calls lo fname fpar freg _ (nth p.funcs F).code k _ (HC0.out.below HB4.out)).mono ?_
           rw [HNE.out]
           rintro e w5 ⟨v', rfl, hN1, hN2⟩
           obtain ⟨na, nc, nb, no, rfl, u1, u2, u3, u4, u5, u6, u7⟩ := hN1.open
           have HQ := hid (And.intro u1 (And.intro u2 (And.intro u3 u4)))
           have HB5 := hid (bvia HB4.out hN2)
           have HB5o := hid (bvia HB4o.out hN2)
           have HI5 := hid (HI4.out.below hN2)
           clear u1 u2 u3 u4 hN1 hN2 q0 q1 q2 q3 t1 e0 e1 e2 e3 z3))
      go_loopw [8, 10] (fun v i wr => ∃ m : Nat, m ≤ N.length ∧ i = .int .i64 m ∧ IntsAt w.heap.size wr v (setL (U ++ (outL L (N.take m)).filter fun r => !decide (r ∈ D))) ∧ Below w.heap.size w wr ∧ Below w3.heap.size w3 wr ∧ Below w5.heap.size w5 wr) (fun _ i _ => N.length - (intOf i).toNat)
      case atStart =>
        refine ⟨0, Nat.zero_le _, rfl, ?_, HB5.out, HB5o.out, Below.refl _ _⟩
        rw [List.take_zero, outL, List.flatMap_nil, List.filter_nil, List.append_nil, ← HUE.out, setL_self (uses_inc p F k), HUE.out]
        exact HI5.out
      case round =>
        obtain ⟨m, hm, rfl, hi, hba, hbb, hbc⟩ := hrel
        obtain ⟨wi, hwi⟩ : ∃ wi, wi = wr := ⟨_, rfl⟩
        subst hwi
        have HI6 := hid hi
        have HA6 := hid hba
        have HB6 := hid hbb
        have HC6 := hid hbc
        clear hi hba hbb hbc
        by_cases hml : m < N.length
        · have hml2 : (m : Int) < N.length := Int.ofNat_lt.2 hml
          obtain ⟨u1, u2, u3, u4⟩ := HQ.out
          have ea := u1 (by omega)
          subst ea
          obtain ⟨X, hX⟩ := Int.eq_ofNat_of_zero_le (hNx.out _ (nth_mem N m hml)).1
          have hXn : X < n := by have := hNx.out _ (nth_mem N m hml); omega
          have hXn2 : (X : Int) < n := Int.ofNat_lt.2 hXn
          have HG0 := hid (show w5.cell? ⟨nb, no + m, none⟩ = some (.int .i64 (X : Int)) by rw [← hX]; exact u2 m hml)
          have zb := u3 (by omega)
          obtain ⟨i1, i2, i3, i4⟩ := HI.out
          have ei := i1 (by rw [HLN.out]; omega)
          subst ei
          have HG1 := hid (i2 X (by rw [HLN.out]; omega))
          have zi := i4 (by rw [HLN.out]; omega)
          have HROW := hid (i3 X (by rw [HLN.out]; omega))
          have HSN := hid (outL_snoc L N m hml)
          rw [hX, Int.toNat_natCast] at HSN
          obtain ⟨R, hR⟩ : ∃ R, nth L X = R := ⟨_, rfl⟩
          have hRr := hid (show ∀ r ∈ R, 0 ≤ r ∧ r < 64 by rw [← hR]; exact HFN.out.reg X)
          rw [hR] at HG1 HROW HSN
          obtain ⟨ra, hra⟩ : ∃ q, (IS X).a = q := ⟨_, rfl⟩
          obtain ⟨rc, hrc⟩ : ∃ q, (IS X).c = q := ⟨_, rfl⟩
          rw [hra, hrc] at HG1 HROW
          have HM := hid (show ∀ r ∈ outL L (N.take m), 0 ≤ r ∧ r < 64 from outL_reg HFN.out.reg _)
          have hRl : R.length ≤ 64 := by rw [← hR]; exact inc_64 (HFN.out.inc X) (HFN.out.reg X)
          clear u1 u2 u3 u4 i1 i2 i3 i4 hX hR hra hrc
          go_wp2_with fail
          go_loopw [8, 11] (fun v i wr => ∃ j : Nat, j ≤ R.length ∧ i = .int .i64 j ∧ IntsAt w.heap.size wr v (setL (U ++ (outL L (N.take m) ++ R.take j).filter fun r => !decide (r ∈ D))) ∧ Below w.heap.size w wr ∧ Below w3.heap.size w3 wr ∧ Below w5.heap.size w5 wr) (fun _ i _ => R.length - (intOf i).toNat)
          case atStart => exact ⟨0, Nat.zero_le _, rfl, by rw [List.take_zero, List.append_nil]; exact HI6.out, HA6.out, HB6.out, HC6.out⟩
          case round =>
            obtain ⟨j, hj, rfl, hi, hba, hbb, hbc⟩ := hrel
            obtain ⟨wj, hwj⟩ : ∃ wj, wj = wr := ⟨_, rfl⟩
            subst hwj
            have HI7 := hid hi
            have HA7 := hid hba
            have HB7 := hid hbb
            have HC7 := hid hbc
            have k0 := (hbc.cell (p := ⟨nb, _, none⟩) zb).trans HG0.out
            have k1 := (hbb.cell (p := ⟨ib, _, none⟩) zi).trans HG1.out
            have zb7 : nb < wj.heap.size := by have := hbc.size; omega
            have zi7 : ib < wj.heap.size := by have := hbb.size; omega
            have hrow := HROW.out.below hbb
            obtain ⟨ra', rc', rb, ro, he, r1, r2, r3, _, r4, r5, r6⟩ := hrow.open
            obtain ⟨he1, he2⟩ : ra = ra' ∧ rc = rc' := by simpa using he
            subst he1 he2
            clear hi hba hbb hbc hrow he
            by_cases hjl : j < R.length
            · have hjl2 : (j : Int) < R.length := Int.ofNat_lt.2 hjl
              have er := r1 (by omega)
              subst er
              have k2 := r2 j hjl
              have zr7 := r3 (by omega)
              obtain ⟨y, hy⟩ : ∃ y, nth R j = y := ⟨_, rfl⟩
              have hyR : y ∈ R := by rw [← hy]; exact nth_mem R j hjl
              have HYR := hid hyR
              have HTK := hid (show R.take (j + 1) = R.take j ++ [y] by rw [List.take_add_one, List.getElem?_eq_getElem hjl, ← hy, nth_eq _ _ hjl]; rfl)
              rw [hy] at k2
              have HK2 := hid k2
              have hr := HR3.out.below HB7.out
              have c0 := hr.cell 0 _ rfl
              have c1 := hr.cell 1 _ rfl
              have c2 := hr.cell 2 _ rfl
              have c3 := hr.cell 3 _ rfl
              have s1 := hr.lt
              clear hy hyR r1 r2 r3 hr
              cases hd : decide (y ∈ D) with
              | true =>
                have HD := hid hd
                clear hd
                go_wp2_with fail
                refine Plan.wp_facts (B := wj.heap.size) planLE18 [(3, slF intE wj.heap.size D), (14, valF (.bool (decide (y ∈ D))))] (by kernel_rfl) rfl (by kernel_rfl) (by kernel_rfl) (Nat.le_refl _) ?_
                repeat (first | (apply Plan.runs_skip rfl rfl; simp only [Act.put, List.setIfInBounds_toArray, List.set_cons_zero, List.set_cons_succ]) | (apply Plan.runs_det rfl rfl; (· intro F w' hb hf; obtain ⟨hcl, hfz⟩ := bcell hb; go_simp; rfl); simp only [Act.put, List.setIfInBounds_toArray, List.set_cons_zero, List.set_cons_succ]))
                refine Plan.runs_call_sl intE wj.heap.size D 20 #[.agg #[.slice (some ⟨fb, fo, none⟩) p.funcs.length fc, .slice ga p.globals.length gc, .slice la p.layouts.length lc, .int .i64 p.main], .int .i64 F, .int .i64 k] rfl rfl _ rfl rfl (fun F w' hb hf => by obtain ⟨hcl, hfz⟩ := bcell hb; go_simp) rfl (fun F' w' hb hf => ?_) (fun vd => ?_)
                · refine (rdefs_calls lo _ _ _ p F k w' (HP.out.below (bvia HA7.out hb)) HV.out).mono ?_
                  rw [HDE.out]
                  rintro e w'' ⟨v', rfl, hk, hb'⟩
                  have hs := hb.size
                  exact ⟨v', rfl, hk.mono hs, hb', fun k h0 h1 => .inr (hk.blk h0 k h1).1⟩
                simp only [Act.put, List.setIfInBounds_toArray, List.set_cons_zero, List.set_cons_succ]
                repeat (first | (apply Plan.runs_skip rfl rfl; simp only [Act.put, List.setIfInBounds_toArray, List.set_cons_zero, List.set_cons_succ]) | (apply Plan.runs_det rfl rfl; (· intro F w' hb hf; obtain ⟨hcl, hfz⟩ := bcell hb; go_simp; rfl); simp only [Act.put, List.setIfInBounds_toArray, List.set_cons_zero, List.set_cons_succ]))
                refine Plan.runs_call_val (.bool (decide (y ∈ D))) 16 #[vd, .int .i64 y] rfl rfl _ rfl rfl (fun F w' hb hf => by go_simp) rfl (fun F' w' hb hf => ?_) ?_
                · exact has_calls _ _ D y w' (Plan.facts_sl hf 3 rfl (by kernel_rfl) rfl (.inl rfl))
                simp only [Act.put, List.setIfInBounds_toArray, List.set_cons_zero, List.set_cons_succ]
                rw [HD.out]
                repeat (first | (apply Plan.runs_skip rfl rfl; simp only [Act.put, List.setIfInBounds_toArray, List.set_cons_zero, List.set_cons_succ]) | (apply Plan.runs_det rfl rfl; (· intro F w' hb hf; obtain ⟨hcl, hfz⟩ := bcell hb; go_simp; rfl); simp only [Act.put, List.setIfInBounds_toArray, List.set_cons_zero, List.set_cons_succ]))
                refine Plan.runs_nil (fun F' wn hb hf => ?_)
                have HA8 := hid (bvia HA7.out hb)
                have HB8 := hid (bvia HB7.out hb)
                have HC8 := hid (bvia HC7.out hb)
                have HI8 := hid (HI7.out.below hb)
                clear hf hb c0 c1 c2 c3 s1 k0 k1 k2
                go_wp2_with fail
                go_roundw
                case rel =>
                  refine ⟨j + 1, by omega, by go_num, ?_, HA8.out, HB8.out, HC8.out⟩
                  rw [HTK.out, ← List.append_assoc, List.filter_append, show [y].filter (fun r => !decide (r ∈ D)) = [] by simp [HD.out], List.append_nil]
                  exact HI8.out
                case measure => simp [intOf] <;> omega
              | false =>
                have HD := hid hd
                clear hd
                go_wp2_with fail
                refine Plan.wp_facts (B := wj.heap.size) planLE18 [(3, slF intE wj.heap.size D), (14, valF (.bool (decide (y ∈ D))))] (by kernel_rfl) rfl (by kernel_rfl) (by kernel_rfl) (Nat.le_refl _) ?_
                repeat (first | (apply Plan.runs_skip rfl rfl; simp only [Act.put, List.setIfInBounds_toArray, List.set_cons_zero, List.set_cons_succ]) | (apply Plan.runs_det rfl rfl; (· intro F w' hb hf; obtain ⟨hcl, hfz⟩ := bcell hb; go_simp; rfl); simp only [Act.put, List.setIfInBounds_toArray, List.set_cons_zero, List.set_cons_succ]))
                refine Plan.runs_call_sl intE wj.heap.size D 20 #[.agg #[.slice (some ⟨fb, fo, none⟩) p.funcs.length fc, .slice ga p.globals.length gc, .slice la p.layouts.length lc, .int .i64 p.main], .int .i64 F, .int .i64 k] rfl rfl _ rfl rfl (fun F w' hb hf => by obtain ⟨hcl, hfz⟩ := bcell hb; go_simp) rfl (fun F' w' hb hf => ?_) (fun vd => ?_)
                · refine (rdefs_calls lo _ _ _ p F k w' (HP.out.below (bvia HA7.out hb)) HV.out).mono ?_
                  rw [HDE.out]
                  rintro e w'' ⟨v', rfl, hk, hb'⟩
                  have hs := hb.size
                  exact ⟨v', rfl, hk.mono hs, hb', fun k h0 h1 => .inr (hk.blk h0 k h1).1⟩
                simp only [Act.put, List.setIfInBounds_toArray, List.set_cons_zero, List.set_cons_succ]
                repeat (first | (apply Plan.runs_skip rfl rfl; simp only [Act.put, List.setIfInBounds_toArray, List.set_cons_zero, List.set_cons_succ]) | (apply Plan.runs_det rfl rfl; (· intro F w' hb hf; obtain ⟨hcl, hfz⟩ := bcell hb; go_simp; rfl); simp only [Act.put, List.setIfInBounds_toArray, List.set_cons_zero, List.set_cons_succ]))
                refine Plan.runs_call_val (.bool (decide (y ∈ D))) 16 #[vd, .int .i64 y] rfl rfl _ rfl rfl (fun F w' hb hf => by go_simp) rfl (fun F' w' hb hf => ?_) ?_
                · exact has_calls _ _ D y w' (Plan.facts_sl hf 3 rfl (by kernel_rfl) rfl (.inl rfl))
                simp only [Act.put, List.setIfInBounds_toArray, List.set_cons_zero, List.set_cons_succ]
                rw [HD.out]
                repeat (first | (apply Plan.runs_skip rfl rfl; simp only [Act.put, List.setIfInBounds_toArray, List.set_cons_zero, List.set_cons_succ]) | (apply Plan.runs_det rfl rfl; (· intro F w' hb hf; obtain ⟨hcl, hfz⟩ := bcell hb; go_simp; rfl); simp only [Act.put, List.setIfInBounds_toArray, List.set_cons_zero, List.set_cons_succ]))
                refine Plan.runs_nil (fun F' wn hb hf => ?_)
                have HA8 := hid (bvia HA7.out hb)
                have HB8 := hid (bvia HB7.out hb)
                have HC8 := hid (bvia HC7.out hb)
                have HI8 := hid (HI7.out.below hb)
                have g0 := (hb.cell (p := ⟨nb, _, none⟩) zb7).trans k0
                have g1 := (hb.cell (p := ⟨ib, _, none⟩) zi7).trans k1
                have g2 := (hb.cell (p := ⟨rb, _, none⟩) zr7).trans k2
                have zb8 := Nat.lt_of_lt_of_le zb7 hb.size
                have zi8 := Nat.lt_of_lt_of_le zi7 hb.size
                have zr8 := Nat.lt_of_lt_of_le zr7 hb.size
                have HSY := hid (show setL (U ++ (outL L (N.take m) ++ R.take (j + 1)).filter fun r => !decide (r ∈ D)) = withL (setL (U ++ (outL L (N.take m) ++ R.take j).filter fun r => !decide (r ∈ D))) y by
                  rw [← setL_snoc, HTK.out, ← List.append_assoc, List.filter_append, show [y].filter (fun r => !decide (r ∈ D)) = [y] by simp [HD.out], ← List.append_assoc])
                have HLN2 := hid (show (setL (U ++ (outL L (N.take m) ++ R.take j).filter fun r => !decide (r ∈ D))).length ≤ 64 from setL_64 fun r hr => by
                  rcases List.mem_append.1 hr with h | h
                  · exact hUr.out r h
                  · rcases List.mem_append.1 (List.mem_filter.1 h).1 with h | h
                    · exact HM.out r h
                    · exact hRr.out r (List.mem_of_mem_take h))
                clear hf hb c0 c1 c2 c3 s1 k0 k1 k2 zb7 zi7 zr7
                go_wp2_with (
                  go_at_call 21
                  refine (with_calls w.heap.size _ _ y _ HI8.out HA8.out.size (by have := HLN2.out; omega)).mono ?_
                  rintro e w9 ⟨v9, rfl, hi9, hb9, _⟩
                  have HI9 := hid hi9
                  have HB9 := hid hb9
                  clear hi9 hb9)
                go_roundw
                case rel => exact ⟨j + 1, by omega, by go_num, by rw [HSY.out]; exact HI9.out, bvia HA8.out HB9.out, bvia HB8.out HB9.out, bvia HC8.out HB9.out⟩
                case measure => simp [intOf] <;> omega
            · have HJ := hid (show j = R.length by omega)
              clear r1 r2 r3
              go_wp2_with fail
              go_roundw
              case rel => exact ⟨m + 1, by omega, by go_num, by rw [HSN.out]; have := HI7.out; rw [HJ.out, List.take_length] at this; exact this, HA7.out, HB7.out, HC7.out⟩
              case measure => simp [intOf] <;> omega
        · have HM := hid (show m = N.length by omega)
          obtain ⟨i1, i2, i3, i4⟩ := HI.out
          have ei := i1 (by rw [HLN.out]; omega)
          subst ei
          have zi := i4 (by rw [HLN.out]; omega)
          have k1 := (HB6.out.cell (p := ⟨ib, _, none⟩) zi).trans (i2 k (by rw [HLN.out]; omega))
          have zi6 : ib < wi.heap.size := by have := HB6.out.size; omega
          have HROW := hid ((i3 k (by rw [HLN.out]; omega)).below HB6.out)
          have HI6' := hid (show IntsAt w.heap.size wi _ (nth L k) by
            have := HI6.out
            rw [HM.out, List.take_length, hEQ.out] at this
            exact this)
          clear i1 i2 i3 i4
          go_wp2_with (
            go_at_call 12
            refine (ints_calls _ _ _ _ _ _ _ HROW.out HI6'.out).mono ?_
            rw [show intsEq (nth L k) (nth L k) = true by simp [intsEq]]
            rintro e w9 ⟨rfl, hb9⟩
            have HB9 := hid hb9
            clear hb9)
          go_roundw
          case rel => exact ⟨k + 1, by omega, by go_num, bvia HB6.out HB9.out⟩
          case measure => simp [intOf] <;> omega
    · clear hr
      go_wp2_with fail
      go_ret
      exact ⟨rfl, HBO.out⟩

end Go.Proofs.Ytlgedpiabooloaa
