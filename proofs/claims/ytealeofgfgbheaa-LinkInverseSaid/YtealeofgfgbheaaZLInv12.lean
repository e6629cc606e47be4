/-
  LinkInverse: the law, walked.
-/
import Derived.Test.YtealeofgfgbheaaZValid
import Derived.Test.YtealeofgfgbheaaZLkS
import Derived.Test.YtealeofgfgbheaaZAwk12
import Derived.Test.YtealeofgfgbheaaZCopy
import Derived.Test.YtealeofgfgbheaaZDist12
import Derived.Test.YtealeofgfgbheaaZREqual2
import Derived.Test.YtealeofgfgbheaaZRegU
namespace Go.Proofs.Ytealeofgfgbheaa
set_option linter.unusedVariables false
set_option linter.unusedSimpArgs false
open Go.RowKit

noncomputable def planIv11 : RegS.Plan := RegS.mkPlan (regionOf Try.f7 11) [(10, .new), (11, .new), (12, .st 10), (13, .st 11)] [(10, 12), (11, 13)] [(12, [10, 4]), (13, [11, 9])]
noncomputable def planIv17 : RegS.Plan := RegS.mkPlan (regionOf Try.f7 17) [(10, .new), (11, .new), (12, .st 10), (13, .st 11)] [(10, 12), (11, 13)] [(12, [10, 4]), (13, [11, 9])]
noncomputable def planIv19 : Plan := mkPlan (regionOf Try.f7 19) [(27, .new)] []
def zeroI (x : Ins) : Ins := { x with b := 0 }

set_option maxRecDepth 100000 in
set_option maxHeartbeats 8000000 in
theorem linverse_calls (lo : Nat) (vf vg vl : Value) (p : Prg) (w : World) (hp : ProgAt lo w vf vg vl p) (hwf : PrgWf p) :
    Calls Try.prog 7 #[.agg #[vf, vg, vl, .int .i64 p.main]] w fun e w' => e = .returned (.bool true) ∧ Below w.heap.size w w' := by
  have HP := hid hp
  have HWF := hid hwf
  obtain ⟨fa, fc, _, _, _, rfl, -⟩ := hp.funcs.open
  obtain ⟨ga, gc, _, _, rfl, -⟩ := hp.globs.open
  obtain ⟨la, lc, _, _, _, rfl, -⟩ := hp.lays.open
  clear hp hwf
  go_enter Try.func7, Try.ntmps7
  go_wp2_with fail
  generalize hW : World.alloc _ _ = W
  have hbx := show BoxAt W w.heap.size 26 [.slice fa p.funcs.length fc, .slice ga p.globals.length gc, .slice la p.layouts.length lc, .int .i64 p.main] by rw [← hW]; exact BoxAt.new _ _ _ _ _ rfl rfl
  have hbW : Below w.heap.size w W := by rw [← hW]; exact (Below.refl _ _).alloc (Nat.le_refl _) _
  have HBX := hid hbx
  have HBW := hid hbW
  clear hW hbx hbW
  refine (awake12_calls W).mono ?_
  rintro e w1 ⟨rfl, hb1⟩
  have HB1 := hid (bvia HBW.out hb1)
  have hx1 := HBX.out.below hb1
  have HX1 := hid hx1
  have c0 := hx1.cell 0 _ rfl
  have c1 := hx1.cell 1 _ rfl
  have c2 := hx1.cell 2 _ rfl
  have c3 := hx1.cell 3 _ rfl
  have s1 := hx1.lt
  clear hx1 hb1
  go_wp2_with fail
  refine (great_calls lo _ _ _ p w1 (HP.out.below HB1.out) HWF.out).mono ?_
  rintro e w2 ⟨⟨gb, rfl⟩, hb2⟩
  have HB2 := hid (bvia HB1.out hb2)
  have hx2 := HX1.out.below hb2
  have HX2 := hid hx2
  clear c0 c1 c2 c3 s1 hb2
  have c0 := hx2.cell 0 _ rfl
  have c1 := hx2.cell 1 _ rfl
  have c2 := hx2.cell 2 _ rfl
  have c3 := hx2.cell 3 _ rfl
  have s1 := hx2.lt
  clear hx2
  cases gb with
  | true =>
    go_wp2_with fail
    go_ret
    exact ⟨rfl, HB2.out⟩
  | false =>
    go_wp2_with fail
    refine (valid_calls lo _ _ _ p w2 (HP.out.below HB2.out)).mono ?_
    rintro e w3 ⟨rfl, hb3⟩
    have HB3 := hid (bvia HB2.out hb3)
    have hx3 := HX2.out.below hb3
    have HX3 := hid hx3
    clear c0 c1 c2 c3 s1 hb3
    have c0 := hx3.cell 0 _ rfl
    have c1 := hx3.cell 1 _ rfl
    have c2 := hx3.cell 2 _ rfl
    have c3 := hx3.cell 3 _ rfl
    have s1 := hx3.lt
    clear hx3
    cases hv : validB p with
    | false =>
      go_wp2_with fail
      go_ret
      exact ⟨rfl, HB3.out⟩
    | true =>
      have hpos := valid_pos hv
      by_cases h64 : p.funcs.length = 64
      · have he : ((p.funcs.length : Int) == 64) = true := by rw [h64]; rfl
        go_wp2_with fail
        go_ret
        exact ⟨rfl, HB3.out⟩
      · have he : ((p.funcs.length : Int) == 64) = false := by
          rw [beq_eq_false_iff_ne]; omega
        have hlt64 : p.funcs.length < 64 := by omega
        have HV := hid hv
        clear hv h64
        go_wp2_with fail
        refine (copy_calls lo _ _ _ p w3 (HP.out.below HB3.out) HWF.out).mono ?_
        rintro e w4 ⟨uf, ug, ul, rfl, hop, hb4⟩
        have hat := OwnPrg.at (lo := 0) hop (Nat.zero_le _) HWF.out
        have HAT4 := hid hat
        have HB4 := hid (bvia HB3.out hb4)
        have HX4 := hid (HX3.out.below hb4)
        obtain ⟨_, _, _, _, _, rfl, -⟩ := hat.funcs.open
        obtain ⟨_, _, _, _, rfl, -⟩ := hat.globs.open
        obtain ⟨_, _, _, _, _, rfl, -⟩ := hat.lays.open
        clear hat hop hb4 c0 c1 c2 c3 s1
        go_wp2_with fail
        refine (split_calls 0 _ _ _ p w4 HAT4.out HWF.out).mono ?_
        rintro e w5 ⟨v, T, rfl, hq, hb5⟩
        rw [split_pts HV.out hlt64] at hq
        have HQ := hid hq
        have HB5 := hid (bvia HB4.out hb5)
        have HX5 := hid (HX4.out.below hb5)
        have HOK := hid (pts_ok (idx_all HV.out hlt64 HWF.out))
        obtain ⟨va, vn, vc, hve⟩ : ∃ va vn vc, v = .slice va vn vc := by
          obtain ⟨va, vc, _, _, e, -⟩ := (ProgsQ.at (lo := 0) hq (Nat.zero_le _) (by rw [pts_len, List.length_range]; omega) HOK.out.wf).row
          exact ⟨va, _, vc, e⟩
        subst hve
        clear hq hb5
        go_wp2_with fail
        refine (link_calls 0 w5 _ _ _ (ProgsQ.at (lo := 0) HQ.out (Nat.zero_le _) (by rw [pts_len, List.length_range]; omega) HOK.out.wf) HOK.out).mono ?_
        rintro e w6 ⟨hr, hb6⟩
        rcases hr with ⟨hm, -⟩ | ⟨-, uf, ug, ul, rfl, hR⟩
        · rw [(link_back HV.out hlt64 HWF.out).2] at hm; cases hm
        rw [show mL (ptsL p (List.range p.funcs.length)) = p.main from by
          have h := congrArg Prg.main (link_back HV.out hlt64 HWF.out).1
          exact h]
        rw [(link_back HV.out hlt64 HWF.out).1] at hR
        have HB6 := hid (bvia HB5.out hb6)
        have HX6 := hid (HX5.out.below hb6)
        obtain ⟨qa, qc, qb, qo, QS, rfl, qp, q0, q1, q2, q3, qcode, qbl, -⟩ := hR.funcs.open
        obtain ⟨_, _, _, _, rfl, -⟩ := hR.globs.open
        obtain ⟨ya, yc, yb, yo, YS, rfl, yp, y0, yi, ybl, -⟩ := hR.lays.open
        rw [back_len] at hR qp q0 q1 q2 q3 qcode qbl ⊢
        have HR := hid hR
        have HQF := hid (And.intro qp (And.intro q0 (And.intro q1 (And.intro q2 (And.intro q3 (And.intro qcode qbl))))))
        have HQL := hid (And.intro yp (And.intro y0 (And.intro yi ybl)))
        clear hR hb6 qp q0 q1 q2 q3 qcode qbl yp y0 yi ybl
        have hx6 := HX6.out
        have c0 := hx6.cell 0 _ rfl
        have c1 := hx6.cell 1 _ rfl
        have c2 := hx6.cell 2 _ rfl
        have c3 := hx6.cell 3 _ rfl
        have s1 := hx6.lt
        clear hx6
        go_wp2_with fail
        generalize hW7 : World.alloc _ _ = w7
        have HY7 := hid (show BoxAt w7 w6.heap.size 26 [.slice qa p.funcs.length qc, .slice _ (backP p).globals.length _, .slice ya (backP p).layouts.length yc, .int .i64 p.main] by rw [← hW7]; exact BoxAt.new _ _ _ _ _ rfl rfl)
        have hb67 : Below w6.heap.size w6 w7 := by rw [← hW7]; exact (Below.refl _ _).alloc (Nat.le_refl _) _
        have HX7 := hid (HX6.out.below hb67)
        have HB7 := hid (bvia HB6.out hb67)
        have HB67 := hid hb67
        clear hW7 hb67 c0 c1 c2 c3 s1
        refine (distinct_calls lo _ _ _ p w7 (HP.out.below HB7.out)).mono ?_
        rintro e w8 ⟨⟨db, rfl, hdb⟩, hb8⟩
        have HX8 := hid (HX7.out.below hb8)
        have HY8 := hid (HY7.out.below hb8)
        have HB8 := hid (bvia HB7.out hb8)
        have HB68 := hid (bvia HB67.out hb8)
        have HDB := hid hdb
        clear hb8 hdb HX7 HY7
        have hmid : ∀ {Q : Exit → Act → World → Prop}, True := fun {_} => trivial
        clear hmid
        have hx8 := HX8.out
        have c0 := hx8.cell 0 _ rfl
        have c1 := hx8.cell 1 _ rfl
        have c2 := hx8.cell 2 _ rfl
        have c3 := hx8.cell 3 _ rfl
        have s1 := hx8.lt
        have hy8 := HY8.out
        have e0 := hy8.cell 0 _ rfl
        have e1 := hy8.cell 1 _ rfl
        have e2 := hy8.cell 2 _ rfl
        have e3 := hy8.cell 3 _ rfl
        have s2 := hy8.lt
        clear hx8 hy8
        cases db with
        | true =>
          go_wp2_with fail
          refine (requal_calls lo w5.heap.size _ _ _ _ _ _ p (backP p) w8 (HP.out.below HB8.out) (HR.out.below HB68.out)).mono ?_
          rintro e w9 ⟨rfl, hb9⟩
          rw [eqC_true (back_same HV.out (HDB.out trivial)).symm]
          have HX9 := hid (HX8.out.below hb9)
          have HY9 := hid (HY8.out.below hb9)
          have HB9 := hid (bvia HB8.out hb9)
          have HB69 := hid (bvia HB68.out hb9)
          clear c0 c1 c2 c3 s1 e0 e1 e2 e3 s2 hb9 HX8 HY8
          go_wp2_with fail
          go_loopw [5] (fun iv wr => ∃ i : Nat, i ≤ p.funcs.length ∧ iv = .int .i64 i ∧ Below w9.heap.size w9 wr) (fun iv _ => p.funcs.length - (intOf iv).toNat)
          case atStart => exact ⟨0, Nat.zero_le _, rfl, Below.refl _ _⟩
          case round =>
          obtain ⟨i, hi, rfl, hb⟩ := hrel
          obtain ⟨wo, hwo⟩ : ∃ wo, wo = wr := ⟨_, rfl⟩
          subst hwo
          have HB := hid hb
          have hxo := HX9.out.below hb
          have hyo := HY9.out.below hb
          have c0 := hxo.cell 0 _ rfl
          have c3 := hxo.cell 3 _ rfl
          have s1 := hxo.lt
          have e0 := hyo.cell 0 _ rfl
          have e3 := hyo.cell 3 _ rfl
          have s2 := hyo.lt
          clear hb hxo hyo
          by_cases hlt : i < p.funcs.length
          · have hlt2 : (i : Int) < p.funcs.length := Int.ofNat_lt.2 hlt
            have hi3 : ¬ ((i : Int) < 0) := by omega
            obtain ⟨_, _, fb, fo, FS, hfe, fp, f0, f1, f2, f3, fcode, fbl, -⟩ := HP.out.funcs.open
            obtain ⟨rfl, -, rfl⟩ := Value.slice.inj hfe
            obtain rfl := fp (by omega)
            obtain ⟨qp, q0, q1, q2, q3, qcode, qbl⟩ := HQF.out
            obtain rfl := qp (by omega)
            have hbw := bvia HB9.out HB.out
            have hbq := bvia HB69.out HB.out
            have gl := fbl (by omega)
            have ql := qbl (by omega)
            have y0 := (hbw.cell (p := ⟨fb, _, none⟩) gl).trans (f0 i hlt)
            have y1 := (hbw.cell (p := ⟨fb, _, none⟩) gl).trans (f1 i hlt)
            have y2 := (hbw.cell (p := ⟨fb, _, none⟩) gl).trans (f2 i hlt)
            have y3 := (hbw.cell (p := ⟨fb, _, none⟩) gl).trans (f3 i hlt)
            have gz := Nat.lt_of_lt_of_le gl hbw.size
            have z0 := (hbq.cell (p := ⟨qb, _, none⟩) ql).trans (q0 i hlt)
            have z1 := (hbq.cell (p := ⟨qb, _, none⟩) ql).trans (q1 i hlt)
            have z2 := (hbq.cell (p := ⟨qb, _, none⟩) ql).trans (q2 i hlt)
            have z3 := (hbq.cell (p := ⟨qb, _, none⟩) ql).trans (q3 i hlt)
            have qz := Nat.lt_of_lt_of_le ql hbq.size
            have HC := hid ((fcode i hlt).below hbw)
            have HD := hid ((qcode i hlt).below hbq)
            rw [back_nth p hlt] at z0 z1 z2 z3 HD
            dsimp only at z0 z1 z2 z3 HD
            rw [List.length_map] at z3 HD
            obtain ⟨⟨sa, sn, sc⟩, hsF⟩ : ∃ s, FS i = s := ⟨_, rfl⟩
            obtain ⟨⟨ta, tn, tc⟩, hsQ⟩ : ∃ s, QS i = s := ⟨_, rfl⟩
            rw [hsF] at y3 HC
            rw [hsQ] at z3 HD
            dsimp only at y3 z3 HC HD
            obtain ⟨nA, hA⟩ : ∃ nA, (nth p.funcs i).name = nA := ⟨_, rfl⟩
            obtain ⟨nP, hP⟩ : ∃ nP, (nth p.funcs i).params = nP := ⟨_, rfl⟩
            obtain ⟨nR, hR⟩ : ∃ nR, (nth p.funcs i).regs = nR := ⟨_, rfl⟩
            rw [hA] at y0 z0
            rw [hP] at y1 z1
            rw [hR] at y2 z2
            have HI := hid hlt
            clear hsF hsQ hA hP hR hfe fp f0 f1 f2 f3 fcode fbl qp q0 q1 q2 q3 qcode qbl hbw hbq gl ql
            go_wp2_with fail
            refine RegS.Plan.wp_facts (B := wo.heap.size) planIv11 [(10, varF wo.heap.size 41 [.string ⟨#[]⟩, .int .i64 0, .int .i64 0, .slice none 0 0]), (11, varF wo.heap.size 41 [.string ⟨#[]⟩, .int .i64 0, .int .i64 0, .slice none 0 0]), (12, layN wo.heap.size 41 [.string nA, .int .i64 nP, .int .i64 nR, .slice sa (nth p.funcs i).code.length sc]), (13, layN wo.heap.size 41 [.string nA, .int .i64 nP, .int .i64 nR, .slice ta (nth p.funcs i).code.length tc])] (by kernel_rfl) rfl (by kernel_rfl) (by kernel_rfl) (Nat.le_refl _) ?_
            repeat (first | (apply RegS.Plan.runs_skip rfl rfl; simp only [Act.put, List.setIfInBounds_toArray, List.set_cons_zero, List.set_cons_succ]) | (apply RegS.Plan.runs_det rfl rfl; (· intro F w' hb hf; obtain ⟨hcl, hfz⟩ := bcell hb; go_simp; rfl); simp only [Act.put, List.setIfInBounds_toArray, List.set_cons_zero, List.set_cons_succ]))
            refine RegS.Plan.runs_alloc 41 [.string ⟨#[]⟩, .int .i64 0, .int .i64 0, .slice none 0 0] rfl rfl _ rfl rfl (fun w' => by go_simp) rfl (Nat.le_refl _) (fun bF => ?_)
            simp only [Act.put, List.setIfInBounds_toArray, List.set_cons_zero, List.set_cons_succ]
            refine RegS.Plan.runs_alloc 41 [.string ⟨#[]⟩, .int .i64 0, .int .i64 0, .slice none 0 0] rfl rfl _ rfl rfl (fun w' => by go_simp) rfl (Nat.le_refl _) (fun bG => ?_)
            simp only [Act.put, List.setIfInBounds_toArray, List.set_cons_zero, List.set_cons_succ]
            refine RegS.Plan.runs_putN 41 bF _ _ rfl rfl rfl rfl rfl rfl (by kernel_rfl) rfl rfl rfl rfl (fun w' hx => ?_) ?_
            · have q0 := hx.cell 0 _ rfl
              have q1 := hx.cell 1 _ rfl
              have q2 := hx.cell 2 _ rfl
              have q3 := hx.cell 3 _ rfl
              have qz := hx.lt
              have f0 := hx.frozen 0
              have f1 := hx.frozen 1
              have f2 := hx.frozen 2
              have f3 := hx.frozen 3
              simp only [layW]
              go_simp
            refine RegS.Plan.runs_putN 41 bG _ _ rfl rfl rfl rfl rfl rfl (by kernel_rfl) rfl rfl rfl rfl (fun w' hx => ?_) ?_
            · have q0 := hx.cell 0 _ rfl
              have q1 := hx.cell 1 _ rfl
              have q2 := hx.cell 2 _ rfl
              have q3 := hx.cell 3 _ rfl
              have qz := hx.lt
              have f0 := hx.frozen 0
              have f1 := hx.frozen 1
              have f2 := hx.frozen 2
              have f3 := hx.frozen 3
              simp only [layW]
              go_simp
            refine RegS.Plan.runs_nil (fun F w10 hb hf => ?_)
            obtain ⟨b1, b2, h1, h2, hx, hy, -, -, -⟩ := RegS.Plan.rest_two hf 12 13 rfl rfl (by kernel_rfl) (by kernel_rfl) rfl rfl rfl rfl (by decide)
            have h1' : Value.pointer (some ⟨bF, 0, none⟩) = Value.pointer (some ⟨b1, 0, none⟩) := by
              have h := h1
              have h' : Value.tuple #[Value.pointer (some ⟨bF, 0, none⟩), _] = Value.tuple #[Value.pointer (some ⟨b1, 0, none⟩), _] := h
              simpa using h'
            have h2' : Value.pointer (some ⟨bG, 0, none⟩) = Value.pointer (some ⟨b2, 0, none⟩) := by
              have h := h2
              have h' : Value.tuple #[Value.pointer (some ⟨bG, 0, none⟩), _] = Value.tuple #[Value.pointer (some ⟨b2, 0, none⟩), _] := h
              simpa using h'
            obtain rfl : bF = b1 := by simpa using h1'
            obtain rfl : bG = b2 := by simpa using h2'
            have HF := hid hx
            have HG := hid hy
            have HB10 := hid (bvia HB.out hb)
            have HC10 := hid (HC.out.below hb)
            have HD10 := hid (HD.out.below hb)
            have u0 := hx.cell 0 _ rfl
            have u3 := hx.cell 3 _ rfl
            have uz := hx.lt
            have v0 := hy.cell 0 _ rfl
            have v3 := hy.cell 3 _ rfl
            have vz := hy.lt
            clear h1 h2 h1' h2' hx hy hb hf HC HD c0 c3 s1 e0 e3 s2 y0 y1 y2 y3 gz z0 z1 z2 z3 qz
            go_wp2_with fail
            clear u0 u3 uz v0 v3 vz
            go_loopw [8] (fun kv wr => ∃ k : Nat, k ≤ (nth p.funcs i).code.length ∧ kv = .int .i64 k ∧ Below w10.heap.size w10 wr) (fun kv _ => (nth p.funcs i).code.length - (intOf kv).toNat)
            case atStart => exact ⟨0, Nat.zero_le _, rfl, Below.refl _ _⟩
            case round =>
            obtain ⟨k, hk, rfl, hb⟩ := hrel
            obtain ⟨wl, hwl⟩ : ∃ wl, wl = wr := ⟨_, rfl⟩
            subst hwl
            have HBL := hid hb
            have hx := HF.out.below hb
            have hy := HG.out.below hb
            have u3 := hx.cell 3 _ rfl
            have uz := hx.lt
            have v3 := hy.cell 3 _ rfl
            have vz := hy.lt
            clear hx hy
            by_cases hkl : k < (nth p.funcs i).code.length
            · have hkl2 : (k : Int) < (nth p.funcs i).code.length := Int.ofNat_lt.2 hkl
              have hk3 : ¬ ((k : Int) < 0) := by omega
              obtain ⟨_, _, cb, co, hce, cp, k0, k1, k2, k3, k4, kbl, -, -, -, hclen⟩ := HC10.out.open
              obtain ⟨_, _, db, dO, hde, dp, m0, m1, m2, m3, m4, mbl, -⟩ := HD10.out.open
              rw [List.length_map] at hde dp m0 m1 m2 m3 m4 mbl
              obtain ⟨rfl, -, rfl⟩ := Value.slice.inj hce
              obtain ⟨rfl, -, rfl⟩ := Value.slice.inj hde
              obtain rfl := cp (by omega)
              obtain rfl := dp (by omega)
              have cl := kbl (by omega)
              have dl := mbl (by omega)
              obtain ⟨x, hx⟩ : ∃ x, nth (nth p.funcs i).code k = x := ⟨_, rfl⟩
              obtain ⟨y, hy⟩ : ∃ y, reY p x = y := ⟨_, rfl⟩
              have hxy : nth ((nth p.funcs i).code.map (reY p)) k = y := by rw [nth_map _ _ _ hkl, hx, hy]
              have d0 := (hb.cell (p := ⟨cb, _, none⟩) cl).trans (k0 k hkl)
              have d1 := (hb.cell (p := ⟨cb, _, none⟩) cl).trans (k1 k hkl)
              have d2 := (hb.cell (p := ⟨cb, _, none⟩) cl).trans (k2 k hkl)
              have d3 := (hb.cell (p := ⟨cb, _, none⟩) cl).trans (k3 k hkl)
              have d4 := (hb.cell (p := ⟨cb, _, none⟩) cl).trans (k4 k hkl)
              have g0 := (hb.cell (p := ⟨db, _, none⟩) dl).trans (m0 k hkl)
              have g1 := (hb.cell (p := ⟨db, _, none⟩) dl).trans (m1 k hkl)
              have g2 := (hb.cell (p := ⟨db, _, none⟩) dl).trans (m2 k hkl)
              have g3 := (hb.cell (p := ⟨db, _, none⟩) dl).trans (m3 k hkl)
              have g4 := (hb.cell (p := ⟨db, _, none⟩) dl).trans (m4 k hkl)
              have cz := Nat.lt_of_lt_of_le cl hb.size
              have dz := Nat.lt_of_lt_of_le dl hb.size
              rw [hx] at d0 d1 d2 d3 d4
              rw [hxy] at g0 g1 g2 g3 g4
              have HMEM := hid (show x ∈ (nth p.funcs i).code by rw [← hx]; exact nth_mem _ _ hkl)
              have HY := hid hy
              clear hce cp k0 k1 k2 k3 k4 kbl hde dp m0 m1 m2 m3 m4 mbl hb hx hy hxy cl dl
              go_wp2_with fail
              refine RegS.Plan.wp_facts (B := wl.heap.size) planIv17 [(10, varF wl.heap.size 43 [.int .i64 0, .int .i64 0, .int .i64 0, .int .i64 0, .int .i64 0]), (11, varF wl.heap.size 43 [.int .i64 0, .int .i64 0, .int .i64 0, .int .i64 0, .int .i64 0]), (12, layN wl.heap.size 43 [.int .i64 x.op, .int .i64 x.a, .int .i64 x.b, .int .i64 x.c, .int .i64 x.pos]), (13, layN wl.heap.size 43 [.int .i64 y.op, .int .i64 y.a, .int .i64 y.b, .int .i64 y.c, .int .i64 y.pos])] (by kernel_rfl) rfl (by kernel_rfl) (by kernel_rfl) (Nat.le_refl _) ?_
              repeat (first | (apply RegS.Plan.runs_skip rfl rfl; simp only [Act.put, List.setIfInBounds_toArray, List.set_cons_zero, List.set_cons_succ]) | (apply RegS.Plan.runs_det rfl rfl; (· intro F w' hb hf; obtain ⟨hcl, hfz⟩ := bcell hb; go_simp; rfl); simp only [Act.put, List.setIfInBounds_toArray, List.set_cons_zero, List.set_cons_succ]))
              refine RegS.Plan.runs_alloc 43 [.int .i64 0, .int .i64 0, .int .i64 0, .int .i64 0, .int .i64 0] rfl rfl _ rfl rfl (fun w' => by go_simp) rfl (Nat.le_refl _) (fun bX => ?_)
              simp only [Act.put, List.setIfInBounds_toArray, List.set_cons_zero, List.set_cons_succ]
              refine RegS.Plan.runs_alloc 43 [.int .i64 0, .int .i64 0, .int .i64 0, .int .i64 0, .int .i64 0] rfl rfl _ rfl rfl (fun w' => by go_simp) rfl (Nat.le_refl _) (fun bY => ?_)
              simp only [Act.put, List.setIfInBounds_toArray, List.set_cons_zero, List.set_cons_succ]
              refine RegS.Plan.runs_putN 43 bX _ _ rfl rfl rfl rfl rfl rfl (by kernel_rfl) rfl rfl rfl rfl (fun w' hx => ?_) ?_
              · have q0 := hx.cell 0 _ rfl
                have q1 := hx.cell 1 _ rfl
                have q2 := hx.cell 2 _ rfl
                have q3 := hx.cell 3 _ rfl
                have q4 := hx.cell 4 _ rfl
                have qz := hx.lt
                have f0 := hx.frozen 0
                have f1 := hx.frozen 1
                have f2 := hx.frozen 2
                have f3 := hx.frozen 3
                have f4 := hx.frozen 4
                simp only [layW]
                go_simp
              refine RegS.Plan.runs_putN 43 bY _ _ rfl rfl rfl rfl rfl rfl (by kernel_rfl) rfl rfl rfl rfl (fun w' hx => ?_) ?_
              · have q0 := hx.cell 0 _ rfl
                have q1 := hx.cell 1 _ rfl
                have q2 := hx.cell 2 _ rfl
                have q3 := hx.cell 3 _ rfl
                have q4 := hx.cell 4 _ rfl
                have qz := hx.lt
                have f0 := hx.frozen 0
                have f1 := hx.frozen 1
                have f2 := hx.frozen 2
                have f3 := hx.frozen 3
                have f4 := hx.frozen 4
                simp only [layW]
                go_simp
              refine RegS.Plan.runs_nil (fun F w11 hb hf => ?_)
              obtain ⟨b1, b2, h1, h2, hx, hy, hl1, hl2, hne⟩ := RegS.Plan.rest_two hf 12 13 rfl rfl (by kernel_rfl) (by kernel_rfl) rfl rfl rfl rfl (by decide)
              have h1' : Value.pointer (some ⟨bX, 0, none⟩) = Value.pointer (some ⟨b1, 0, none⟩) := by
                have h := h1
                have h' : Value.tuple #[Value.pointer (some ⟨bX, 0, none⟩), _] = Value.tuple #[Value.pointer (some ⟨b1, 0, none⟩), _] := h
                simpa using h'
              have h2' : Value.pointer (some ⟨bY, 0, none⟩) = Value.pointer (some ⟨b2, 0, none⟩) := by
                have h := h2
                have h' : Value.tuple #[Value.pointer (some ⟨bY, 0, none⟩), _] = Value.tuple #[Value.pointer (some ⟨b2, 0, none⟩), _] := h
                simpa using h'
              obtain rfl : bX = b1 := by simpa using h1'
              obtain rfl : bY = b2 := by simpa using h2'
              have HX := hid hx
              have HYY := hid hy
              have HB11 := hid (bvia HBL.out hb)
              have HBB := hid (bvia (bvia HB10.out HBL.out) hb)
              have HNE := hid (And.intro hl1 (And.intro hl2 hne))
              clear h1 h2 h1' h2' hb hf u3 uz v3 vz d0 d1 d2 d3 d4 g0 g1 g2 g3 g4 cz dz hl1 hl2 hne
              by_cases h21 : x.op = 21
              · obtain ⟨hb0, hb1⟩ := lay_range HV.out HI.out HMEM.out h21
                obtain ⟨j, hj1, hj2, hj3⟩ := reY_lay h21 hb0 hb1
                obtain rfl : y = { x with b := (j : Int) } := HY.out.symm.trans hj1
                obtain ⟨nb, hnb⟩ : ∃ nb : Nat, x.b = nb := ⟨x.b.toNat, by omega⟩
                have hnl : nb < p.layouts.length := by omega
                rw [show x.b.toNat = nb by omega] at hj3
                dsimp only at hy
                rw [hnb] at hx
                have hop : (x.op == 21) = true := beq_iff_eq.2 h21
                have HXX := hid hx
                have HYX := hid hy
                have x0 := hx.cell 0 _ rfl
                have x2 := hx.cell 2 _ rfl
                have xz := hx.lt
                have y0 := hy.cell 0 _ rfl
                have y2 := hy.cell 2 _ rfl
                have yz := hy.lt
                have hxo := HX9.out.below HBB.out
                have hyo := HY9.out.below HBB.out
                have c2 := hxo.cell 2 _ rfl
                have s1 := hxo.lt
                have e2 : w11.cell? ⟨w6.heap.size, 2, none⟩ = some (.slice ya (onceY p).length yc) := hyo.cell 2 _ rfl
                have s2 := hyo.lt
                obtain ⟨_, _, lb, lo', LS, hle, lp, l0, li, lbl, -⟩ := HP.out.lays.open
                obtain ⟨rfl, -, rfl⟩ := Value.slice.inj hle
                obtain rfl := lp (by omega)
                obtain ⟨yp, q0, yi, ybl⟩ := HQL.out
                have ej : (backP p).layouts = onceY p := rfl
                rw [ej] at yp q0 yi ybl
                obtain rfl := yp (by omega)
                have hbw := bvia HB9.out HBB.out
                have hbq := bvia HB69.out HBB.out
                have gl := lbl (by omega)
                have ql := ybl (by omega)
                have l1 := (hbw.cell (p := ⟨lb, _, none⟩) gl).trans (l0 nb hnl)
                have t1 := (hbq.cell (p := ⟨yb, _, none⟩) ql).trans (q0 j hj2)
                rw [hj3] at t1
                have gz := Nat.lt_of_lt_of_le gl hbw.size
                have qz := Nat.lt_of_lt_of_le ql hbq.size
                have HI1 := hid ((li nb hnl).below hbw)
                have hi2 := yi j hj2
                rw [hj3] at hi2
                have HI2 := hid (hi2.below hbq)
                have n1 : (nb : Int) < p.layouts.length := Int.ofNat_lt.2 hnl
                have n2 : (j : Int) < (onceY p).length := Int.ofNat_lt.2 hj2
                have n3 : ¬ ((p.layouts.length : Int) ≤ nb) := by omega
                have n4 : ¬ (((onceY p).length : Int) ≤ j) := by omega
                have n5 : ¬ ((nb : Int) < 0) := by omega
                have n6 : ¬ ((j : Int) < 0) := by omega
                have n7 : decide ((p.layouts.length : Int) ≤ nb) = false := decide_eq_false n3
                have n8 : decide (((onceY p).length : Int) ≤ j) = false := decide_eq_false n4
                have n9 : decide (p.layouts.length ≤ nb) = false := decide_eq_false (by omega)
                have na : decide ((onceY p).length ≤ j) = false := decide_eq_false (by omega)
                clear hx hy hxo hyo hle lp l0 li lbl yp q0 yi ybl ej hbw hbq gl ql hi2 hb0 hb1 hj1 hj3 h21 hnb
                go_wp2_with fail
                refine Plan.wp_chain planIv19 w11.heap.size (by kernel_rfl) rfl (by kernel_rfl) (by kernel_rfl) ?_
                repeat (first | (apply Plan.chain_skip rfl rfl; simp only [Act.put, List.setIfInBounds_toArray, List.set_cons_zero, List.set_cons_succ]) | (apply Plan.chain_det rfl rfl; (· intro w' hb; obtain ⟨hcl, hfz⟩ := bcellB hb; go_simp; rfl); simp only [Act.put, List.setIfInBounds_toArray, List.set_cons_zero, List.set_cons_succ]))
                refine Plan.chain_call 23 #[.slice (LS nb).a (nth p.layouts nb).length (LS nb).c, .slice (YS j).a (nth p.layouts nb).length (YS j).c] (fun v w' => v = .bool true ∧ Below w11.heap.size w11 w') rfl rfl rfl (by go_simp) ?_ (fun v w' h => h.2) (fun va w12 h => ?_)
                · refine (ints_calls _ _ _ _ _ _ w11.drew (HI1.out.below (Below.refl _ _).drew) (HI2.out.below (Below.refl _ _).drew)).mono ?_
                  rintro e w' ⟨rfl, hb⟩
                  exact ⟨_, rfl, by simp [intsEq], (Below.refl _ _).drew.trans hb⟩
                obtain ⟨rfl, hb12⟩ := h
                simp only [Act.put, List.setIfInBounds_toArray, List.set_cons_zero, List.set_cons_succ]
                repeat (first | (apply Plan.chain_skip rfl rfl; simp only [Act.put, List.setIfInBounds_toArray, List.set_cons_zero, List.set_cons_succ]) | (apply Plan.chain_det rfl rfl; (· intro w' hb; obtain ⟨hcl, hfz⟩ := bcellB hb; go_simp; rfl); simp only [Act.put, List.setIfInBounds_toArray, List.set_cons_zero, List.set_cons_succ]))
                refine Plan.chain_nil ?_
                have hx12 := HXX.out.below hb12
                have hy12 := HYX.out.below hb12
                have HB12 := hid (bvia HB11.out hb12)
                have HBX := hid (Nat.le_trans HBL.out.size HNE.out.1)
                have HBY := hid (Nat.le_trans HBL.out.size HNE.out.2.1)
                have hne := HNE.out.2.2
                have hxA := hx12.set 2 (.int .i64 0)
                have hyA := hy12.other ⟨bX, 2, none⟩ (.int .i64 0) (Ne.symm hne)
                have hxB := hxA.other ⟨bY, 2, none⟩ (.int .i64 0) hne
                have hyB := hyA.set 2 (.int .i64 0)
                have p2 := hx12.cell 2 _ rfl
                have pz := hx12.lt
                have pf := hx12.frozen 2
                have r2 := hyA.cell 2 _ rfl
                have rz := hyA.lt
                have rf := hyA.frozen 2
                have a0 := hxB.cell 0 _ rfl
                have a1 := hxB.cell 1 _ rfl
                have a2 := hxB.cell 2 _ rfl
                have a3 := hxB.cell 3 _ rfl
                have a4 := hxB.cell 4 _ rfl
                have az := hxB.lt
                have b0 := hyB.cell 0 _ rfl
                have b1 := hyB.cell 1 _ rfl
                have b2 := hyB.cell 2 _ rfl
                have b3 := hyB.cell 3 _ rfl
                have b4 := hyB.cell 4 _ rfl
                have bz := hyB.lt
                have hneq := neqIns (zeroI x) (zeroI x)
                rw [eqC_true rfl] at hneq
                unfold insV zeroI at hneq
                dsimp only at hneq
                have hgd := insGuard
                clear x0 x2 xz y0 y2 yz c2 s1 e2 s2 l1 t1 gz qz n1 n2 n3 n4 n5 n6 n7 n8 n9 na hx12 hy12 hxA hyA hxB hyB hb12
                go_wp2_with fail
                refine ⟨⟨k + 1, hkl, by go_num, (HB12.out.setCell (p := ⟨bX, 2, none⟩) HBX.out _).setCell (p := ⟨bY, 2, none⟩) HBY.out _⟩, ?_⟩
                simp only [intOf]
                omega
              · have hys : y = x := by rw [← HY.out]; exact reY_same h21
                rw [hys] at hy
                have hop : (x.op == 21) = false := beq_eq_false_iff_ne.2 h21
                have x0 := hx.cell 0 _ rfl
                have x1 := hx.cell 1 _ rfl
                have x2 := hx.cell 2 _ rfl
                have x3 := hx.cell 3 _ rfl
                have x4 := hx.cell 4 _ rfl
                have xz := hx.lt
                have y0 := hy.cell 0 _ rfl
                have y1 := hy.cell 1 _ rfl
                have y2 := hy.cell 2 _ rfl
                have y3 := hy.cell 3 _ rfl
                have y4 := hy.cell 4 _ rfl
                have yz := hy.lt
                have hneq := neqIns x x
                rw [eqC_true rfl] at hneq
                unfold insV at hneq
                have hgd := insGuard
                clear hx hy hys h21
                go_wp2_with fail
                refine ⟨⟨k + 1, hkl, by go_num, HB11.out⟩, ?_⟩
                simp only [intOf]
                omega
            · have hke : k = (nth p.funcs i).code.length := by omega
              subst hke
              go_wp2_with fail
              refine ⟨⟨i + 1, hlt, by go_num, bvia HB10.out HBL.out⟩, ?_⟩
              simp only [intOf]
              omega
          · have hie : i = p.funcs.length := by omega
            subst hie
            go_wp2_with fail
            go_ret
            exact ⟨rfl, bvia HB9.out HB.out⟩
        | false =>
          obtain ⟨w9, hw9⟩ : ∃ w9, w9 = w8 := ⟨_, rfl⟩
          subst hw9
          have HX9 := HX8
          have HY9 := HY8
          have HB9 := HB8
          have HB69 := HB68
          go_wp2_with fail
          clear c0 c1 c2 c3 s1 e0 e1 e2 e3 s2
          go_loopw [5] (fun iv wr => ∃ i : Nat, i ≤ p.funcs.length ∧ iv = .int .i64 i ∧ Below w9.heap.size w9 wr) (fun iv _ => p.funcs.length - (intOf iv).toNat)
          case atStart => exact ⟨0, Nat.zero_le _, rfl, Below.refl _ _⟩
          case round =>
          obtain ⟨i, hi, rfl, hb⟩ := hrel
          obtain ⟨wo, hwo⟩ : ∃ wo, wo = wr := ⟨_, rfl⟩
          subst hwo
          have HB := hid hb
          have hxo := HX9.out.below hb
          have hyo := HY9.out.below hb
          have c0 := hxo.cell 0 _ rfl
          have c3 := hxo.cell 3 _ rfl
          have s1 := hxo.lt
          have e0 := hyo.cell 0 _ rfl
          have e3 := hyo.cell 3 _ rfl
          have s2 := hyo.lt
          clear hb hxo hyo
          by_cases hlt : i < p.funcs.length
          · have hlt2 : (i : Int) < p.funcs.length := Int.ofNat_lt.2 hlt
            have hi3 : ¬ ((i : Int) < 0) := by omega
            obtain ⟨_, _, fb, fo, FS, hfe, fp, f0, f1, f2, f3, fcode, fbl, -⟩ := HP.out.funcs.open
            obtain ⟨rfl, -, rfl⟩ := Value.slice.inj hfe
            obtain rfl := fp (by omega)
            obtain ⟨qp, q0, q1, q2, q3, qcode, qbl⟩ := HQF.out
            obtain rfl := qp (by omega)
            have hbw := bvia HB9.out HB.out
            have hbq := bvia HB69.out HB.out
            have gl := fbl (by omega)
            have ql := qbl (by omega)
            have y0 := (hbw.cell (p := ⟨fb, _, none⟩) gl).trans (f0 i hlt)
            have y1 := (hbw.cell (p := ⟨fb, _, none⟩) gl).trans (f1 i hlt)
            have y2 := (hbw.cell (p := ⟨fb, _, none⟩) gl).trans (f2 i hlt)
            have y3 := (hbw.cell (p := ⟨fb, _, none⟩) gl).trans (f3 i hlt)
            have gz := Nat.lt_of_lt_of_le gl hbw.size
            have z0 := (hbq.cell (p := ⟨qb, _, none⟩) ql).trans (q0 i hlt)
            have z1 := (hbq.cell (p := ⟨qb, _, none⟩) ql).trans (q1 i hlt)
            have z2 := (hbq.cell (p := ⟨qb, _, none⟩) ql).trans (q2 i hlt)
            have z3 := (hbq.cell (p := ⟨qb, _, none⟩) ql).trans (q3 i hlt)
            have qz := Nat.lt_of_lt_of_le ql hbq.size
            have HC := hid ((fcode i hlt).below hbw)
            have HD := hid ((qcode i hlt).below hbq)
            rw [back_nth p hlt] at z0 z1 z2 z3 HD
            dsimp only at z0 z1 z2 z3 HD
            rw [List.length_map] at z3 HD
            obtain ⟨⟨sa, sn, sc⟩, hsF⟩ : ∃ s, FS i = s := ⟨_, rfl⟩
            obtain ⟨⟨ta, tn, tc⟩, hsQ⟩ : ∃ s, QS i = s := ⟨_, rfl⟩
            rw [hsF] at y3 HC
            rw [hsQ] at z3 HD
            dsimp only at y3 z3 HC HD
            obtain ⟨nA, hA⟩ : ∃ nA, (nth p.funcs i).name = nA := ⟨_, rfl⟩
            obtain ⟨nP, hP⟩ : ∃ nP, (nth p.funcs i).params = nP := ⟨_, rfl⟩
            obtain ⟨nR, hR⟩ : ∃ nR, (nth p.funcs i).regs = nR := ⟨_, rfl⟩
            rw [hA] at y0 z0
            rw [hP] at y1 z1
            rw [hR] at y2 z2
            have HI := hid hlt
            clear hsF hsQ hA hP hR hfe fp f0 f1 f2 f3 fcode fbl qp q0 q1 q2 q3 qcode qbl hbw hbq gl ql
            go_wp2_with fail
            refine RegS.Plan.wp_facts (B := wo.heap.size) planIv11 [(10, varF wo.heap.size 41 [.string ⟨#[]⟩, .int .i64 0, .int .i64 0, .slice none 0 0]), (11, varF wo.heap.size 41 [.string ⟨#[]⟩, .int .i64 0, .int .i64 0, .slice none 0 0]), (12, layN wo.heap.size 41 [.string nA, .int .i64 nP, .int .i64 nR, .slice sa (nth p.funcs i).code.length sc]), (13, layN wo.heap.size 41 [.string nA, .int .i64 nP, .int .i64 nR, .slice ta (nth p.funcs i).code.length tc])] (by kernel_rfl) rfl (by kernel_rfl) (by kernel_rfl) (Nat.le_refl _) ?_
            repeat (first | (apply RegS.Plan.runs_skip rfl rfl; simp only [Act.put, List.setIfInBounds_toArray, List.set_cons_zero, List.set_cons_succ]) | (apply RegS.Plan.runs_det rfl rfl; (· intro F w' hb hf; obtain ⟨hcl, hfz⟩ := bcell hb; go_simp; rfl); simp only [Act.put, List.setIfInBounds_toArray, List.set_cons_zero, List.set_cons_succ]))
            refine RegS.Plan.runs_alloc 41 [.string ⟨#[]⟩, .int .i64 0, .int .i64 0, .slice none 0 0] rfl rfl _ rfl rfl (fun w' => by go_simp) rfl (Nat.le_refl _) (fun bF => ?_)
            simp only [Act.put, List.setIfInBounds_toArray, List.set_cons_zero, List.set_cons_succ]
            refine RegS.Plan.runs_alloc 41 [.string ⟨#[]⟩, .int .i64 0, .int .i64 0, .slice none 0 0] rfl rfl _ rfl rfl (fun w' => by go_simp) rfl (Nat.le_refl _) (fun bG => ?_)
            simp only [Act.put, List.setIfInBounds_toArray, List.set_cons_zero, List.set_cons_succ]
            refine RegS.Plan.runs_putN 41 bF _ _ rfl rfl rfl rfl rfl rfl (by kernel_rfl) rfl rfl rfl rfl (fun w' hx => ?_) ?_
            · have q0 := hx.cell 0 _ rfl
              have q1 := hx.cell 1 _ rfl
              have q2 := hx.cell 2 _ rfl
              have q3 := hx.cell 3 _ rfl
              have qz := hx.lt
              have f0 := hx.frozen 0
              have f1 := hx.frozen 1
              have f2 := hx.frozen 2
              have f3 := hx.frozen 3
              simp only [layW]
              go_simp
            refine RegS.Plan.runs_putN 41 bG _ _ rfl rfl rfl rfl rfl rfl (by kernel_rfl) rfl rfl rfl rfl (fun w' hx => ?_) ?_
            · have q0 := hx.cell 0 _ rfl
              have q1 := hx.cell 1 _ rfl
              have q2 := hx.cell 2 _ rfl
              have q3 := hx.cell 3 _ rfl
              have qz := hx.lt
              have f0 := hx.frozen 0
              have f1 := hx.frozen 1
              have f2 := hx.frozen 2
              have f3 := hx.frozen 3
              simp only [layW]
              go_simp
            refine RegS.Plan.runs_nil (fun F w10 hb hf => ?_)
            obtain ⟨b1, b2, h1, h2, hx, hy, -, -, -⟩ := RegS.Plan.rest_two hf 12 13 rfl rfl (by kernel_rfl) (by kernel_rfl) rfl rfl rfl rfl (by decide)
            have h1' : Value.pointer (some ⟨bF, 0, none⟩) = Value.pointer (some ⟨b1, 0, none⟩) := by
              have h := h1
              have h' : Value.tuple #[Value.pointer (some ⟨bF, 0, none⟩), _] = Value.tuple #[Value.pointer (some ⟨b1, 0, none⟩), _] := h
              simpa using h'
            have h2' : Value.pointer (some ⟨bG, 0, none⟩) = Value.pointer (some ⟨b2, 0, none⟩) := by
              have h := h2
              have h' : Value.tuple #[Value.pointer (some ⟨bG, 0, none⟩), _] = Value.tuple #[Value.pointer (some ⟨b2, 0, none⟩), _] := h
              simpa using h'
            obtain rfl : bF = b1 := by simpa using h1'
            obtain rfl : bG = b2 := by simpa using h2'
            have HF := hid hx
            have HG := hid hy
            have HB10 := hid (bvia HB.out hb)
            have HC10 := hid (HC.out.below hb)
            have HD10 := hid (HD.out.below hb)
            have u0 := hx.cell 0 _ rfl
            have u3 := hx.cell 3 _ rfl
            have uz := hx.lt
            have v0 := hy.cell 0 _ rfl
            have v3 := hy.cell 3 _ rfl
            have vz := hy.lt
            clear h1 h2 h1' h2' hx hy hb hf HC HD c0 c3 s1 e0 e3 s2 y0 y1 y2 y3 gz z0 z1 z2 z3 qz
            go_wp2_with fail
            clear u0 u3 uz v0 v3 vz
            go_loopw [8] (fun kv wr => ∃ k : Nat, k ≤ (nth p.funcs i).code.length ∧ kv = .int .i64 k ∧ Below w10.heap.size w10 wr) (fun kv _ => (nth p.funcs i).code.length - (intOf kv).toNat)
            case atStart => exact ⟨0, Nat.zero_le _, rfl, Below.refl _ _⟩
            case round =>
            obtain ⟨k, hk, rfl, hb⟩ := hrel
            obtain ⟨wl, hwl⟩ : ∃ wl, wl = wr := ⟨_, rfl⟩
            subst hwl
            have HBL := hid hb
            have hx := HF.out.below hb
            have hy := HG.out.below hb
            have u3 := hx.cell 3 _ rfl
            have uz := hx.lt
            have v3 := hy.cell 3 _ rfl
            have vz := hy.lt
            clear hx hy
            by_cases hkl : k < (nth p.funcs i).code.length
            · have hkl2 : (k : Int) < (nth p.funcs i).code.length := Int.ofNat_lt.2 hkl
              have hk3 : ¬ ((k : Int) < 0) := by omega
              obtain ⟨_, _, cb, co, hce, cp, k0, k1, k2, k3, k4, kbl, -, -, -, hclen⟩ := HC10.out.open
              obtain ⟨_, _, db, dO, hde, dp, m0, m1, m2, m3, m4, mbl, -⟩ := HD10.out.open
              rw [List.length_map] at hde dp m0 m1 m2 m3 m4 mbl
              obtain ⟨rfl, -, rfl⟩ := Value.slice.inj hce
              obtain ⟨rfl, -, rfl⟩ := Value.slice.inj hde
              obtain rfl := cp (by omega)
              obtain rfl := dp (by omega)
              have cl := kbl (by omega)
              have dl := mbl (by omega)
              obtain ⟨x, hx⟩ : ∃ x, nth (nth p.funcs i).code k = x := ⟨_, rfl⟩
              obtain ⟨y, hy⟩ : ∃ y, reY p x = y := ⟨_, rfl⟩
              have hxy : nth ((nth p.funcs i).code.map (reY p)) k = y := by rw [nth_map _ _ _ hkl, hx, hy]
              have d0 := (hb.cell (p := ⟨cb, _, none⟩) cl).trans (k0 k hkl)
              have d1 := (hb.cell (p := ⟨cb, _, none⟩) cl).trans (k1 k hkl)
              have d2 := (hb.cell (p := ⟨cb, _, none⟩) cl).trans (k2 k hkl)
              have d3 := (hb.cell (p := ⟨cb, _, none⟩) cl).trans (k3 k hkl)
              have d4 := (hb.cell (p := ⟨cb, _, none⟩) cl).trans (k4 k hkl)
              have g0 := (hb.cell (p := ⟨db, _, none⟩) dl).trans (m0 k hkl)
              have g1 := (hb.cell (p := ⟨db, _, none⟩) dl).trans (m1 k hkl)
              have g2 := (hb.cell (p := ⟨db, _, none⟩) dl).trans (m2 k hkl)
              have g3 := (hb.cell (p := ⟨db, _, none⟩) dl).trans (m3 k hkl)
              have g4 := (hb.cell (p := ⟨db, _, none⟩) dl).trans (m4 k hkl)
              have cz := Nat.lt_of_lt_of_le cl hb.size
              have dz := Nat.lt_of_lt_of_le dl hb.size
              rw [hx] at d0 d1 d2 d3 d4
              rw [hxy] at g0 g1 g2 g3 g4
              have HMEM := hid (show x ∈ (nth p.funcs i).code by rw [← hx]; exact nth_mem _ _ hkl)
              have HY := hid hy
              clear hce cp k0 k1 k2 k3 k4 kbl hde dp m0 m1 m2 m3 m4 mbl hb hx hy hxy cl dl
              go_wp2_with fail
              refine RegS.Plan.wp_facts (B := wl.heap.size) planIv17 [(10, varF wl.heap.size 43 [.int .i64 0, .int .i64 0, .int .i64 0, .int .i64 0, .int .i64 0]), (11, varF wl.heap.size 43 [.int .i64 0, .int .i64 0, .int .i64 0, .int .i64 0, .int .i64 0]), (12, layN wl.heap.size 43 [.int .i64 x.op, .int .i64 x.a, .int .i64 x.b, .int .i64 x.c, .int .i64 x.pos]), (13, layN wl.heap.size 43 [.int .i64 y.op, .int .i64 y.a, .int .i64 y.b, .int .i64 y.c, .int .i64 y.pos])] (by kernel_rfl) rfl (by kernel_rfl) (by kernel_rfl) (Nat.le_refl _) ?_
              repeat (first | (apply RegS.Plan.runs_skip rfl rfl; simp only [Act.put, List.setIfInBounds_toArray, List.set_cons_zero, List.set_cons_succ]) | (apply RegS.Plan.runs_det rfl rfl; (· intro F w' hb hf; obtain ⟨hcl, hfz⟩ := bcell hb; go_simp; rfl); simp only [Act.put, List.setIfInBounds_toArray, List.set_cons_zero, List.set_cons_succ]))
              refine RegS.Plan.runs_alloc 43 [.int .i64 0, .int .i64 0, .int .i64 0, .int .i64 0, .int .i64 0] rfl rfl _ rfl rfl (fun w' => by go_simp) rfl (Nat.le_refl _) (fun bX => ?_)
              simp only [Act.put, List.setIfInBounds_toArray, List.set_cons_zero, List.set_cons_succ]
              refine RegS.Plan.runs_alloc 43 [.int .i64 0, .int .i64 0, .int .i64 0, .int .i64 0, .int .i64 0] rfl rfl _ rfl rfl (fun w' => by go_simp) rfl (Nat.le_refl _) (fun bY => ?_)
              simp only [Act.put, List.setIfInBounds_toArray, List.set_cons_zero, List.set_cons_succ]
              refine RegS.Plan.runs_putN 43 bX _ _ rfl rfl rfl rfl rfl rfl (by kernel_rfl) rfl rfl rfl rfl (fun w' hx => ?_) ?_
              · have q0 := hx.cell 0 _ rfl
                have q1 := hx.cell 1 _ rfl
                have q2 := hx.cell 2 _ rfl
                have q3 := hx.cell 3 _ rfl
                have q4 := hx.cell 4 _ rfl
                have qz := hx.lt
                have f0 := hx.frozen 0
                have f1 := hx.frozen 1
                have f2 := hx.frozen 2
                have f3 := hx.frozen 3
                have f4 := hx.frozen 4
                simp only [layW]
                go_simp
              refine RegS.Plan.runs_putN 43 bY _ _ rfl rfl rfl rfl rfl rfl (by kernel_rfl) rfl rfl rfl rfl (fun w' hx => ?_) ?_
              · have q0 := hx.cell 0 _ rfl
                have q1 := hx.cell 1 _ rfl
                have q2 := hx.cell 2 _ rfl
                have q3 := hx.cell 3 _ rfl
                have q4 := hx.cell 4 _ rfl
                have qz := hx.lt
                have f0 := hx.frozen 0
                have f1 := hx.frozen 1
                have f2 := hx.frozen 2
                have f3 := hx.frozen 3
                have f4 := hx.frozen 4
                simp only [layW]
                go_simp
              refine RegS.Plan.runs_nil (fun F w11 hb hf => ?_)
              obtain ⟨b1, b2, h1, h2, hx, hy, hl1, hl2, hne⟩ := RegS.Plan.rest_two hf 12 13 rfl rfl (by kernel_rfl) (by kernel_rfl) rfl rfl rfl rfl (by decide)
              have h1' : Value.pointer (some ⟨bX, 0, none⟩) = Value.pointer (some ⟨b1, 0, none⟩) := by
                have h := h1
                have h' : Value.tuple #[Value.pointer (some ⟨bX, 0, none⟩), _] = Value.tuple #[Value.pointer (some ⟨b1, 0, none⟩), _] := h
                simpa using h'
              have h2' : Value.pointer (some ⟨bY, 0, none⟩) = Value.pointer (some ⟨b2, 0, none⟩) := by
                have h := h2
                have h' : Value.tuple #[Value.pointer (some ⟨bY, 0, none⟩), _] = Value.tuple #[Value.pointer (some ⟨b2, 0, none⟩), _] := h
                simpa using h'
              obtain rfl : bX = b1 := by simpa using h1'
              obtain rfl : bY = b2 := by simpa using h2'
              have HX := hid hx
              have HYY := hid hy
              have HB11 := hid (bvia HBL.out hb)
              have HBB := hid (bvia (bvia HB10.out HBL.out) hb)
              have HNE := hid (And.intro hl1 (And.intro hl2 hne))
              clear h1 h2 h1' h2' hb hf u3 uz v3 vz d0 d1 d2 d3 d4 g0 g1 g2 g3 g4 cz dz hl1 hl2 hne
              by_cases h21 : x.op = 21
              · obtain ⟨hb0, hb1⟩ := lay_range HV.out HI.out HMEM.out h21
                obtain ⟨j, hj1, hj2, hj3⟩ := reY_lay h21 hb0 hb1
                obtain rfl : y = { x with b := (j : Int) } := HY.out.symm.trans hj1
                obtain ⟨nb, hnb⟩ : ∃ nb : Nat, x.b = nb := ⟨x.b.toNat, by omega⟩
                have hnl : nb < p.layouts.length := by omega
                rw [show x.b.toNat = nb by omega] at hj3
                dsimp only at hy
                rw [hnb] at hx
                have hop : (x.op == 21) = true := beq_iff_eq.2 h21
                have HXX := hid hx
                have HYX := hid hy
                have x0 := hx.cell 0 _ rfl
                have x2 := hx.cell 2 _ rfl
                have xz := hx.lt
                have y0 := hy.cell 0 _ rfl
                have y2 := hy.cell 2 _ rfl
                have yz := hy.lt
                have hxo := HX9.out.below HBB.out
                have hyo := HY9.out.below HBB.out
                have c2 := hxo.cell 2 _ rfl
                have s1 := hxo.lt
                have e2 : w11.cell? ⟨w6.heap.size, 2, none⟩ = some (.slice ya (onceY p).length yc) := hyo.cell 2 _ rfl
                have s2 := hyo.lt
                obtain ⟨_, _, lb, lo', LS, hle, lp, l0, li, lbl, -⟩ := HP.out.lays.open
                obtain ⟨rfl, -, rfl⟩ := Value.slice.inj hle
                obtain rfl := lp (by omega)
                obtain ⟨yp, q0, yi, ybl⟩ := HQL.out
                have ej : (backP p).layouts = onceY p := rfl
                rw [ej] at yp q0 yi ybl
                obtain rfl := yp (by omega)
                have hbw := bvia HB9.out HBB.out
                have hbq := bvia HB69.out HBB.out
                have gl := lbl (by omega)
                have ql := ybl (by omega)
                have l1 := (hbw.cell (p := ⟨lb, _, none⟩) gl).trans (l0 nb hnl)
                have t1 := (hbq.cell (p := ⟨yb, _, none⟩) ql).trans (q0 j hj2)
                rw [hj3] at t1
                have gz := Nat.lt_of_lt_of_le gl hbw.size
                have qz := Nat.lt_of_lt_of_le ql hbq.size
                have HI1 := hid ((li nb hnl).below hbw)
                have hi2 := yi j hj2
                rw [hj3] at hi2
                have HI2 := hid (hi2.below hbq)
                have n1 : (nb : Int) < p.layouts.length := Int.ofNat_lt.2 hnl
                have n2 : (j : Int) < (onceY p).length := Int.ofNat_lt.2 hj2
                have n3 : ¬ ((p.layouts.length : Int) ≤ nb) := by omega
                have n4 : ¬ (((onceY p).length : Int) ≤ j) := by omega
                have n5 : ¬ ((nb : Int) < 0) := by omega
                have n6 : ¬ ((j : Int) < 0) := by omega
                have n7 : decide ((p.layouts.length : Int) ≤ nb) = false := decide_eq_false n3
                have n8 : decide (((onceY p).length : Int) ≤ j) = false := decide_eq_false n4
                have n9 : decide (p.layouts.length ≤ nb) = false := decide_eq_false (by omega)
                have na : decide ((onceY p).length ≤ j) = false := decide_eq_false (by omega)
                clear hx hy hxo hyo hle lp l0 li lbl yp q0 yi ybl ej hbw hbq gl ql hi2 hb0 hb1 hj1 hj3 h21 hnb
                go_wp2_with fail
                refine Plan.wp_chain planIv19 w11.heap.size (by kernel_rfl) rfl (by kernel_rfl) (by kernel_rfl) ?_
                repeat (first | (apply Plan.chain_skip rfl rfl; simp only [Act.put, List.setIfInBounds_toArray, List.set_cons_zero, List.set_cons_succ]) | (apply Plan.chain_det rfl rfl; (· intro w' hb; obtain ⟨hcl, hfz⟩ := bcellB hb; go_simp; rfl); simp only [Act.put, List.setIfInBounds_toArray, List.set_cons_zero, List.set_cons_succ]))
                refine Plan.chain_call 23 #[.slice (LS nb).a (nth p.layouts nb).length (LS nb).c, .slice (YS j).a (nth p.layouts nb).length (YS j).c] (fun v w' => v = .bool true ∧ Below w11.heap.size w11 w') rfl rfl rfl (by go_simp) ?_ (fun v w' h => h.2) (fun va w12 h => ?_)
                · refine (ints_calls _ _ _ _ _ _ w11.drew (HI1.out.below (Below.refl _ _).drew) (HI2.out.below (Below.refl _ _).drew)).mono ?_
                  rintro e w' ⟨rfl, hb⟩
                  exact ⟨_, rfl, by simp [intsEq], (Below.refl _ _).drew.trans hb⟩
                obtain ⟨rfl, hb12⟩ := h
                simp only [Act.put, List.setIfInBounds_toArray, List.set_cons_zero, List.set_cons_succ]
                repeat (first | (apply Plan.chain_skip rfl rfl; simp only [Act.put, List.setIfInBounds_toArray, List.set_cons_zero, List.set_cons_succ]) | (apply Plan.chain_det rfl rfl; (· intro w' hb; obtain ⟨hcl, hfz⟩ := bcellB hb; go_simp; rfl); simp only [Act.put, List.setIfInBounds_toArray, List.set_cons_zero, List.set_cons_succ]))
                refine Plan.chain_nil ?_
                have hx12 := HXX.out.below hb12
                have hy12 := HYX.out.below hb12
                have HB12 := hid (bvia HB11.out hb12)
                have HBX := hid (Nat.le_trans HBL.out.size HNE.out.1)
                have HBY := hid (Nat.le_trans HBL.out.size HNE.out.2.1)
                have hne := HNE.out.2.2
                have hxA := hx12.set 2 (.int .i64 0)
                have hyA := hy12.other ⟨bX, 2, none⟩ (.int .i64 0) (Ne.symm hne)
                have hxB := hxA.other ⟨bY, 2, none⟩ (.int .i64 0) hne
                have hyB := hyA.set 2 (.int .i64 0)
                have p2 := hx12.cell 2 _ rfl
                have pz := hx12.lt
                have pf := hx12.frozen 2
                have r2 := hyA.cell 2 _ rfl
                have rz := hyA.lt
                have rf := hyA.frozen 2
                have a0 := hxB.cell 0 _ rfl
                have a1 := hxB.cell 1 _ rfl
                have a2 := hxB.cell 2 _ rfl
                have a3 := hxB.cell 3 _ rfl
                have a4 := hxB.cell 4 _ rfl
                have az := hxB.lt
                have b0 := hyB.cell 0 _ rfl
                have b1 := hyB.cell 1 _ rfl
                have b2 := hyB.cell 2 _ rfl
                have b3 := hyB.cell 3 _ rfl
                have b4 := hyB.cell 4 _ rfl
                have bz := hyB.lt
                have hneq := neqIns (zeroI x) (zeroI x)
                rw [eqC_true rfl] at hneq
                unfold insV zeroI at hneq
                dsimp only at hneq
                have hgd := insGuard
                clear x0 x2 xz y0 y2 yz c2 s1 e2 s2 l1 t1 gz qz n1 n2 n3 n4 n5 n6 n7 n8 n9 na hx12 hy12 hxA hyA hxB hyB hb12
                go_wp2_with fail
                refine ⟨⟨k + 1, hkl, by go_num, (HB12.out.setCell (p := ⟨bX, 2, none⟩) HBX.out _).setCell (p := ⟨bY, 2, none⟩) HBY.out _⟩, ?_⟩
                simp only [intOf]
                omega
              · have hys : y = x := by rw [← HY.out]; exact reY_same h21
                rw [hys] at hy
                have hop : (x.op == 21) = false := beq_eq_false_iff_ne.2 h21
                have x0 := hx.cell 0 _ rfl
                have x1 := hx.cell 1 _ rfl
                have x2 := hx.cell 2 _ rfl
                have x3 := hx.cell 3 _ rfl
                have x4 := hx.cell 4 _ rfl
                have xz := hx.lt
                have y0 := hy.cell 0 _ rfl
                have y1 := hy.cell 1 _ rfl
                have y2 := hy.cell 2 _ rfl
                have y3 := hy.cell 3 _ rfl
                have y4 := hy.cell 4 _ rfl
                have yz := hy.lt
                have hneq := neqIns x x
                rw [eqC_true rfl] at hneq
                unfold insV at hneq
                have hgd := insGuard
                clear hx hy hys h21
                go_wp2_with fail
                refine ⟨⟨k + 1, hkl, by go_num, HB11.out⟩, ?_⟩
                simp only [intOf]
                omega
            · have hke : k = (nth p.funcs i).code.length := by omega
              subst hke
              go_wp2_with fail
              refine ⟨⟨i + 1, hlt, by go_num, bvia HB10.out HBL.out⟩, ?_⟩
              simp only [intOf]
              omega
          · have hie : i = p.funcs.length := by omega
            subst hie
            go_wp2_with fail
            go_ret
            exact ⟨rfl, bvia HB9.out HB.out⟩

end Go.Proofs.Ytealeofgfgbheaa
