/-
  Nothing is left to remove: the law, walked.
-/
import Derived.Test.YteiohnfmlabelaaGreatZValid
import Derived.Test.YteiohnfmlabelaaGreatZPrAwk
import Derived.Test.YteiohnfmlabelaaGreatZRDead2
namespace Go.Proofs.YteiohnfmlabelaaGreat
set_option linter.unusedVariables false
set_option linter.unusedSimpArgs false
open Go.RowKit

/-- Prune of a copy. -/
theorem valid_len4 {p : Prg} (h : validB p = true) : p.funcs.length ≤ 64 := (valid_pos h).2

set_option maxRecDepth 100000 in
set_option maxHeartbeats 8000000 in
theorem noth_no (lo : Nat) (vf vg vl : Value) (p : Prg) (w : World) (hp : ProgAt lo w vf vg vl p) (hv : validB p = false) :
    Calls Tryz.prog 5 #[.agg #[vf, vg, vl, .int .i64 p.main]] w fun e w' => e = .returned (.bool true) ∧ Below w.heap.size w w' := by
  have HP := hid hp
  have HV := hid hv
  obtain ⟨fa, fc, _, _, _, rfl, -⟩ := hp.funcs.open
  obtain ⟨ga, gc, _, _, rfl, -⟩ := hp.globs.open
  obtain ⟨la, lc, _, _, _, rfl, -⟩ := hp.lays.open
  clear hp hv
  go_enter Tryz.func5, Tryz.ntmps5
  go_wp2_with fail
  generalize hW : World.alloc _ _ = W
  have hbx := show BoxAt W w.heap.size 26 [.slice fa p.funcs.length fc, .slice ga p.globals.length gc, .slice la p.layouts.length lc, .int .i64 p.main] by rw [← hW]; exact BoxAt.new _ _ _ _ _ rfl rfl
  have hbW : Below w.heap.size w W := by rw [← hW]; exact (Below.refl _ _).alloc (Nat.le_refl _) _
  have HBX := hid hbx
  have HBW := hid hbW
  clear hW hbx hbW
  refine (awake15_calls W).mono ?_
  rintro e w1 ⟨rfl, hb1⟩
  have HB1 := hid (bvia HBW.out hb1)
  have hx1 := HBX.out.below hb1
  have c0 := hx1.cell 0 _ rfl
  have c1 := hx1.cell 1 _ rfl
  have c2 := hx1.cell 2 _ rfl
  have c3 := hx1.cell 3 _ rfl
  have s1 := hx1.lt
  clear hx1 hb1
  go_wp2_with fail
  refine (valid_calls lo _ _ _ p w1 (HP.out.below HB1.out)).mono ?_
  rw [HV.out]
  rintro e w2 ⟨rfl, hb2⟩
  have HB2 := hid (bvia HB1.out hb2)
  clear c0 c1 c2 c3 s1 hb2
  go_wp2_with fail
  refine (awake15_calls w2).mono ?_
  rintro e w3 ⟨rfl, hb3⟩
  have HB3 := hid (bvia HB2.out hb3)
  clear hb3
  go_wp2_with fail
  go_ret
  exact ⟨rfl, HB3.out⟩

set_option maxRecDepth 100000 in
set_option maxHeartbeats 8000000 in
theorem noth_yes (lo : Nat) (vf vg vl : Value) (p : Prg) (w : World) (hp : ProgAt lo w vf vg vl p) (hwf : PrgWf p) (hv : validB p = true) :
    Calls Tryz.prog 5 #[.agg #[vf, vg, vl, .int .i64 p.main]] w fun e w' => e = .returned (.bool true) ∧ Below w.heap.size w w' := by
  have HP := hid hp
  have HV := hid hv
  have HWF := hid hwf
  obtain ⟨fa, fc, _, _, _, rfl, -⟩ := hp.funcs.open
  obtain ⟨ga, gc, _, _, rfl, -⟩ := hp.globs.open
  obtain ⟨la, lc, _, _, _, rfl, -⟩ := hp.lays.open
  clear hp hv hwf
  go_enter Tryz.func5, Tryz.ntmps5
  go_wp2_with fail
  generalize hW : World.alloc _ _ = W
  have hbx := show BoxAt W w.heap.size 26 [.slice fa p.funcs.length fc, .slice ga p.globals.length gc, .slice la p.layouts.length lc, .int .i64 p.main] by rw [← hW]; exact BoxAt.new _ _ _ _ _ rfl rfl
  have hbW : Below w.heap.size w W := by rw [← hW]; exact (Below.refl _ _).alloc (Nat.le_refl _) _
  have HBX := hid hbx
  have HBW := hid hbW
  clear hW hbx hbW
  refine (awake15_calls W).mono ?_
  rintro e w1 ⟨rfl, hb1⟩
  have HB1 := hid (bvia HBW.out hb1)
  have hx1 := HBX.out.below hb1
  have HX1 := hid hx1
  have c0 := hx1.cell 0 _ rfl
  have c1 := hx1.cell 1 _ rfl
  have c2 := hx1.cell 2 _ rfl
  have c3 := hx1.cell 3 _ rfl
  have s1 := hx1.lt
  clear hx1 hb1
  go_wp2_with fail
  refine (valid_calls lo _ _ _ p w1 (HP.out.below HB1.out)).mono ?_
  rw [HV.out]
  rintro e w2 ⟨rfl, hb2⟩
  have HB2 := hid (bvia HB1.out hb2)
  have hx2 := HX1.out.below hb2
  clear c0 c1 c2 c3 s1 hb2
  have c0 := hx2.cell 0 _ rfl
  have c1 := hx2.cell 1 _ rfl
  have c2 := hx2.cell 2 _ rfl
  have c3 := hx2.cell 3 _ rfl
  have s1 := hx2.lt
  clear hx2
  go_wp2_with fail
  refine (copy_calls lo _ _ _ p w2 (HP.out.below HB2.out) HWF.out).mono ?_
  rintro e w3 ⟨uf, ug, ul, rfl, hop, hb3⟩
  have hat := OwnPrg.at (lo := 0) hop (Nat.zero_le _) HWF.out
  have HAT3 := hid hat
  have HB3 := hid (bvia HB2.out hb3)
  obtain ⟨_, _, _, _, _, rfl, -⟩ := hat.funcs.open
  obtain ⟨_, _, _, _, rfl, -⟩ := hat.globs.open
  obtain ⟨_, _, _, _, _, rfl, -⟩ := hat.lays.open
  clear hat hop hb3 c0 c1 c2 c3 s1
  go_wp2_with fail
  refine (prune_yes 0 _ _ _ p w3 HAT3.out HV.out).mono ?_
  rintro e w4 ⟨g, cap, ug, ul, q, ss, rs, rfl, hpr, ho, hb4⟩
  have hok := hpr.ok HV.out (fun i hi => by omega)
  have hat := ho.at (valid_pos hok.valid).2
  have HOK := hid hok
  have HO := hid ho
  have HAT := hid hat
  have HB4 := hid (bvia HB3.out hb4)
  obtain ⟨g1, g2, _, _, rfl, -⟩ := hat.globs.open
  obtain ⟨l1, l2, _, _, _, rfl, -⟩ := hat.lays.open
  clear hpr hok ho hat hb4
  go_wp2_with fail
  generalize hW4 : World.alloc w4 _ = W4
  have hb4' : Below w4.heap.size w4 W4 := by rw [← hW4]; exact (Below.refl _ _).alloc (Nat.le_refl _) _
  have hq4 : BoxAt W4 w4.heap.size 26 [.slice (some ⟨g, 0, none⟩) q.funcs.length cap, .slice g1 q.globals.length g2, .slice l1 q.layouts.length l2, .int .i64 q.main] := by rw [← hW4]; exact BoxAt.new _ _ _ _ _ rfl rfl
  have HB4' := hid hb4'
  have HQ4 := hid hq4
  clear hW4 hb4' hq4
  refine (valid_calls 0 _ _ _ q W4 (HAT.out.below HB4'.out)).mono ?_
  rw [HOK.out.valid]
  rintro e w5 ⟨rfl, hb5⟩
  have HQ5 := hid (HQ4.out.below hb5)
  have HB45 := hid (HB4'.out.trans (hb5.mono HB4'.out.size))
  have HB5 := hid (bvia HB4.out HB45.out)
  have HO5 := hid (HO.out.below HB45.out)
  have hqs := (valid_pos HOK.out.valid).2
  clear hb5
  go_wp2_with fail
  go_loopw [4] (fun i wr => ∃ n : Nat, n ≤ q.funcs.length ∧ i = .int .i64 n ∧ Below w5.heap.size w5 wr) (fun i _ => q.funcs.length - (intOf i).toNat)
  case atStart => exact ⟨0, Nat.zero_le _, rfl, Below.refl _ _⟩
  case round =>
  obtain ⟨n, hn, rfl, hbl⟩ := hrel
  obtain ⟨wo, hwo⟩ : ∃ wo, wo = wr := ⟨_, rfl⟩
  subst hwo
  have HBL := hid hbl
  have hq := HQ5.out.below hbl
  have HQ := hid hq
  have f0 := hq.cell 0 _ rfl
  have fz := hq.lt
  clear hbl hq
  by_cases hlt : n < q.funcs.length
  · have hlt2 : (n : Int) < q.funcs.length := Int.ofNat_lt.2 hlt
    have hni : ¬ ((n : Int) < 0) := by omega
    have HOo := hid (HO5.out.below HBL.out)
    obtain ⟨c, hc⟩ : ∃ c, (nth q.funcs n).code = c := ⟨_, rfl⟩
    obtain ⟨q0, q1, q2, q3, qf, qg, qc⟩ := HOo.out.cellsC n hlt c hc
    have HCA := hid qc
    have HK := hid (fok_of_funcB (valid_func HOK.out.valid n hlt))
    have HFD := hid (fix_dead HOK.out.valid n hlt (HOK.out.fix n hlt))
    have HFR := hid (fix_reach HOK.out.valid n hlt (HOK.out.fix n hlt))
    have hl1 := HK.out.le
    rw [hc] at HFR hl1
    have HC := hid hc
    clear qc qf
    go_wp2_with fail
    generalize hW6 : World.alloc wo _ = W6
    have hb6 : Below wo.heap.size wo W6 := by rw [← hW6]; exact (Below.refl _ _).alloc (Nat.le_refl _) _
    have hx6 : BoxAt W6 wo.heap.size 33 [.string (nth q.funcs n).name, .int .i64 (nth q.funcs n).params, .int .i64 (nth q.funcs n).regs, .slice (nth ss n).a c.length (nth ss n).c] := by rw [← hW6]; exact BoxAt.new _ _ _ _ _ rfl rfl
    have HB6 := hid hb6
    have HX6 := hid hx6
    clear hW6 hb6 hx6 f0 fz q0 q1 q2 q3 qg hc
    refine (rreach_calls 0 _ _ _ _ c W6 (CodeAt.below HCA.out HB6.out) (by have := HK.out.jok; rw [HC.out] at this; exact this)).mono ?_
    rintro e w7 ⟨gr, nr, rfl, hnr, lr, hrr, hb7⟩
    subst hnr
    have HRR := hid hrr
    have HB7 := hid (HB6.out.trans (hb7.mono HB6.out.size))
    have HX7 := hid (HX6.out.below hb7)
    have hq7 := HQ.out.below HB7.out
    have f0 := hq7.cell 0 _ rfl
    have f1 := hq7.cell 1 _ rfl
    have f2 := hq7.cell 2 _ rfl
    have f3 := hq7.cell 3 _ rfl
    have fz := hq7.lt
    have HAT7 := hid ((HOo.out.below HB7.out).at (valid_pos HOK.out.valid).2)
    clear hrr hb7 hq7
    go_wp2_with fail
    refine (rdead_calls 0 _ _ _ q n w7 HAT7.out).mono ?_
    rintro e w8 ⟨v8, l8, rfl, hd8, hi8, hb8⟩
    have hl8 : l8 = [] := by rw [← deadOf_is hd8]; exact HFD.out
    subst hl8
    obtain ⟨a8, c8, _, _, rfl, -⟩ := hi8.open
    have HB8 := hid (HB7.out.trans (hb8.mono HB7.out.size))
    have HX8 := hid (HX7.out.below hb8)
    have HRR8 := hid (HRR.out.below hb8)
    clear hd8 hi8 hb8 f0 f1 f2 f3 fz
    rw [List.length_nil]
    go_wp2_with fail
    go_loopw [7] (fun i wr => ∃ k : Nat, k ≤ c.length ∧ i = .int .i64 k ∧ Below w8.heap.size w8 wr) (fun i _ => c.length - (intOf i).toNat)
    case atStart => exact ⟨0, Nat.zero_le _, rfl, Below.refl _ _⟩
    case round =>
    obtain ⟨k, hk, rfl, hbl2⟩ := hrel
    obtain ⟨wk, hwk⟩ : ∃ wk, wk = wr := ⟨_, rfl⟩
    subst hwk
    have HBL2 := hid hbl2
    have hx := HX8.out.below hbl2
    have x3 := hx.cell 3 _ rfl
    have xz := hx.lt
    clear hbl2 hx
    by_cases hlk : k < c.length
    · have hlk2 : (k : Int) < c.length := Int.ofNat_lt.2 hlk
      have hki : ¬ ((k : Int) < 0) := by omega
      obtain ⟨hre, hcond⟩ := HFR.out k hlk
      have hrb := HRR8.out.below HBL2.out
      have ch := hrb.cell (i := k) (by rw [reachL_len]; exact hlk)
      rw [hre] at ch
      have sh := hrb.lt
      have HCK := hid (CodeAt.below (CodeAt.below HCA.out HB8.out) HBL2.out)
      obtain ⟨ca, cc, cb, co, hce, p1, y0, y1, y2, y3, y4, yb, -⟩ := HCK.out.open
      obtain ⟨e1, _, e3⟩ := Value.slice.inj hce
      rw [e1, p1 (by omega)] at x3
      have y0 := y0 k hlk
      have y1 := y1 k hlk
      have y2 := y2 k hlk
      have y3 := y3 k hlk
      have y4 := y4 k hlk
      have yb := yb (by omega)
      clear e1 e3 hce p1 hrb hre
      cases h16 : ((nth c k).op == 16) with
      | true =>
        rw [h16] at hcond
        have hcc : ((nth c k).c == (k : Int) + 1) = false := by simpa using hcond
        clear hcond
        go_wp2_with fail
        go_roundw
        case rel => exact ⟨k + 1, by omega, by go_num, HBL2.out.alloc HBL2.out.size _⟩
        case measure => simp [intOf] <;> omega
      | false =>
        cases h17 : ((nth c k).op == 17) with
        | true =>
          rw [h16, h17] at hcond
          have hcc : ((nth c k).c == (k : Int) + 1) = false := by simpa using hcond
          clear hcond
          go_wp2_with fail
          go_roundw
          case rel => exact ⟨k + 1, by omega, by go_num, HBL2.out.alloc HBL2.out.size _⟩
          case measure => simp [intOf] <;> omega
        | false =>
          clear hcond
          go_wp2_with fail
          go_roundw
          case rel => exact ⟨k + 1, by omega, by go_num, HBL2.out.alloc HBL2.out.size _⟩
          case measure => simp [intOf] <;> omega
    · go_wp2_with fail
      go_roundw
      case rel => exact ⟨n + 1, by omega, by go_num, HBL.out.trans ((HB8.out.trans (HBL2.out.mono HB8.out.size)).mono HBL.out.size)⟩
      case measure => simp [intOf] <;> omega
  · go_wp2_with fail
    go_ret
    exact ⟨rfl, bvia HB5.out HBL.out⟩

theorem nothing_calls (lo : Nat) (vf vg vl : Value) (p : Prg) (w : World) (hp : ProgAt lo w vf vg vl p) (hwf : PrgWf p) :
    Calls Tryz.prog 5 #[.agg #[vf, vg, vl, .int .i64 p.main]] w fun e w' => e = .returned (.bool true) ∧ Below w.heap.size w w' := by
  cases hv : validB p with
  | false => exact noth_no lo vf vg vl p w hp hv
  | true => exact noth_yes lo vf vg vl p w hp hwf hv

end Go.Proofs.YteiohnfmlabelaaGreat
