/-
  The law ObjectTrips, walked.
-/
import Derived.Test.YtkfpacklpelefaaZLaw10
namespace Go.Proofs.Ytkfpacklpelefaa
set_option linter.unusedVariables false
set_option linter.unusedSimpArgs false
open Go.RowKit

set_option maxRecDepth 100000 in
set_option maxHeartbeats 4000000 in
theorem ltrips_calls (lo : Nat) (vf vg vl : Value) (p : Prg) (w : World) (hp : ProgAt lo w vf vg vl p) (hwf : PrgWf p) (hsz : (bodyL p).length ≤ 100000000) :
    Calls Try.prog 8 #[.agg #[vf, vg, vl, .int .i64 p.main]] w fun e w' => e = .returned (.bool true) ∧ Below w.heap.size w w' := by
  have HP := hid hp
  have HWF := hid hwf
  have HSZ := hid hsz
  obtain ⟨fa, fc, fb, fo, FS, rfl, _⟩ := hp.funcs.open
  obtain ⟨ga, gc, gb, go, rfl, _⟩ := hp.globs.open
  obtain ⟨la, lc, lb, lo', LS, rfl, _⟩ := hp.lays.open
  clear hp hwf hsz
  go_enter Try.func8, Try.ntmps8
  go_wp2_with fail
  generalize hW : World.alloc w _ = W
  have HBX := hid (show BoxAt W w.heap.size 31 [.slice fa p.funcs.length fc, .slice ga p.globals.length gc, .slice la p.layouts.length lc, .int .i64 p.main] by rw [← hW]; exact BoxAt.new w _ _ _ _ rfl rfl)
  have HB0 := hid (show Below w.heap.size w W by rw [← hW]; exact (Below.refl _ _).alloc (Nat.le_refl _) _)
  clear hW
  refine (awake10_calls W).mono ?_
  rintro e w1 ⟨rfl, hb⟩
  have HX1 := hid (HBX.out.below hb)
  have HP1 := hid (HP.out.below (bvia HB0.out hb))
  have HB1 := hid (bvia HB0.out hb)
  clear hb
  have q0 := HX1.out.cell 0 _ rfl
  have q1 := HX1.out.cell 1 _ rfl
  have q2 := HX1.out.cell 2 _ rfl
  have q3 := HX1.out.cell 3 _ rfl
  have qz := HX1.out.lt
  go_wp2_with fail
  refine (valid_calls lo _ _ _ p w1 HP1.out).mono ?_
  rintro e w2 ⟨rfl, hb⟩
  have HX2 := hid (HX1.out.below hb)
  have HP2 := hid (HP1.out.below hb)
  have HB2 := hid (bvia HB1.out hb)
  clear hb
  clear q0 q1 q2 q3 qz
  have q0 := HX2.out.cell 0 _ rfl
  have q1 := HX2.out.cell 1 _ rfl
  have q2 := HX2.out.cell 2 _ rfl
  have q3 := HX2.out.cell 3 _ rfl
  have qz := HX2.out.lt
  rcases hv : validB p with _ | _
  · clear hv
    go_wp2_with fail
    refine (awake10_calls w2).mono ?_
    rintro e w3 ⟨rfl, hb⟩
    have HB3 := hid (bvia HB2.out hb)
    clear hb
    go_wp2_with fail
    go_ret
    exact ⟨rfl, HB3.out⟩
  · have HV := hid hv
    have HFL := hid (show (fileL p).length ≤ 1000000000 by rw [file_len]; have := HSZ.out; omega)
    have HDE := hid (show decS (fileL p) = (p, 0) by rw [dec_file p HWF.out, hv]; rfl)
    clear hv
    go_wp2_with fail
    refine (oencode_calls lo _ _ _ p w2 HP2.out HWF.out (by have := HSZ.out; omega)).mono ?_
    rintro e w3 ⟨v3, rfl, ho, hb⟩
    rw [HV.out, if_pos rfl] at ho
    rw [HV.out]
    obtain ⟨xa, xc, rfl⟩ := ho.anySlice
    have HO3 := hid (show BytesAt 0 w3 (.slice xa (fileL p).length xc) (fileL p) from ho.sl (Nat.zero_le _) (by have := HFL.out; omega))
    have HX3 := hid (HX2.out.below hb)
    have HP3 := hid (HP2.out.below hb)
    have HB3 := hid (bvia HB2.out hb)
    clear ho hb q0 q1 q2 q3 qz
    go_wp2_with fail
    refine (odecode_calls 0 _ (fileL p) w3 HO3.out HFL.out).mono ?_
    rintro e w4 ⟨uf, ug, ul, rfl, ho, hb⟩
    rw [HDE.out] at ho
    rw [HDE.out]
    obtain ⟨fa', fc', ga', gc', ya', yc', rfl, rfl, rfl⟩ := own_open ho
    have HQ4 := hid (OwnPrg.at (lo := 0) (p := p) ho (Nat.zero_le _) HWF.out)
    have HX4 := hid (HX3.out.below hb)
    have HP4 := hid (HP3.out.below hb)
    have HO4 := hid (HO3.out.below hb)
    have HB4 := hid (bvia HB3.out hb)
    clear ho hb
    go_wp2_with fail
    generalize hW : World.alloc w4 _ = W5
    have HBQ := hid (show BoxAt W5 w4.heap.size 31 [.slice fa' p.funcs.length fc', .slice ga' p.globals.length gc', .slice ya' p.layouts.length yc', .int .i64 p.main] by rw [← hW]; exact BoxAt.new w4 _ _ _ _ rfl rfl)
    have hb : Below w4.heap.size w4 W5 := by rw [← hW]; exact (Below.refl _ _).alloc (Nat.le_refl _) _
    have HX5 := hid (HX4.out.below hb)
    have HP5 := hid (HP4.out.below hb)
    have HO5 := hid (HO4.out.below hb)
    have HQ5 := hid (HQ4.out.below hb)
    have HB5 := hid (bvia HB4.out hb)
    clear hW hb
    refine (oencode_calls 0 _ _ _ p W5 HQ5.out HWF.out (by have := HSZ.out; omega)).mono ?_
    rintro e w6 ⟨v6, rfl, ho, hb⟩
    rw [HV.out, if_pos rfl] at ho
    rw [HV.out]
    obtain ⟨ya2, yc2, rfl⟩ := ho.anySlice
    have HR6 := hid (show BytesAt 0 w6 (.slice ya2 (fileL p).length yc2) (fileL p) from ho.sl (Nat.zero_le _) (by have := HFL.out; omega))
    have HX6 := hid (HX5.out.below hb)
    have HBQ6 := hid (HBQ.out.below hb)
    have HP6 := hid (HP5.out.below hb)
    have HQ6 := hid (HQ5.out.below hb)
    have HO6 := hid (HO5.out.below hb)
    have HB6 := hid (bvia HB5.out hb)
    have q0 := HX6.out.cell 0 _ rfl
    have q1 := HX6.out.cell 1 _ rfl
    have q2 := HX6.out.cell 2 _ rfl
    have q3 := HX6.out.cell 3 _ rfl
    have qz := HX6.out.lt
    have r0 := HBQ6.out.cell 0 _ rfl
    have r1 := HBQ6.out.cell 1 _ rfl
    have r2 := HBQ6.out.cell 2 _ rfl
    have r3 := HBQ6.out.cell 3 _ rfl
    have rz := HBQ6.out.lt
    clear ho hb
    go_wp2_with fail
    refine (requal_calls _ _ _ _ _ _ _ _ p p w6 HP6.out HQ6.out).mono ?_
    rintro e w7 ⟨rfl, hb⟩
    rw [eqC_true rfl]
    have HO7 := hid (HO6.out.below hb)
    have HR7 := hid (HR6.out.below hb)
    have HB7 := hid (bvia HB6.out hb)
    clear hb
    go_wp2_with fail
    refine (same_calls _ _ _ _ _ _ w7 HO7.out HR7.out).mono ?_
    rintro e w8 ⟨rfl, hb⟩
    rw [eqC_true rfl]
    have HB8 := hid (bvia HB7.out hb)
    clear hb
    go_wp2_with fail
    go_ret
    exact ⟨rfl, HB8.out⟩

end Go.Proofs.Ytkfpacklpelefaa
