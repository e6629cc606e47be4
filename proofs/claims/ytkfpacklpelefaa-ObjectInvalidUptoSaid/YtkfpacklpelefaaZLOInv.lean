/-
  The law ObjectInvalid, walked.
-/
import Derived.Test.YtkfpacklpelefaaZLaw10
namespace Go.Proofs.Ytkfpacklpelefaa
set_option linter.unusedVariables false
set_option linter.unusedSimpArgs false
open Go.RowKit

set_option maxRecDepth 100000 in
set_option maxHeartbeats 4000000 in
theorem linvalid_calls (lo : Nat) (vf vg vl : Value) (p : Prg) (w : World) (hp : ProgAt lo w vf vg vl p) (hwf : PrgWf p) (hsz : (bodyL p).length ≤ 100000000) :
    Calls Try.prog 7 #[.agg #[vf, vg, vl, .int .i64 p.main]] w fun e w' => e = .returned (.bool true) ∧ Below w.heap.size w w' := by
  have HP := hid hp
  have HWF := hid hwf
  have HSZ := hid hsz
  obtain ⟨fa, fc, fb, fo, FS, rfl, _⟩ := hp.funcs.open
  obtain ⟨ga, gc, gb, go, rfl, _⟩ := hp.globs.open
  obtain ⟨la, lc, lb, lo', LS, rfl, _⟩ := hp.lays.open
  clear hp hwf hsz
  go_enter Try.func7, Try.ntmps7
  go_wp2_with fail
  generalize hW : World.alloc w _ = W
  have HBX := hid (show BoxAt W w.heap.size 31 [.slice fa p.funcs.length fc, .slice ga p.globals.length gc, .slice la p.layouts.length lc, .int .i64 p.main] by rw [← hW]; exact BoxAt.new w _ _ _ _ rfl rfl)
  have HB0 := hid (show Below w.heap.size w W by rw [← hW]; exact (Below.refl _ _).alloc (Nat.le_refl _) _)
  clear hW
  refine (awake10_calls W).mono ?_
  rintro e w1 ⟨rfl, hb⟩
  have HX1 := hid (HBX.out.below hb)
  have HP1 := hid (HP.out.below (bvia HB0.out hb))
  have HB1 := hid (bvia HB0.out hb)
  clear hb
  have q0 := HX1.out.cell 0 _ rfl
  have q1 := HX1.out.cell 1 _ rfl
  have q2 := HX1.out.cell 2 _ rfl
  have q3 := HX1.out.cell 3 _ rfl
  have qz := HX1.out.lt
  go_wp2_with fail
  refine (rbytes_calls lo _ _ _ p w1 HP1.out HWF.out (by have := HSZ.out; omega)).mono ?_
  rintro e w2 ⟨v2, rfl, ho, hb⟩
  have HO2 := hid ho
  have HFL := hid (show (fileL p).length ≤ 1000000000 by rw [file_len]; have := HSZ.out; omega)
  have HX2 := hid (HX1.out.below hb)
  have HP2 := hid (HP1.out.below hb)
  have HB2 := hid (bvia HB1.out hb)
  clear hb
  clear q0 q1 q2 q3 qz
  clear ho
  go_wp2_with fail
  refine (odecode_calls 0 _ (fileL p) w2 (HO2.out.sl (Nat.zero_le _) (by have := HFL.out; omega)) HFL.out).mono ?_
  rintro e w3 ⟨uf, ug, ul, rfl, ho, hb⟩
  have hdw := dec_wf (fileL p) HFL.out
  have hde := dec_file p HWF.out
  obtain ⟨q, hq⟩ : ∃ q, (decS (fileL p)).1 = q := ⟨_, rfl⟩
  obtain ⟨ec, hec⟩ : ∃ ec, (decS (fileL p)).2 = ec := ⟨_, rfl⟩
  rw [hq] at ho hdw
  rw [hq, hec]
  have HQ := hid hq
  have HEC := hid hec
  have HDE := hid hde
  obtain ⟨fa', fc', ga', gc', ya', yc', rfl, rfl, rfl⟩ := own_open ho
  have HQ3 := hid (OwnPrg.at (lo := 0) ho (Nat.zero_le _) hdw)
  have HX3 := hid (HX2.out.below hb)
  have HP3 := hid (HP2.out.below hb)
  have HB3 := hid (bvia HB2.out hb)
  clear hb
  have q0 := HX3.out.cell 0 _ rfl
  have q1 := HX3.out.cell 1 _ rfl
  have q2 := HX3.out.cell 2 _ rfl
  have q3 := HX3.out.cell 3 _ rfl
  have qz := HX3.out.lt
  clear ho hq hec hde hdw
  go_wp2_with fail
  generalize hW : World.alloc w3 _ = W2
  have HBQ := hid (show BoxAt W2 w3.heap.size 31 [.slice fa' q.funcs.length fc', .slice ga' q.globals.length gc', .slice ya' q.layouts.length yc', .int .i64 q.main] by rw [← hW]; exact BoxAt.new w3 _ _ _ _ rfl rfl)
  have hb : Below w3.heap.size w3 W2 := by rw [← hW]; exact (Below.refl _ _).alloc (Nat.le_refl _) _
  have HQ4 := hid (HQ3.out.below hb)
  have HX4 := hid (HX3.out.below hb)
  have HP4 := hid (HP3.out.below hb)
  have HB4 := hid (bvia HB3.out hb)
  clear hb
  clear q0 q1 q2 q3 qz
  clear hW
  refine (valid_calls lo _ _ _ p W2 HP4.out).mono ?_
  rintro e w5 ⟨rfl, hb⟩
  have HBQ5 := hid (HBQ.out.below hb)
  have HQ5 := hid (HQ4.out.below hb)
  have HX5 := hid (HX4.out.below hb)
  have HP5 := hid (HP4.out.below hb)
  have HB5 := hid (bvia HB4.out hb)
  clear hb
  have q0 := HX5.out.cell 0 _ rfl
  have q1 := HX5.out.cell 1 _ rfl
  have q2 := HX5.out.cell 2 _ rfl
  have q3 := HX5.out.cell 3 _ rfl
  have qz := HX5.out.lt
  have r0 := HBQ5.out.cell 0 _ rfl
  have r1 := HBQ5.out.cell 1 _ rfl
  have r2 := HBQ5.out.cell 2 _ rfl
  have r3 := HBQ5.out.cell 3 _ rfl
  have rz := HBQ5.out.lt
  rcases hv : validB p with _ | _
  · have hqe : q = noPrg ∧ ec = 1 := by
      have h1 := HDE.out
      rw [hv] at h1
      refine ⟨?_, ?_⟩
      · rw [← HQ.out, h1]; rfl
      · rw [← HEC.out, h1]; rfl
    obtain ⟨rfl, rfl⟩ := hqe
    clear hv
    go_wp2_with fail
    refine (requal_calls _ _ _ _ _ _ _ _ noPrg noPrg w5 HQ5.out (nil_at 0 w5)).mono ?_
    rintro e w6 ⟨rfl, hb⟩
    rw [eqC_true rfl]
    have HB6 := hid (bvia HB5.out hb)
    clear hb
    go_wp2_with fail
    go_ret
    exact ⟨rfl, HB6.out⟩
  · have hqe : q = p ∧ ec = 0 := by
      have h1 := HDE.out
      rw [hv] at h1
      refine ⟨?_, ?_⟩
      · rw [← HQ.out, h1]; rfl
      · rw [← HEC.out, h1]; rfl
    obtain ⟨rfl, rfl⟩ := hqe
    clear hv
    go_wp2_with fail
    refine (requal_calls _ _ _ _ _ _ _ _ q q w5 HP5.out HQ5.out).mono ?_
    rintro e w6 ⟨rfl, hb⟩
    rw [eqC_true rfl]
    have HB6 := hid (bvia HB5.out hb)
    clear hb
    go_wp2_with fail
    go_ret
    exact ⟨rfl, HB6.out⟩

end Go.Proofs.Ytkfpacklpelefaa
