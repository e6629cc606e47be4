/-
  The law ObjectEncode, walked.
-/
import Derived.Test.YtkfpacklpelefaaZLaw10
namespace Go.Proofs.Ytkfpacklpelefaa
set_option linter.unusedVariables false
set_option linter.unusedSimpArgs false
open Go.RowKit

set_option maxRecDepth 100000 in
set_option maxHeartbeats 4000000 in
theorem lencode_calls (lo : Nat) (vf vg vl : Value) (p : Prg) (w : World) (hp : ProgAt lo w vf vg vl p) (hwf : PrgWf p) (hsz : (bodyL p).length ≤ 100000000) :
    Calls Try.prog 4 #[.agg #[vf, vg, vl, .int .i64 p.main]] w fun e w' => e = .returned (.bool true) ∧ Below w.heap.size w w' := by
  have HP := hid hp
  have HWF := hid hwf
  have HSZ := hid hsz
  obtain ⟨fa, fc, fb, fo, FS, rfl, _⟩ := hp.funcs.open
  obtain ⟨ga, gc, gb, go, rfl, _⟩ := hp.globs.open
  obtain ⟨la, lc, lb, lo', LS, rfl, _⟩ := hp.lays.open
  clear hp hwf hsz
  go_enter Try.func4, Try.ntmps4
  go_wp2_with fail
  generalize hW : World.alloc w _ = W
  have HBX := hid (show BoxAt W w.heap.size 31 [.slice fa p.funcs.length fc, .slice ga p.globals.length gc, .slice la p.layouts.length lc, .int .i64 p.main] by rw [← hW]; exact BoxAt.new w _ _ _ _ rfl rfl)
  have HB0 := hid (show Below w.heap.size w W by rw [← hW]; exact (Below.refl _ _).alloc (Nat.le_refl _) _)
  clear hW
  refine (awake10_calls W).mono ?_
  rintro e w1 ⟨rfl, hb⟩
  have HX1 := hid (HBX.out.below hb)
  have HP1 := hid (HP.out.below (bvia HB0.out hb))
  have HB1 := hid (bvia HB0.out hb)
  clear hb
  have q0 := HX1.out.cell 0 _ rfl
  have q1 := HX1.out.cell 1 _ rfl
  have q2 := HX1.out.cell 2 _ rfl
  have q3 := HX1.out.cell 3 _ rfl
  have qz := HX1.out.lt
  go_wp2_with fail
  refine (oencode_calls lo _ _ _ p w1 HP1.out HWF.out (by have := HSZ.out; omega)).mono ?_
  rintro e w2 ⟨v2, rfl, ho, hb⟩
  have HO2 := hid ho
  obtain ⟨ec, hec⟩ : ∃ ec : Int, (if validB p then 0 else 1) = ec := ⟨_, rfl⟩
  rw [hec]
  have HEC := hid hec
  have HX2 := hid (HX1.out.below hb)
  have HP2 := hid (HP1.out.below hb)
  have HB2 := hid (bvia HB1.out hb)
  clear hb
  clear q0 q1 q2 q3 qz
  have q0 := HX2.out.cell 0 _ rfl
  have q1 := HX2.out.cell 1 _ rfl
  have q2 := HX2.out.cell 2 _ rfl
  have q3 := HX2.out.cell 3 _ rfl
  have qz := HX2.out.lt
  clear ho hec
  go_wp2_with fail
  refine (rencode_calls lo _ _ _ p w2 HP2.out HWF.out (by have := HSZ.out; omega)).mono ?_
  rintro e w3 ⟨v3, rfl, ho, hb⟩
  have HO3 := hid ho
  have HL := hid (show (if validB p then fileL p else []).length ≤ 1000000000 by
    cases validB p
    · simp
    · rw [if_pos rfl, file_len]; have := HSZ.out; omega)
  rw [HEC.out]
  have hee : (ec == ec) = true := by simp
  have HO2B := hid (show BytesAt 0 w3 v2 _ from BytesAt.below (HO2.out.sl (Nat.zero_le _) (by have := HL.out; omega)) hb)
  have HO3B := hid (show BytesAt 0 w3 v3 _ from ho.sl (Nat.zero_le _) (by have := HL.out; omega))
  have HX3 := hid (HX2.out.below hb)
  have HP3 := hid (HP2.out.below hb)
  have HB3 := hid (bvia HB2.out hb)
  clear hb
  clear q0 q1 q2 q3 qz
  clear ho
  go_wp2_with fail
  refine (same_calls _ _ _ _ _ _ w3 HO2B.out HO3B.out).mono ?_
  rintro e w4 ⟨rfl, hb⟩
  rw [eqC_true rfl]
  have HB4 := hid (bvia HB3.out hb)
  clear hb
  go_wp2_with fail
  go_ret
  exact ⟨rfl, HB4.out⟩

end Go.Proofs.Ytkfpacklpelefaa
