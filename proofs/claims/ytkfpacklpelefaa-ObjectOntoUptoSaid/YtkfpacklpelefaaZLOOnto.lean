/-
  The law ObjectOnto, walked.
-/
import Derived.Test.YtkfpacklpelefaaZLaw10
namespace Go.Proofs.Ytkfpacklpelefaa
set_option linter.unusedVariables false
set_option linter.unusedSimpArgs false
open Go.RowKit

set_option maxRecDepth 100000 in
set_option maxHeartbeats 4000000 in
theorem lonto_calls (lo : Nat) (v : Value) (l : List UInt8) (w : World) (h : BytesAt lo w v l) (hl : l.length ≤ 100000000) :
    Calls Try.prog 9 #[v] w fun e w' => e = .returned (.bool true) ∧ Below w.heap.size w w' := by
  have H := hid h
  obtain ⟨a, c, b, o, rfl, _⟩ := h.open
  clear h
  go_enter Try.func9, Try.ntmps9
  go_wp2_with fail
  refine (awake10_calls w).mono ?_
  rintro e w1 ⟨rfl, hb⟩
  have HB1 := hid hb
  clear hb
  go_wp2_with (
    at_builtin
    go_loud (refine wpList_append_E byteE (o := ⟨some 12, _, _, _, _, _⟩) rfl (.tmp 10) (.tmp 11) 22 rfl w1.heap.size lo 5 _ 1 Try.underlying22 infoByte rfl [] l ((OwnE.lit byteE w1 w1.heap.size 5 [] #[] w1.heap.size 0 rfl (Nat.le_refl _) rfl rfl (by simp))) (SlE.below (H.out.below HB1.out) ((Below.refl _ _).alloc (Nat.le_refl _) _)) (by simp; omega) (by simp only [maxLen]; simp; omega) (by simp) ?_)
    intro v7 w7 ho7 hg7
    have HO7 := hid ho7
    have HG7 := hid hg7
    clear ho7 hg7)
  have HB7 := hid (bvia HB1.out (Below.grownE ((Below.refl w1.heap.size w1).alloc (Nat.le_refl _) _) (OwnE.lit byteE w1 w1.heap.size 5 [] #[] w1.heap.size 0 rfl (Nat.le_refl _) rfl rfl (by simp)) HG7.out (by simp) (Nat.le_refl _)))
  clear HG7
  obtain ⟨p, hp⟩ : ∃ p, (decS l).1 = p := ⟨_, rfl⟩
  obtain ⟨ec, hec⟩ : ∃ ec, (decS l).2 = ec := ⟨_, rfl⟩
  have HDP := hid hp
  have HDE := hid hec
  have HWF := hid (hp ▸ dec_wf l (by omega))
  clear hp hec
  refine (odecode_calls w1.heap.size v7 l w7 (HO7.out.sl (Nat.le_refl _) (by show l.length ≤ _; omega)) (by omega)).mono ?_
  rintro e w8 ⟨uf, ug, ul, rfl, ho, hb⟩
  rw [HDP.out] at ho
  rw [HDP.out, HDE.out]
  obtain ⟨fa, fc, ga, gc, ya, yc, rfl, rfl, rfl⟩ := own_open ho
  have HP8 := hid (OwnPrg.at (lo := 0) ho (Nat.zero_le _) HWF.out)
  have HB8 := hid (bvia HB7.out hb)
  clear ho hb
  by_cases h0 : ec = 0
  · have hne : (ec != 0) = false := by simp [h0]
    have HON := hid (dec_onto l (HDE.out.trans h0))
    clear h0
    go_wp2_with fail
    generalize hW : World.alloc w8 _ = W
    have hbw : Below w8.heap.size w8 W := by rw [← hW]; exact (Below.refl _ _).alloc (Nat.le_refl _) _
    have HB9 := hid (bvia HB8.out hbw)
    have HP9 := hid (HP8.out.below hbw)
    clear hW hbw
    have HV := hid (show validB p = true by rw [← HDP.out]; exact HON.out.2.1)
    have HFL := hid (show fileL p = l by rw [← HDP.out]; exact HON.out.1)
    refine (oencode_calls 0 _ _ _ p W HP9.out HWF.out (by have h1 := congrArg List.length HFL.out; rw [file_len] at h1; omega)).mono ?_
    rintro e w10 ⟨v10, rfl, ho, hb⟩
    rw [HV.out, if_pos rfl, HFL.out] at ho
    rw [HV.out]
    obtain ⟨xa, xc, rfl⟩ := ho.anySlice
    have HO10 := hid (show BytesAt 0 w10 (.slice xa l.length xc) l from ho.sl (Nat.zero_le _) (by omega))
    have HB10 := hid (bvia HB9.out hb)
    clear ho hb
    go_wp2_with fail
    refine (same_calls lo _ _ _ l l w10 (H.out.below HB10.out) HO10.out).mono ?_
    rintro e w11 ⟨rfl, hb⟩
    rw [eqC_true rfl]
    have HB11 := hid (bvia HB10.out hb)
    clear hb
    go_wp2_with fail
    go_ret
    exact ⟨rfl, HB11.out⟩
  · have hne : (ec != 0) = true := by simp [h0]
    have hpn : p = noPrg := by
      rw [← HDP.out]
      exact dec_bad l (by rw [HDE.out]; exact h0)
    subst hpn
    clear h0
    go_wp2_with fail
    generalize hW : World.alloc w8 _ = W
    have hbw : Below w8.heap.size w8 W := by rw [← hW]; exact (Below.refl _ _).alloc (Nat.le_refl _) _
    have HB9 := hid (bvia HB8.out hbw)
    have HP9 := hid (HP8.out.below hbw)
    clear hW hbw
    refine (requal_calls _ _ _ _ _ _ _ _ noPrg noPrg W HP9.out (nil_at 0 W)).mono ?_
    rintro e w10 ⟨rfl, hb⟩
    rw [eqC_true rfl]
    have HB10 := hid (bvia HB9.out hb)
    clear hb
    go_wp2_with fail
    go_ret
    exact ⟨rfl, HB10.out⟩

end Go.Proofs.Ytkfpacklpelefaa
