/-
  The example of the document on code.
-/
import Derived.Test.YtihcngjkflaelaaGreatDoorZCDefs
import Derived.Test.YtihcngjkflaelaaGreatDoorZCUses
import Derived.Test.YtihcngjkflaelaaGreatDoorZCValid2
import Derived.Test.YtihcngjkflaelaaGreatDoorZEqual2
import Derived.Test.YtihcngjkflaelaaGreatDoorZInts
import Derived.Test.YtihcngjkflaelaaGreatDoorZKinds
import Derived.Test.YtihcngjkflaelaaGreatDoorZRNext
namespace Go.Proofs.YtihcngjkflaelaaGreatDoor
set_option linter.unusedVariables false
set_option linter.unusedSimpArgs false
open Go.RowKit

def exNm : ByteArray := ⟨#[109, 97, 105, 110]⟩
def exC : List Ins := [⟨48, 3, 1, -1, 0⟩, ⟨16, 0, 0, 0, 0⟩]
def exP : Prg := ⟨[⟨exNm, 0, 4, exC⟩], [], [], 0⟩
theorem exP_valid : validB exP = true := by decide +kernel
theorem ex0_valid : validB ⟨[], [], [], 0⟩ = false := by decide +kernel
theorem exP_ins : insAt exP 0 0 = some ⟨48, 3, 1, -1, 0⟩ := rfl
theorem setL_one (a : Int) : setL [a] = [a] := by
  have := setL_two a a
  unfold pairL at this
  rw [foldl_setL [a] |>.symm]; rfl
theorem exP_uses : rawU ⟨48, 3, 1, -1, 0⟩ 3 = [1] := by decide +kernel
theorem exP_defs : rawD ⟨48, 3, 1, -1, 0⟩ 3 = [3] := by decide +kernel
theorem exP_next : nextL exC 1 = [0] := by decide +kernel

theorem exP_usesP : usesP exP 0 0 = [1] := by
  unfold usesP
  rw [exP_ins]
  simp only
  rw [if_pos (by decide), exP_uses]
  exact setL_one 1
theorem exP_defsC : defsC exP 0 0 = [3] := by
  unfold defsC
  rw [exP_ins]
  simp only
  rw [if_pos (by decide), exP_defs]
  exact setL_one 3
theorem nil_prog (lo : Nat) (w : World) : ProgAt lo w (.slice none 0 0) (.slice none 0 0) (.slice none 0 0) ⟨[], [], [], 0⟩ :=
  ⟨⟨[], rfl, SlE.nil _ _ _, fun i hi => by simp at hi⟩, SlE.nil _ _ _, ⟨[], rfl, SlE.nil _ _ _, fun i hi => by simp at hi⟩⟩
theorem ex_prog (w : World) (b : Nat) (vf : Value) (hf : SlE funE b w vf [(⟨exNm, 0, 4, exC⟩, ⟨some ⟨b, 0, none⟩, 2, 2⟩)]) (hc : CodeAt b w (.slice (some ⟨b, 0, none⟩) 2 2) exC) : ProgAt b w vf (.slice none 0 0) (.slice none 0 0) exP :=
  ⟨⟨[⟨some ⟨b, 0, none⟩, 2, 2⟩], rfl, hf, fun i hi => by
    have : i = 0 := by have := hi; simp [exP] at this; omega
    subst this
    exact hc⟩, SlE.nil _ _ _, ⟨[], rfl, SlE.nil _ _ _, fun i hi => by simp [exP] at hi⟩⟩

theorem ints_one (lo : Nat) (v : Value) (c : Int) (w : World) (h : IntsAt lo w v [c]) :
    Calls Tryz.prog 12 #[v, .slice (some ⟨w.heap.size, 0, none⟩) 1 1] (w.alloc (.cells #[.int .i64 c] 3)) fun e w' => e = .returned (.bool true) ∧ Below w.heap.size w w' := by
  have hb : Below w.heap.size w (w.alloc (.cells #[.int .i64 c] 3)) := (Below.refl _ _).alloc (Nat.le_refl _) _
  have hi : IntsAt w.heap.size (w.alloc (.cells #[.int .i64 c] 3)) (.slice (some ⟨w.heap.size, 0, none⟩) 1 1) [c] :=
    (OwnE.lit intE w w.heap.size 3 [c] _ w.heap.size 1 rfl (Nat.le_refl _) rfl rfl (by simp)).sl (Nat.le_refl _) (by simp)
  refine (ints_calls _ _ _ _ _ _ _ (h.below hb) hi).mono ?_
  rintro e w' ⟨rfl, hb'⟩
  exact ⟨by simp [intsEq], hb.trans (hb'.mono hb.size)⟩

set_option maxRecDepth 100000 in
set_option maxHeartbeats 8000000 in
theorem awake9_calls (w : World) : Calls Tryz.prog 5 #[] w fun e w' => e = .returned (.bool true) ∧ Below w.heap.size w w' := by
  go_enter Tryz.func5, Tryz.ntmps5
  go_wp2_with fail
  generalize hW : World.alloc _ _ = W
  have hcode : CodeAt w.heap.size W (.slice (some ⟨w.heap.size, 0, none⟩) 2 2) exC := by
    rw [← hW]
    refine ((((OwnE.lit insE w w.heap.size 34 exC _ w.heap.size 2 rfl (Nat.le_refl _) rfl rfl (by simp [exC])).alloc _).alloc _).alloc _).sl (Nat.le_refl _) (by simp [exC])
  have hfun : SlE funE w.heap.size W (.slice (some ⟨w.heap.size + 1 + 1, 0, none⟩) 1 1) [(⟨exNm, 0, 4, exC⟩, ⟨some ⟨w.heap.size, 0, none⟩, 2, 2⟩)] := by
    rw [← hW]
    exact ((OwnE.lit funE _ w.heap.size 37 [(⟨exNm, 0, 4, exC⟩, ⟨some ⟨w.heap.size, 0, none⟩, 2, 2⟩)] _ (w.heap.size + 1 + 1) 1 (by simp) (by omega) rfl rfl (by simp)).alloc _).sl (Nat.le_refl _) (by simp)
  have R3 : RowAt W (w.heap.size + 1 + 1 + 1) [.slice (some ⟨w.heap.size + 1 + 1, 0, none⟩) 1 1, .slice none 0 0, .slice none 0 0, .int .i64 0] := by
    rw [← hW]
    exact RowAt.new _ _ _ _ _ (by simp) rfl
  have R1 : RowAt W (w.heap.size + 1) [.string exNm, .int .i64 0, .int .i64 4, .slice (some ⟨w.heap.size, 0, none⟩) 2 2] := by
    rw [← hW]
    exact (RowAt.new _ _ _ (w.heap.size + 1) _ (by simp) rfl).below (((Below.refl _ _).alloc (Nat.le_refl _) _).alloc (by simp) _)
  have hbW : Below w.heap.size w W := by rw [← hW]; exact ((((Below.refl _ _).alloc (Nat.le_refl _) _).alloc (by simp) _).alloc (by simp; omega) _).alloc (by simp; omega) _
  have HP := hid (ex_prog W w.heap.size _ hfun hcode)
  have HC := hid hcode
  have HBW := hid hbW
  have HR3 := hid R3
  have HR1 := hid R1
  clear hW hcode hfun R3 R1 hbW
  refine (cvalid_calls _ _ _ _ exP W HP.out).mono ?_
  rintro e w1 ⟨rfl, hb1⟩
  rw [exP_valid]
  have HB1 := hid hb1
  clear hb1
  go_wp2_with fail
  refine (cvalid_calls 0 _ _ _ ⟨[], [], [], 0⟩ w1 (nil_prog 0 w1)).mono ?_
  rintro e w2 ⟨rfl, hb2⟩
  rw [ex0_valid]
  have HB2 := hid (HB1.out.trans (hb2.mono HB1.out.size))
  clear hb2
  have R2 := HR3.out.below HB2.out
  have a0 := R2.2 0 _ rfl
  have a1 := R2.2 1 _ rfl
  have a2 := R2.2 2 _ rfl
  have a3 := R2.2 3 _ rfl
  have s1 := R2.1
  clear R2
  go_wp2_with fail
  refine (cuses_some _ _ _ _ exP 0 0 ⟨48, 3, 1, -1, 0⟩ w2 (HP.out.below HB2.out) exP_ins (by decide) (by decide) (by decide)).mono ?_
  rintro e w3 ⟨v3, rfl, hi3, hb3⟩
  rw [exP_usesP] at hi3
  have HB3 := hid (HB2.out.trans (hb3.mono HB2.out.size))
  have HI3 := hid hi3
  clear hb3 hi3 a0 a1 a2 a3 s1
  go_wp2_with fail
  refine (ints_one _ _ _ w3 HI3.out).mono ?_
  rintro e w4 ⟨rfl, hb4⟩
  have HB4 := hid (HB3.out.trans (hb4.mono HB3.out.size))
  clear hb4
  have R4 := HR3.out.below HB4.out
  have a0 := R4.2 0 _ rfl
  have a1 := R4.2 1 _ rfl
  have a2 := R4.2 2 _ rfl
  have a3 := R4.2 3 _ rfl
  have s1 := R4.1
  clear R4
  go_wp2_with fail
  refine (cdefs_calls _ _ _ _ exP 0 0 w4 (HP.out.below HB4.out)).mono ?_
  rintro e w5 ⟨v5, rfl, hi5, hb5⟩
  rw [exP_defsC] at hi5
  have HB5 := hid (HB4.out.trans (hb5.mono HB4.out.size))
  have HI5 := hid hi5
  clear hb5 hi5 a0 a1 a2 a3 s1
  go_wp2_with fail
  refine (ints_one _ _ _ w5 HI5.out).mono ?_
  rintro e w6 ⟨rfl, hb6⟩
  have HB6 := hid (HB5.out.trans (hb6.mono HB5.out.size))
  clear hb6
  have R6 := HR1.out.below HB6.out
  have a0 := R6.2 0 _ rfl
  have a1 := R6.2 1 _ rfl
  have a2 := R6.2 2 _ rfl
  have a3 := R6.2 3 _ rfl
  have s1 := R6.1
  clear R6
  go_wp2_with fail
  refine (next_calls _ exNm 0 4 _ exC 1 w6 (HC.out.below HB6.out)).mono ?_
  rintro e w7 ⟨v7, rfl, hi7, hb7⟩
  rw [exP_next] at hi7
  have HB7 := hid (HB6.out.trans (hb7.mono HB6.out.size))
  have HI7 := hid hi7
  clear hb7 hi7 a0 a1 a2 a3 s1
  go_wp2_with fail
  refine (ints_one _ _ _ w7 HI7.out).mono ?_
  rintro e w8 ⟨rfl, hb8⟩
  have HB8 := hid (HB7.out.trans (hb8.mono HB7.out.size))
  clear hb8
  go_wp2_with fail
  refine (visible_calls 48 w8).mono ?_
  rintro e w9 ⟨rfl, rfl⟩
  rw [show visB 48 = true from by decide]
  have R8 := HR3.out.below HB8.out
  have a0 := R8.2 0 _ rfl
  have a1 := R8.2 1 _ rfl
  have a2 := R8.2 2 _ rfl
  have a3 := R8.2 3 _ rfl
  have s1 := R8.1
  clear R8
  go_wp2_with fail
  refine (equal_calls _ _ _ _ _ _ _ _ exP exP w9 (HP.out.below HB8.out) (HP.out.below HB8.out)).mono ?_
  rintro e w10 ⟨rfl, hb10⟩
  rw [eqC_true rfl]
  have HB10 := hid (HB8.out.trans (hb10.mono HB8.out.size))
  clear hb10
  go_wp2_with fail
  go_ret
  exact ⟨rfl, HBW.out.trans (HB10.out.mono HBW.out.size)⟩

end Go.Proofs.YtihcngjkflaelaaGreatDoor
