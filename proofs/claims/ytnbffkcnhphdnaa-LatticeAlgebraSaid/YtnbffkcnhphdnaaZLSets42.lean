/-
  The laws LatticeSetsMatchReference and LatticeAlgebra, walked.
-/
import Derived.Test.YtnbffkcnhphdnaaZAwk42
namespace Go.Proofs.Ytnbffkcnhphdnaa
set_option linter.unusedVariables false
set_option linter.unusedSimpArgs false
open Go.RowKit

theorem intsEq_same (l : List Int) : intsEq l l = true := by simp [intsEq]
theorem subB_le {a b : List Int} {n : Nat} (h : a.length ≤ n) : (meetL a b).length ≤ n ∧ (minusL a b).length ≤ n := ⟨Nat.le_trans (List.length_filter_le _ _) h, Nat.le_trans (List.length_filter_le _ _) h⟩
theorem unionL_le (a b : List Int) : (unionL a b).length ≤ a.length + b.length := by
  have := setL_length (a ++ b)
  rw [List.length_append] at this
  exact this
theorem alg1 (a b c : List Int) (ha : Inc a) : meetL a (unionL b c) = unionL (meetL a b) (meetL a c) :=
  inc_ext _ _ (meetL_inc _ ha) (unionL_inc _ _) fun x => by
    rw [meetL_mem, unionL_mem, unionL_mem, meetL_mem, meetL_mem]
    exact and_or_left
theorem alg2 (a b c : List Int) : unionL a (meetL b c) = meetL (unionL a b) (unionL a c) :=
  inc_ext _ _ (unionL_inc _ _) (meetL_inc _ (unionL_inc _ _)) fun x => by
    rw [meetL_mem, unionL_mem, unionL_mem, unionL_mem, meetL_mem]
    exact or_and_left
theorem alg3 (a b : List Int) (ha : Inc a) : unionL (meetL a b) (minusL a b) = a :=
  inc_ext _ _ (unionL_inc _ _) ha fun x => by
    rw [unionL_mem, meetL_mem, minusL_mem, ← and_or_left]
    exact and_iff_left (Classical.em _)
theorem alg4 (a b : List Int) : meetL (minusL a b) b = [] := by
  refine List.eq_nil_iff_forall_not_mem.2 fun x hx => ?_
  rw [meetL_mem, minusL_mem] at hx
  exact hx.1.2 hx.2
theorem alg5 (a b : List Int) : subB (meetL a b) b = true := (subB_iff _ _).2 fun x hx => ((meetL_mem _ _ _).1 hx).2
theorem alg6 (a b : List Int) (hb : Inc b) : subB a b = intsEq (unionL a b) b := by
  rw [Bool.eq_iff_iff, subB_iff]
  unfold intsEq
  rw [decide_eq_true_iff]
  constructor
  · intro h
    refine inc_ext _ _ (unionL_inc _ _) hb fun x => ?_
    rw [unionL_mem]
    exact ⟨fun h' => h'.elim (h x) id, .inr⟩
  · intro h x hx
    rw [← h, unionL_mem]
    exact .inl hx

set_option maxRecDepth 100000 in
set_option maxHeartbeats 8000000 in
theorem lsets_calls (lox : Nat) (vx : Value) (x : List Int) (loy : Nat) (vy : Value) (y : List Int) (w : World) (hx : IntsAt lox w vx x) (hy : IntsAt loy w vy y) :
    Calls Try.prog 8 #[vx, vy] w fun e w' => e = .returned (.bool true) ∧ Below w.heap.size w w' := by
  obtain ⟨ax, cx, _, _, rfl, _⟩ := IntsAt.open hx
  have Hx := hid hx
  clear hx
  obtain ⟨ay, cy, _, _, rfl, _⟩ := IntsAt.open hy
  have Hy := hid hy
  clear hy
  by_cases lx : 40 < x.length
  · have mx : (40 : Int) < x.length := by omega
    go_enter Try.func8, Try.ntmps8
    go_wp2_with fail
    refine (awake42_calls w).mono ?_
    rintro e w1 ⟨rfl, hb1⟩
    have HB1 := hid hb1
    clear hb1
    go_wp2_with fail
    go_ret
    exact ⟨rfl, HB1.out⟩
  have mx : ¬ (40 : Int) < x.length := by omega
  by_cases ly : 40 < y.length
  · have my : (40 : Int) < y.length := by omega
    go_enter Try.func8, Try.ntmps8
    go_wp2_with fail
    refine (awake42_calls w).mono ?_
    rintro e w1 ⟨rfl, hb1⟩
    have HB1 := hid hb1
    clear hb1
    go_wp2_with fail
    go_ret
    exact ⟨rfl, HB1.out⟩
  have my : ¬ (40 : Int) < y.length := by omega
  go_enter Try.func8, Try.ntmps8
  go_wp2_with fail
  refine (awake42_calls w).mono ?_
  rintro e w1 ⟨rfl, hb1⟩
  have HB1 := hid hb1
  have Rx1 := hid (Hx.out.below hb1)
  have Ry1 := hid (Hy.out.below hb1)
  clear hb1 Hx Hy
  go_wp2_with fail
  refine (rset_calls _ _ x w1 Rx1.out (by omega)).mono ?_
  rintro e w2 ⟨v2, rfl, h2, hb2⟩
  have Rx2 := hid (Rx1.out.below hb2)
  have Ry2 := hid (Ry1.out.below hb2)
  have A2 := hid h2
  have HB2 := hid (bvia HB1.out hb2)
  clear hb2 h2 Rx1 Ry1
  go_wp2_with fail
  refine (rset_calls _ _ y w2 Ry2.out (by omega)).mono ?_
  rintro e w3 ⟨v3, rfl, h3, hb3⟩
  have Rx3 := hid (Rx2.out.below hb3)
  have Ry3 := hid (Ry2.out.below hb3)
  have A3 := hid (A2.out.below hb3)
  have B3 := hid h3
  have HB3 := hid (bvia HB2.out hb3)
  clear hb3 h3 Rx2 Ry2 A2
  go_wp2_with fail
  have la := setL_length x
  have lb := setL_length y
  refine (lset_calls _ _ x w3 Rx3.out (by omega)).mono ?_
  rintro e w4 ⟨v4, rfl, h4, hb4⟩
  have Rx4 := hid (Rx3.out.below hb4)
  have Ry4 := hid (Ry3.out.below hb4)
  have A4 := hid (A3.out.below hb4)
  have B4 := hid (B3.out.below hb4)
  have C4 := hid h4
  have HB4 := hid (bvia HB3.out hb4)
  clear hb4 h4 Rx3 Ry3 A3 B3
  go_wp2_with fail
  refine (rsame_calls _ _ _ _ (setL x) (setL x) w4 C4.out A4.out).mono ?_
  rintro e w5 ⟨rfl, hb5⟩
  rw [intsEq_same]
  have Rx5 := hid (Rx4.out.below hb5)
  have Ry5 := hid (Ry4.out.below hb5)
  have A5 := hid (A4.out.below hb5)
  have B5 := hid (B4.out.below hb5)
  have C5 := hid (C4.out.below hb5)
  have HB5 := hid (bvia HB4.out hb5)
  clear hb5 Rx4 Ry4 A4 B4 C4
  go_wp2_with fail
  clear C5 Rx5 Ry5
  refine (lunion_calls _ _ _ _ (setL x) (setL y) w5 A5.out B5.out (by omega) (by omega)).mono ?_
  rintro e w6 ⟨v6, rfl, h6, hb6⟩
  have A6 := hid (A5.out.below hb6)
  have B6 := hid (B5.out.below hb6)
  have C6 := hid h6
  have HB6 := hid (bvia HB5.out hb6)
  clear hb6 h6 A5 B5
  go_wp2_with fail
  refine (runion_calls _ _ _ _ (setL x) (setL y) w6 A6.out B6.out (by omega) (by omega)).mono ?_
  rintro e w7 ⟨v7, rfl, h7, hb7⟩
  have A7 := hid (A6.out.below hb7)
  have B7 := hid (B6.out.below hb7)
  have C7 := hid (C6.out.below hb7)
  have D7 := hid h7
  have HB7 := hid (bvia HB6.out hb7)
  clear hb7 h7 A6 B6 C6
  go_wp2_with fail
  refine (rsame_calls _ _ _ _ (unionL (setL x) (setL y)) (unionL (setL x) (setL y)) w7 C7.out D7.out).mono ?_
  rintro e w8 ⟨rfl, hb8⟩
  rw [intsEq_same]
  have A8 := hid (A7.out.below hb8)
  have B8 := hid (B7.out.below hb8)
  have C8 := hid (C7.out.below hb8)
  have D8 := hid (D7.out.below hb8)
  have HB8 := hid (bvia HB7.out hb8)
  clear hb8 A7 B7 C7 D7
  go_wp2_with fail
  clear C8 D8
  refine (lmeet_calls _ _ _ _ (setL x) (setL y) w8 A8.out B8.out (setL_inc y) (by omega) (by omega)).mono ?_
  rintro e w9 ⟨v9, rfl, h9, hb9⟩
  have A9 := hid (A8.out.below hb9)
  have B9 := hid (B8.out.below hb9)
  have C9 := hid h9
  have HB9 := hid (bvia HB8.out hb9)
  clear hb9 h9 A8 B8
  go_wp2_with fail
  refine (rmeet_calls _ _ _ _ (setL x) (setL y) w9 A9.out B9.out (by omega)).mono ?_
  rintro e w10 ⟨v10, rfl, h10, hb10⟩
  have A10 := hid (A9.out.below hb10)
  have B10 := hid (B9.out.below hb10)
  have C10 := hid (C9.out.below hb10)
  have D10 := hid h10
  have HB10 := hid (bvia HB9.out hb10)
  clear hb10 h10 A9 B9 C9
  go_wp2_with fail
  refine (rsame_calls _ _ _ _ (meetL (setL x) (setL y)) (meetL (setL x) (setL y)) w10 C10.out D10.out).mono ?_
  rintro e w11 ⟨rfl, hb11⟩
  rw [intsEq_same]
  have A11 := hid (A10.out.below hb11)
  have B11 := hid (B10.out.below hb11)
  have C11 := hid (C10.out.below hb11)
  have D11 := hid (D10.out.below hb11)
  have HB11 := hid (bvia HB10.out hb11)
  clear hb11 A10 B10 C10 D10
  go_wp2_with fail
  clear C11 D11
  refine (lminus_calls _ _ _ _ (setL x) (setL y) w11 A11.out B11.out (setL_inc y) (by omega) (by omega)).mono ?_
  rintro e w12 ⟨v12, rfl, h12, hb12⟩
  have A12 := hid (A11.out.below hb12)
  have B12 := hid (B11.out.below hb12)
  have C12 := hid h12
  have HB12 := hid (bvia HB11.out hb12)
  clear hb12 h12 A11 B11
  go_wp2_with fail
  refine (rminus_calls _ _ _ _ (setL x) (setL y) w12 A12.out B12.out (by omega)).mono ?_
  rintro e w13 ⟨v13, rfl, h13, hb13⟩
  have A13 := hid (A12.out.below hb13)
  have B13 := hid (B12.out.below hb13)
  have C13 := hid (C12.out.below hb13)
  have D13 := hid h13
  have HB13 := hid (bvia HB12.out hb13)
  clear hb13 h13 A12 B12 C12
  go_wp2_with fail
  refine (rsame_calls _ _ _ _ (minusL (setL x) (setL y)) (minusL (setL x) (setL y)) w13 C13.out D13.out).mono ?_
  rintro e w14 ⟨rfl, hb14⟩
  rw [intsEq_same]
  have A14 := hid (A13.out.below hb14)
  have B14 := hid (B13.out.below hb14)
  have C14 := hid (C13.out.below hb14)
  have D14 := hid (D13.out.below hb14)
  have HB14 := hid (bvia HB13.out hb14)
  clear hb14 A13 B13 C13 D13
  go_wp2_with fail
  clear C14 D14
  refine (lsubset_calls _ _ _ _ (setL x) (setL y) w14 A14.out B14.out (setL_inc y) (by omega) (by omega)).mono ?_
  rintro e w15 ⟨rfl, hb15⟩
  have A15 := hid (A14.out.below hb15)
  have B15 := hid (B14.out.below hb15)
  have HB15 := hid (bvia HB14.out hb15)
  clear hb15 A14 B14
  go_wp2_with fail
  refine (rsubset_calls _ _ _ _ (setL x) (setL y) w15 A15.out B15.out (by omega)).mono ?_
  rintro e w16 ⟨rfl, hb16⟩
  have A16 := hid (A15.out.below hb16)
  have B16 := hid (B15.out.below hb16)
  have HB16 := hid (bvia HB15.out hb16)
  clear hb16 A15 B15
  go_wp2_with fail
  go_ret
  exact ⟨rfl, HB16.out⟩

set_option maxRecDepth 100000 in
set_option maxHeartbeats 8000000 in
theorem lalgebra_calls (lox : Nat) (vx : Value) (x : List Int) (loy : Nat) (vy : Value) (y : List Int) (loz : Nat) (vz : Value) (z : List Int) (w : World) (hx : IntsAt lox w vx x) (hy : IntsAt loy w vy y) (hz : IntsAt loz w vz z) :
    Calls Try.prog 9 #[vx, vy, vz] w fun e w' => e = .returned (.bool true) ∧ Below w.heap.size w w' := by
  obtain ⟨ax, cx, _, _, rfl, _⟩ := IntsAt.open hx
  have Hx := hid hx
  clear hx
  obtain ⟨ay, cy, _, _, rfl, _⟩ := IntsAt.open hy
  have Hy := hid hy
  clear hy
  obtain ⟨az, cz, _, _, rfl, _⟩ := IntsAt.open hz
  have Hz := hid hz
  clear hz
  by_cases lx : 20 < x.length
  · have mx : (20 : Int) < x.length := by omega
    go_enter Try.func9, Try.ntmps9
    go_wp2_with fail
    refine (awake42_calls w).mono ?_
    rintro e w1 ⟨rfl, hb1⟩
    have HB1 := hid hb1
    clear hb1
    go_wp2_with fail
    go_ret
    exact ⟨rfl, HB1.out⟩
  have mx : ¬ (20 : Int) < x.length := by omega
  by_cases ly : 20 < y.length
  · have my : (20 : Int) < y.length := by omega
    go_enter Try.func9, Try.ntmps9
    go_wp2_with fail
    refine (awake42_calls w).mono ?_
    rintro e w1 ⟨rfl, hb1⟩
    have HB1 := hid hb1
    clear hb1
    go_wp2_with fail
    go_ret
    exact ⟨rfl, HB1.out⟩
  have my : ¬ (20 : Int) < y.length := by omega
  by_cases lz : 20 < z.length
  · have mz : (20 : Int) < z.length := by omega
    go_enter Try.func9, Try.ntmps9
    go_wp2_with fail
    refine (awake42_calls w).mono ?_
    rintro e w1 ⟨rfl, hb1⟩
    have HB1 := hid hb1
    clear hb1
    go_wp2_with fail
    go_ret
    exact ⟨rfl, HB1.out⟩
  have mz : ¬ (20 : Int) < z.length := by omega
  go_enter Try.func9, Try.ntmps9
  go_wp2_with fail
  refine (awake42_calls w).mono ?_
  rintro e w1 ⟨rfl, hb1⟩
  have HB1 := hid hb1
  have Rx1 := hid (Hx.out.below hb1)
  have Ry1 := hid (Hy.out.below hb1)
  have Rz1 := hid (Hz.out.below hb1)
  clear hb1 Hx Hy Hz
  go_wp2_with fail
  refine (lset_calls _ _ x w1 Rx1.out (by omega)).mono ?_
  rintro e w2 ⟨v2, rfl, h2, hb2⟩
  have Rx2 := hid (Rx1.out.below hb2)
  have Ry2 := hid (Ry1.out.below hb2)
  have Rz2 := hid (Rz1.out.below hb2)
  have A2 := hid h2
  have HB2 := hid (bvia HB1.out hb2)
  clear hb2 h2 Rx1 Ry1 Rz1
  go_wp2_with fail
  refine (lset_calls _ _ y w2 Ry2.out (by omega)).mono ?_
  rintro e w3 ⟨v3, rfl, h3, hb3⟩
  have Rx3 := hid (Rx2.out.below hb3)
  have Ry3 := hid (Ry2.out.below hb3)
  have Rz3 := hid (Rz2.out.below hb3)
  have A3 := hid (A2.out.below hb3)
  have B3 := hid h3
  have HB3 := hid (bvia HB2.out hb3)
  clear hb3 h3 Rx2 Ry2 Rz2 A2
  go_wp2_with fail
  refine (lset_calls _ _ z w3 Rz3.out (by omega)).mono ?_
  rintro e w4 ⟨v4, rfl, h4, hb4⟩
  have Rx4 := hid (Rx3.out.below hb4)
  have Ry4 := hid (Ry3.out.below hb4)
  have Rz4 := hid (Rz3.out.below hb4)
  have A4 := hid (A3.out.below hb4)
  have B4 := hid (B3.out.below hb4)
  have C4 := hid h4
  have HB4 := hid (bvia HB3.out hb4)
  clear hb4 h4 Rx3 Ry3 Rz3 A3 B3
  go_wp2_with fail
  clear Rx4 Ry4 Rz4
  have la := setL_length x
  have lb := setL_length y
  have lc := setL_length z
  have ia := setL_inc x
  have ib := setL_inc y
  have ic := setL_inc z
  generalize hqa : setL x = a at *
  generalize hqb : setL y = b at *
  generalize hqc : setL z = c at *
  have LA := hid la
  have LB := hid lb
  have LC := hid lc
  have BXY : (unionL b c).length ≤ 40 := by have := unionL_le b c; omega
  have BAB : (unionL a b).length ≤ 40 := by have := unionL_le a b; omega
  have BAC : (unionL a c).length ≤ 40 := by have := unionL_le a c; omega
  have MAB := (subB_le (b := b) (show a.length ≤ 20 by omega)).1
  have MAC := (subB_le (b := c) (show a.length ≤ 20 by omega)).1
  have MBC := (subB_le (b := c) (show b.length ≤ 20 by omega)).1
  have NAB := (subB_le (b := b) (show a.length ≤ 20 by omega)).2
  refine (lunion_calls _ _ _ _ b c w4 B4.out C4.out (by omega) (by omega)).mono ?_
  rintro e w5 ⟨v5, rfl, h5, hb5⟩
  have A5 := hid (A4.out.below hb5)
  have B5 := hid (B4.out.below hb5)
  have C5 := hid (C4.out.below hb5)
  have D5 := hid h5
  have HB5 := hid (bvia HB4.out hb5)
  clear hb5 h5 A4 B4 C4
  go_wp2_with fail
  refine (lmeet_calls _ _ _ _ a (unionL b c) w5 A5.out D5.out (unionL_inc _ _) (by omega) (by omega)).mono ?_
  rintro e w6 ⟨v6, rfl, h6, hb6⟩
  have A6 := hid (A5.out.below hb6)
  have B6 := hid (B5.out.below hb6)
  have C6 := hid (C5.out.below hb6)
  have D6 := hid (D5.out.below hb6)
  have E6 := hid h6
  have HB6 := hid (bvia HB5.out hb6)
  clear hb6 h6 A5 B5 C5 D5
  go_wp2_with fail
  refine (lmeet_calls _ _ _ _ a b w6 A6.out B6.out ib (by omega) (by omega)).mono ?_
  rintro e w7 ⟨v7, rfl, h7, hb7⟩
  have A7 := hid (A6.out.below hb7)
  have B7 := hid (B6.out.below hb7)
  have C7 := hid (C6.out.below hb7)
  have D7 := hid (D6.out.below hb7)
  have E7 := hid (E6.out.below hb7)
  have F7 := hid h7
  have HB7 := hid (bvia HB6.out hb7)
  clear hb7 h7 A6 B6 C6 D6 E6
  go_wp2_with fail
  refine (lmeet_calls _ _ _ _ a c w7 A7.out C7.out ic (by omega) (by omega)).mono ?_
  rintro e w8 ⟨v8, rfl, h8, hb8⟩
  have A8 := hid (A7.out.below hb8)
  have B8 := hid (B7.out.below hb8)
  have C8 := hid (C7.out.below hb8)
  have D8 := hid (D7.out.below hb8)
  have E8 := hid (E7.out.below hb8)
  have F8 := hid (F7.out.below hb8)
  have G8 := hid h8
  have HB8 := hid (bvia HB7.out hb8)
  clear hb8 h8 A7 B7 C7 D7 E7 F7
  go_wp2_with fail
  refine (lunion_calls _ _ _ _ (meetL a b) (meetL a c) w8 F8.out G8.out (by omega) (by omega)).mono ?_
  rintro e w9 ⟨v9, rfl, h9, hb9⟩
  have A9 := hid (A8.out.below hb9)
  have B9 := hid (B8.out.below hb9)
  have C9 := hid (C8.out.below hb9)
  have D9 := hid (D8.out.below hb9)
  have E9 := hid (E8.out.below hb9)
  have F9 := hid (F8.out.below hb9)
  have G9 := hid (G8.out.below hb9)
  have K9 := hid h9
  have HB9 := hid (bvia HB8.out hb9)
  clear hb9 h9 A8 B8 C8 D8 E8 F8 G8
  go_wp2_with fail
  refine (rsame_calls _ _ _ _ _ _ w9 E9.out K9.out).mono ?_
  rintro e w10 ⟨rfl, hb10⟩
  rw [alg1 a b c ia, intsEq_same]
  have A10 := hid (A9.out.below hb10)
  have B10 := hid (B9.out.below hb10)
  have C10 := hid (C9.out.below hb10)
  have D10 := hid (D9.out.below hb10)
  have E10 := hid (E9.out.below hb10)
  have F10 := hid (F9.out.below hb10)
  have G10 := hid (G9.out.below hb10)
  have K10 := hid (K9.out.below hb10)
  have HB10 := hid (bvia HB9.out hb10)
  clear hb10 A9 B9 C9 D9 E9 F9 G9 K9
  go_wp2_with fail
  clear D10 E10 F10 G10 K10
  refine (lmeet_calls _ _ _ _ b c w10 B10.out C10.out ic (by omega) (by omega)).mono ?_
  rintro e w11 ⟨v11, rfl, h11, hb11⟩
  have A11 := hid (A10.out.below hb11)
  have B11 := hid (B10.out.below hb11)
  have C11 := hid (C10.out.below hb11)
  have D11 := hid h11
  have HB11 := hid (bvia HB10.out hb11)
  clear hb11 h11 A10 B10 C10
  go_wp2_with fail
  refine (lunion_calls _ _ _ _ a (meetL b c) w11 A11.out D11.out (by omega) (by omega)).mono ?_
  rintro e w12 ⟨v12, rfl, h12, hb12⟩
  have A12 := hid (A11.out.below hb12)
  have B12 := hid (B11.out.below hb12)
  have C12 := hid (C11.out.below hb12)
  have D12 := hid (D11.out.below hb12)
  have E12 := hid h12
  have HB12 := hid (bvia HB11.out hb12)
  clear hb12 h12 A11 B11 C11 D11
  go_wp2_with fail
  refine (lunion_calls _ _ _ _ a b w12 A12.out B12.out (by omega) (by omega)).mono ?_
  rintro e w13 ⟨v13, rfl, h13, hb13⟩
  have A13 := hid (A12.out.below hb13)
  have B13 := hid (B12.out.below hb13)
  have C13 := hid (C12.out.below hb13)
  have D13 := hid (D12.out.below hb13)
  have E13 := hid (E12.out.below hb13)
  have F13 := hid h13
  have HB13 := hid (bvia HB12.out hb13)
  clear hb13 h13 A12 B12 C12 D12 E12
  go_wp2_with fail
  refine (lunion_calls _ _ _ _ a c w13 A13.out C13.out (by omega) (by omega)).mono ?_
  rintro e w14 ⟨v14, rfl, h14, hb14⟩
  have A14 := hid (A13.out.below hb14)
  have B14 := hid (B13.out.below hb14)
  have C14 := hid (C13.out.below hb14)
  have D14 := hid (D13.out.below hb14)
  have E14 := hid (E13.out.below hb14)
  have F14 := hid (F13.out.below hb14)
  have G14 := hid h14
  have HB14 := hid (bvia HB13.out hb14)
  clear hb14 h14 A13 B13 C13 D13 E13 F13
  go_wp2_with fail
  refine (lmeet_calls _ _ _ _ (unionL a b) (unionL a c) w14 F14.out G14.out (unionL_inc _ _) (by omega) (by omega)).mono ?_
  rintro e w15 ⟨v15, rfl, h15, hb15⟩
  have A15 := hid (A14.out.below hb15)
  have B15 := hid (B14.out.below hb15)
  have C15 := hid (C14.out.below hb15)
  have D15 := hid (D14.out.below hb15)
  have E15 := hid (E14.out.below hb15)
  have F15 := hid (F14.out.below hb15)
  have G15 := hid (G14.out.below hb15)
  have K15 := hid h15
  have HB15 := hid (bvia HB14.out hb15)
  clear hb15 h15 A14 B14 C14 D14 E14 F14 G14
  go_wp2_with fail
  refine (rsame_calls _ _ _ _ _ _ w15 E15.out K15.out).mono ?_
  rintro e w16 ⟨rfl, hb16⟩
  rw [alg2 a b c, intsEq_same]
  have A16 := hid (A15.out.below hb16)
  have B16 := hid (B15.out.below hb16)
  have C16 := hid (C15.out.below hb16)
  have D16 := hid (D15.out.below hb16)
  have E16 := hid (E15.out.below hb16)
  have F16 := hid (F15.out.below hb16)
  have G16 := hid (G15.out.below hb16)
  have K16 := hid (K15.out.below hb16)
  have HB16 := hid (bvia HB15.out hb16)
  clear hb16 A15 B15 C15 D15 E15 F15 G15 K15
  go_wp2_with fail
  clear D16 E16 F16 G16 K16
  refine (lmeet_calls _ _ _ _ a b w16 A16.out B16.out ib (by omega) (by omega)).mono ?_
  rintro e w17 ⟨v17, rfl, h17, hb17⟩
  have A17 := hid (A16.out.below hb17)
  have B17 := hid (B16.out.below hb17)
  have C17 := hid (C16.out.below hb17)
  have D17 := hid h17
  have HB17 := hid (bvia HB16.out hb17)
  clear hb17 h17 A16 B16 C16
  go_wp2_with fail
  refine (lminus_calls _ _ _ _ a b w17 A17.out B17.out ib (by omega) (by omega)).mono ?_
  rintro e w18 ⟨v18, rfl, h18, hb18⟩
  have A18 := hid (A17.out.below hb18)
  have B18 := hid (B17.out.below hb18)
  have C18 := hid (C17.out.below hb18)
  have D18 := hid (D17.out.below hb18)
  have E18 := hid h18
  have HB18 := hid (bvia HB17.out hb18)
  clear hb18 h18 A17 B17 C17 D17
  go_wp2_with fail
  refine (lunion_calls _ _ _ _ (meetL a b) (minusL a b) w18 D18.out E18.out (by omega) (by omega)).mono ?_
  rintro e w19 ⟨v19, rfl, h19, hb19⟩
  have A19 := hid (A18.out.below hb19)
  have B19 := hid (B18.out.below hb19)
  have C19 := hid (C18.out.below hb19)
  have D19 := hid (D18.out.below hb19)
  have E19 := hid (E18.out.below hb19)
  have F19 := hid h19
  have HB19 := hid (bvia HB18.out hb19)
  clear hb19 h19 A18 B18 C18 D18 E18
  go_wp2_with fail
  refine (rsame_calls _ _ _ _ _ _ w19 F19.out A19.out).mono ?_
  rintro e w20 ⟨rfl, hb20⟩
  rw [alg3 a b ia, intsEq_same]
  have A20 := hid (A19.out.below hb20)
  have B20 := hid (B19.out.below hb20)
  have C20 := hid (C19.out.below hb20)
  have D20 := hid (D19.out.below hb20)
  have E20 := hid (E19.out.below hb20)
  have F20 := hid (F19.out.below hb20)
  have HB20 := hid (bvia HB19.out hb20)
  clear hb20 A19 B19 C19 D19 E19 F19
  go_wp2_with fail
  clear D20 E20 F20
  refine (lminus_calls _ _ _ _ a b w20 A20.out B20.out ib (by omega) (by omega)).mono ?_
  rintro e w21 ⟨v21, rfl, h21, hb21⟩
  have A21 := hid (A20.out.below hb21)
  have B21 := hid (B20.out.below hb21)
  have C21 := hid (C20.out.below hb21)
  have D21 := hid h21
  have HB21 := hid (bvia HB20.out hb21)
  clear hb21 h21 A20 B20 C20
  go_wp2_with fail
  refine (lmeet_calls _ _ _ _ (minusL a b) b w21 D21.out B21.out ib (by omega) (by omega)).mono ?_
  rintro e w22 ⟨v22, rfl, h22, hb22⟩
  rw [alg4 a b] at h22
  have A22 := hid (A21.out.below hb22)
  have B22 := hid (B21.out.below hb22)
  have C22 := hid (C21.out.below hb22)
  have D22 := hid (D21.out.below hb22)
  have E22 := hid h22
  have HB22 := hid (bvia HB21.out hb22)
  clear hb22 h22 A21 B21 C21 D21
  obtain ⟨ea, ec, _, _, rfl, _⟩ := IntsAt.open E22.out
  have hz0 : (([] : List Int).length : Int) = 0 := rfl
  rw [show ([] : List Int).length = 0 from rfl] at *
  go_wp2_with fail
  clear D22 E22
  refine (lmeet_calls _ _ _ _ a b w22 A22.out B22.out ib (by omega) (by omega)).mono ?_
  rintro e w23 ⟨v23, rfl, h23, hb23⟩
  have A23 := hid (A22.out.below hb23)
  have B23 := hid (B22.out.below hb23)
  have C23 := hid (C22.out.below hb23)
  have D23 := hid h23
  have HB23 := hid (bvia HB22.out hb23)
  clear hb23 h23 A22 B22 C22
  go_wp2_with fail
  refine (lsubset_calls _ _ _ _ (meetL a b) b w23 D23.out B23.out ib (by omega) (by omega)).mono ?_
  rintro e w24 ⟨rfl, hb24⟩
  rw [alg5]
  have A24 := hid (A23.out.below hb24)
  have B24 := hid (B23.out.below hb24)
  have C24 := hid (C23.out.below hb24)
  have D24 := hid (D23.out.below hb24)
  have HB24 := hid (bvia HB23.out hb24)
  clear hb24 A23 B23 C23 D23
  go_wp2_with fail
  clear D24
  refine (lsubset_calls _ _ _ _ a b w24 A24.out B24.out ib (by omega) (by omega)).mono ?_
  rintro e w25 ⟨rfl, hb25⟩
  rw [alg6 a b ib]
  have A25 := hid (A24.out.below hb25)
  have B25 := hid (B24.out.below hb25)
  have C25 := hid (C24.out.below hb25)
  have HB25 := hid (bvia HB24.out hb25)
  clear hb25 A24 B24 C24
  go_wp2_with fail
  refine (lunion_calls _ _ _ _ a b w25 A25.out B25.out (by omega) (by omega)).mono ?_
  rintro e w26 ⟨v26, rfl, h26, hb26⟩
  have A26 := hid (A25.out.below hb26)
  have B26 := hid (B25.out.below hb26)
  have C26 := hid (C25.out.below hb26)
  have D26 := hid h26
  have HB26 := hid (bvia HB25.out hb26)
  clear hb26 h26 A25 B25 C25
  go_wp2_with fail
  refine (rsame_calls _ _ _ _ (unionL a b) b w26 D26.out B26.out).mono ?_
  rintro e w27 ⟨rfl, hb27⟩
  have A27 := hid (A26.out.below hb27)
  have B27 := hid (B26.out.below hb27)
  have C27 := hid (C26.out.below hb27)
  have D27 := hid (D26.out.below hb27)
  have HB27 := hid (bvia HB26.out hb27)
  clear hb27 A26 B26 C26 D26
  go_wp2_with fail
  go_ret
  exact ⟨rfl, HB27.out⟩

end Go.Proofs.Ytnbffkcnhphdnaa
