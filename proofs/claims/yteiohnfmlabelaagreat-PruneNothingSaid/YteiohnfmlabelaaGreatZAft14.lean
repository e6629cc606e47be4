/-
  The reference's registers that are live after an instruction.
-/
import Derived.Test.YteiohnfmlabelaaGreatZPrClone
import Derived.Test.YteiohnfmlabelaaGreatZRUses
import Derived.Test.YteiohnfmlabelaaGreatZPure14
namespace Go.Proofs.YteiohnfmlabelaaGreat
set_option linter.unusedVariables false
set_option linter.unusedSimpArgs false
open Go.RowKit

theorem setL_64 {l : List Int} (h : ∀ r ∈ l, 0 ≤ r ∧ r < 64) : (setL l).length ≤ 64 := inc_64 (setL_inc l) fun r hr => h r ((setL_mem l r).1 hr)

set_option maxRecDepth 100000 in
set_option maxHeartbeats 4000000 in
theorem after_calls (lo lo2 : Nat) (vf vg vl vi : Value) (p : Prg) (F K : Nat) (s : List (List Int)) (w : World) (hp : ProgAt lo w vf vg vl p) (hv : validB p = true) (hF : F < p.funcs.length) (hK : K < (nth p.funcs F).code.length)
    (hs : LaysAt lo2 w vi s) (hsl : s.length = (nth p.funcs F).code.length) (hreg : ∀ i r, r ∈ nth s i → 0 ≤ r ∧ r < 64) :
    Calls Tryz.prog 33 #[.agg #[vf, vg, vl, .int .i64 p.main], .int .i64 F, .int .i64 K, vi] w fun e w' => ∃ v', e = .returned v' ∧ IntsAt w.heap.size w' v' (afterL p F s K) ∧ Below w.heap.size w w' := by
  have hfok := fok_of_funcB (valid_func hv F hF)
  have hpos := hfok.pos
  have hle := hfok.le
  have HNX := hid (hfok.jok.nx K hK)
  have HREG := hid hreg
  obtain ⟨fa, fc, fb, fo, S, rfl, p1, x0, x1, x2, x3, xi, k1, _, m1, n1⟩ := hp.funcs.open
  obtain ⟨ga, gc, _, _, rfl, hz2⟩ := hp.globs.open
  obtain ⟨la, lc, _, _, _, rfl, hz3⟩ := hp.lays.open
  obtain ⟨ia, ic, ib, io, IS, rfl, i1, i2, i3, i4, _, i5, i6⟩ := hs.open
  have e1 := p1 (by omega)
  subst e1
  have e2 := i1 (by omega)
  subst e2
  have z0 := i4 (by omega)
  have z1 := k1 (by omega)
  have hF2 : (F : Int) < p.funcs.length := Int.ofNat_lt.2 hF
  have d0 := x0 F hF
  have d1 := x1 F hF
  have d2 := x2 F hF
  have d3 := x3 F hF
  have HC0 := hid (xi F hF)
  have HI2 := hid i2
  have HI3 := hid i3
  have HSL := hid hsl
  obtain ⟨N, hNe⟩ : ∃ N, nextL (nth p.funcs F).code K = N := ⟨_, rfl⟩
  rw [hNe] at HNX
  have HNE := hid hNe
  obtain ⟨n, hn⟩ : ∃ n, (nth p.funcs F).code.length = n := ⟨_, rfl⟩
  have HN := hid hn
  rw [hn] at hpos hle d3 hK hsl
  obtain ⟨fname, hfn⟩ : ∃ q, (nth p.funcs F).name = q := ⟨_, rfl⟩
  obtain ⟨fpar, hfp⟩ : ∃ q, (nth p.funcs F).params = q := ⟨_, rfl⟩
  obtain ⟨freg, hfr⟩ : ∃ q, (nth p.funcs F).regs = q := ⟨_, rfl⟩
  rw [hfn] at d0
  rw [hfp] at d1
  rw [hfr] at d2
  clear hp hv hfok hs hreg hNe hn hfn hfp hfr p1 x0 x1 x2 x3 xi k1 i1 i2 i3 i4 hz2 hz3
  go_enter Tryz.func33, Tryz.ntmps33
  have HB := hid (show Below w.heap.size w (w.alloc (.cells #[.slice (some ⟨fb, fo, none⟩) p.funcs.length fc, .slice ga p.globals.length gc, .slice la p.layouts.length lc, .int .i64 p.main] 26)) from (Below.refl _ _).alloc (Nat.le_refl _) _)
  go_wp2_with (
    go_at_call 55
    refine (rnext_calls lo fname fpar freg _ (nth p.funcs F).code K _ (by have := HC0.out.below HB.out; rw [HN.out] at this; exact this)).mono ?_
    rw [HNE.out]
    rintro e w1 ⟨v', rfl, hi, hb1⟩
    obtain ⟨na, nc, nb, no, rfl, q1, q2, q3, _, q4, q5, q6⟩ := hi.open
    have HB1 := hid (HB.out.trans (hb1.mono (by simp)))
    have HQ := hid (And.intro q1 (And.intro q2 q3))
    clear q1 q2 q3 hi hb1 d0 d1 d2 d3)
  go_wp2_with fail
  go_loopw [9, 11] (fun v i wr => ∃ m : Nat, m ≤ N.length ∧ i = .int .i64 m ∧ IntsAt w.heap.size wr v (setL (outL s (N.take m))) ∧ Below w.heap.size w wr ∧ Below w1.heap.size w1 wr) (fun _ i _ => N.length - (intOf i).toNat)
  case atStart => exact ⟨0, Nat.zero_le _, rfl, by rw [List.take_zero, outL, List.flatMap_nil, setL_nil]; exact SlE.nil _ _ _, HB1.out, Below.refl _ _⟩
  case round =>
    obtain ⟨m, hm, rfl, hi, hbl, hb1⟩ := hrel
    obtain ⟨wo, hwo⟩ : ∃ wo, wo = wr := ⟨_, rfl⟩
    subst hwo
    have HI := hid hi
    have HBL := hid hbl
    have HBO := hid hb1
    clear hi hbl hb1
    by_cases hml : m < N.length
    · have hml2 : (m : Int) < N.length := by omega
      obtain ⟨q1, q2, q3⟩ := HQ.out
      have e3 := q1 (by omega)
      subst e3
      have b1 := q3 (by omega)
      have g0 := (HBO.out.cell (World.block_lt_of_cell? _ _ (q2 m hml))).trans (q2 m hml)
      have b1' : nb < wo.heap.size := by have := HBO.out.size; omega
      have hx1 := HNX.out _ (nth_mem N m hml)
      obtain ⟨X, hX⟩ := Int.eq_ofNat_of_zero_le hx1.1
      have HSN := hid (outL_snoc s N m hml)
      rw [hX] at g0 hx1 HSN
      rw [Int.toNat_natCast] at HSN
      rw [HN.out] at hx1
      have hXn : X < s.length := by omega
      have hXn2 : (X : Int) < s.length := by omega
      obtain ⟨R, hR⟩ : ∃ R, nth s X = R := ⟨_, rfl⟩
      have HRR := hid (show ∀ r ∈ R, 0 ≤ r ∧ r < 64 by rw [← hR]; exact fun r h => HREG.out X r h)
      have c0 := HI2.out X hXn
      have g1 := ((HB1.out.trans (HBO.out.mono HB1.out.size)).cell (World.block_lt_of_cell? _ _ c0)).trans c0
      have hrow := (HI3.out X hXn).below (HB1.out.trans (HBO.out.mono HB1.out.size))
      have b2 : ib < wo.heap.size := by have := HB1.out.size; have := HBO.out.size; omega
      rw [hR] at g1 hrow HSN
      obtain ⟨ra, rc, rb, ro, he, r1, r2, r3, _, r4, r5, r6⟩ := hrow.open
      obtain ⟨he1, he2⟩ : (IS X).a = ra ∧ (IS X).c = rc := by simpa using he
      rw [he1, he2] at g1
      have HRO := hid (And.intro r1 (And.intro r2 r3))
      have HM := hid (show ∀ r ∈ outL s (N.take m), 0 ≤ r ∧ r < 64 from outL_reg HREG.out _)
      clear q1 q2 q3 hX hR c0 hrow he he1 he2 r1 r2 r3
      go_wp2_with fail
      go_loopw [9, 12] (fun v i wr => ∃ j : Nat, j ≤ R.length ∧ i = .int .i64 j ∧ IntsAt w.heap.size wr v (setL (outL s (N.take m) ++ R.take j)) ∧ Below w.heap.size w wr ∧ Below wo.heap.size wo wr) (fun _ i _ => R.length - (intOf i).toNat)
      case atStart => exact ⟨0, Nat.zero_le _, rfl, by rw [List.take_zero, List.append_nil]; exact HI.out, HBL.out, Below.refl _ _⟩
      case round =>
        obtain ⟨j, hj, rfl, hi, hbl, hb1⟩ := hrel
        obtain ⟨wi, hwi⟩ : ∃ wi, wi = wr := ⟨_, rfl⟩
        subst hwi
        have HII := hid hi
        have HBLI := hid hbl
        have HBI := hid hb1
        have k0 := (hb1.cell b1').trans g0
        have k1 := (hb1.cell b2).trans g1
        have b3 : nb < wi.heap.size := by have := hb1.size; omega
        have b4 : ib < wi.heap.size := by have := hb1.size; omega
        clear hi hbl hb1
        by_cases hjl : j < R.length
        · have hjl2 : (j : Int) < R.length := by omega
          obtain ⟨r1, r2, r3⟩ := HRO.out
          have e4 := r1 (by omega)
          subst e4
          have b5 : rb < wi.heap.size := by have := HBI.out.size; have := r3 (by omega); omega
          have k2 := (HBI.out.cell (r3 (by omega))).trans (r2 j hjl)
          obtain ⟨y, hy⟩ : ∃ y, nth R j = y := ⟨_, rfl⟩
          have HSY := hid (show setL (outL s (N.take m) ++ R.take (j + 1)) = withL (setL (outL s (N.take m) ++ R.take j)) y by
            rw [← setL_snoc, List.take_add_one, List.getElem?_eq_getElem hjl, ← hy, nth_eq _ _ hjl, List.append_assoc]
            rfl)
          have HLN := hid (show (setL (outL s (N.take m) ++ R.take j)).length ≤ 64 from setL_64 fun r hr => by
            rcases List.mem_append.1 hr with h | h
            · exact HM.out r h
            · exact HRR.out r (List.mem_of_mem_take h))
          rw [hy] at k2
          clear r1 r2 r3 hy
          go_wp2_with (
            go_at_call 58
            refine (with_calls w.heap.size _ _ y _ HII.out HBLI.out.size (by have := HLN.out; omega)).mono ?_
            rintro e w3 ⟨v3, rfl, hi3, hb3, _⟩
            have HI3' := hid hi3
            have HB3 := hid hb3
            clear hi3 hb3)
          go_roundw
          case rel => exact ⟨j + 1, by omega, by go_num, by rw [HSY.out]; exact HI3'.out, bvia HBLI.out HB3.out, bvia HBI.out HB3.out⟩
          case measure => simp [intOf] <;> omega
        · have HJ := hid (show j = R.length by omega)
          go_wp2_with fail
          go_roundw
          case rel => exact ⟨m + 1, by omega, by go_num, by rw [HSN.out]; have := HII.out; rw [HJ.out, List.take_length] at this; exact this, HBLI.out, bvia HBO.out HBI.out⟩
          case measure => simp [intOf] <;> omega
    · have HM := hid (show m = N.length by omega)
      go_wp2_with fail
      go_ret
      refine ⟨_, rfl, ?_, HBL.out⟩
      have := HI.out
      rw [HM.out, List.take_length, ← HNE.out] at this
      exact this

end Go.Proofs.YteiohnfmlabelaaGreat
