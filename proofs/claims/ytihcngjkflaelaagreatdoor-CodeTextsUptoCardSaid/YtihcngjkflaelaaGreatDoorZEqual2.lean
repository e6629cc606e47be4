/-
  Equality of programs, as package code checks it: the whole.
-/
import Derived.Test.YtihcngjkflaelaaGreatDoorZCInstr
import Derived.Test.YtihcngjkflaelaaGreatDoorZEqual
namespace Go.Proofs.YtihcngjkflaelaaGreatDoor
set_option linter.unusedVariables false
set_option linter.unusedSimpArgs false
open Go.RowKit

set_option maxRecDepth 100000 in
set_option maxHeartbeats 4000000 in
theorem eqFuns_calls (lo1 lo2 : Nat) (va vb : Value) (l r : List Fun) (w : World) (ha : FuncsAt lo1 w va l) (hb : FuncsAt lo2 w vb r) :
    Calls Tryz.prog 43 #[va, vb, .func (Fn.func 44) #[] #[]] w fun e w' => e = .returned (.bool (eqC l r)) ∧ Below w.heap.size w w' := by
  obtain ⟨a1, c1, b1, o1, S, rfl, p1, x0, x1, x2, x3, xi, k1, _, m1, n1⟩ := ha.open
  obtain ⟨a2, c2, b2, o2, T, rfl, p2, y0, y1, y2, y3, yi, k2, _, m2, n2⟩ := hb.open
  by_cases hl : l.length = r.length
  · have HL := hid hl
    have hne : ((l.length : Int) != (r.length : Int)) = false := by simp [hl]
    have XI := hid xi
    have YI := hid yi
    clear hl xi yi
    go_enter Tryz.func43, Tryz.ntmps43
    go_wp2_with fail
    go_loopw [17] (fun i wr => ∃ k : Nat, k ≤ l.length ∧ i = .int .i64 k ∧ (∀ j, j < k → nth l j = nth r j) ∧ Below w.heap.size w wr) (fun i _ => l.length - (intOf i).toNat)
    case atStart => exact ⟨0, Nat.zero_le _, rfl, fun j hj => by omega, Below.refl _ _⟩
    case round =>
      obtain ⟨k, hk, rfl, hag, hbl⟩ := hrel
      obtain ⟨wo, hwo⟩ : ∃ wo, wo = wr := ⟨_, rfl⟩
      subst hwo
      have HA := hid hag
      have HB := hid hbl
      clear hag
      by_cases hlt : k < l.length
      · have hr : k < r.length := by have := HL.out; omega
        have e1 := p1 (by omega)
        have e2 := p2 (by omega)
        subst e1 e2
        have s1 := k1 (by omega)
        have s2 := k2 (by omega)
        have d0 := (hbl.cell (p := ⟨b1, _, none⟩) s1).trans (x0 k hlt)
        have d1 := (hbl.cell (p := ⟨b1, _, none⟩) s1).trans (x1 k hlt)
        have d2 := (hbl.cell (p := ⟨b1, _, none⟩) s1).trans (x2 k hlt)
        have d3 := (hbl.cell (p := ⟨b1, _, none⟩) s1).trans (x3 k hlt)
        have f0 := (hbl.cell (p := ⟨b2, _, none⟩) s2).trans (y0 k hr)
        have f1 := (hbl.cell (p := ⟨b2, _, none⟩) s2).trans (y1 k hr)
        have f2 := (hbl.cell (p := ⟨b2, _, none⟩) s2).trans (y2 k hr)
        have f3 := (hbl.cell (p := ⟨b2, _, none⟩) s2).trans (y3 k hr)
        have hz := hbl.size
        have s3 : b1 < wo.heap.size := by omega
        have s4 : b2 < wo.heap.size := by omega
        have s5 : b2 < wo.heap.size + 1 := by omega
        have hlt2 : (k : Int) < l.length := by omega
        have hr2 : (k : Int) < r.length := by omega
        have HI := hid (XI.out k hlt)
        have HJ := hid (YI.out k hr)
        obtain ⟨u, hu⟩ : ∃ u, nth l k = u := ⟨_, rfl⟩
        obtain ⟨v, hv⟩ : ∃ v, nth r k = v := ⟨_, rfl⟩
        have HU := hid hu
        have HV := hid hv
        rw [hu] at d0 d1 d2 d3 HI
        rw [hv] at f0 f1 f2 f3 HJ
        clear p1 p2 x0 x1 x2 x3 y0 y1 y2 y3 k1 k2 hz hbl hu hv
        go_wp2_with fail
        generalize hG : World.alloc _ _ = wg
        have hbg : Below wo.heap.size wo wg := by rw [← hG]; exact ((Below.refl _ _).alloc (Nat.le_refl _) _).alloc (by simp) _
        have HG := hid (HB.out.trans (hbg.mono HB.out.size))
        clear hG hbg d0 d1 d2 d3 f0 f1 f2 f3
        refine (eqFun_calls _ _ _ _ u v wg (HI.out.below HG.out) (HJ.out.below HG.out)).mono ?_
        rintro e w1 ⟨rfl, hb1⟩
        have HB1 := hid (HG.out.trans (hb1.mono HG.out.size))
        clear hb1
        cases hx : eqC u v with
        | true =>
          have HX := hid hx
          clear hx
          go_wp2_with fail
          go_roundw
          case rel =>
            refine ⟨k + 1, by omega, by go_num, fun j hj => ?_, HB1.out⟩
            rcases Nat.lt_or_ge j k with h5 | h5
            · exact HA.out j h5
            · rw [show j = k by omega, HU.out, HV.out]
              have h9 := HX.out
              simpa [eqC] using h9
          case measure => simp [intOf]; omega
        | false =>
          have HX := hid hx
          clear hx
          go_wp2_with fail
          go_ret
          refine ⟨ret_bool (eqC_false fun he => ?_).symm, HB1.out⟩
          have h9 := HX.out
          rw [← HU.out, ← HV.out, he] at h9
          simp [eqC] at h9
      · clear p1 p2 x0 x1 x2 x3 y0 y1 y2 y3 k1 k2
        go_wp2_with fail
        go_ret
        exact ⟨ret_bool (eqC_true (eq_of_nth HL.out fun j hj => HA.out j (by omega))).symm, hbl⟩
  · have hne : ((l.length : Int) != (r.length : Int)) = true := by simp; omega
    have HN := hid (show eqC l r = false from eqC_false fun he => hl (by rw [he]))
    clear hl
    go_enter Tryz.func43, Tryz.ntmps43
    go_wp2_with fail
    go_ret
    exact ⟨ret_bool HN.out.symm, Below.refl _ _⟩

set_option maxRecDepth 100000 in
set_option maxHeartbeats 4000000 in
theorem equal_calls (lo1 lo2 : Nat) (vf vg vl uf ug ul : Value) (a b : Prg) (w : World) (ha : ProgAt lo1 w vf vg vl a) (hb : ProgAt lo2 w uf ug ul b) :
    Calls Tryz.prog 17 #[.agg #[vf, vg, vl, .int .i64 a.main], .agg #[uf, ug, ul, .int .i64 b.main]] w fun e w' => e = .returned (.bool (eqC a b)) ∧ Below w.heap.size w w' := by
  have HA := hid ha
  have HB := hid hb
  obtain ⟨fa, fc, _, _, _, rfl, z1⟩ := ha.funcs.open
  obtain ⟨ga, gc, _, _, rfl, z2⟩ := ha.globs.open
  obtain ⟨la, lc, _, _, _, rfl, z3⟩ := ha.lays.open
  obtain ⟨fa', fc', _, _, _, rfl, z4⟩ := hb.funcs.open
  obtain ⟨ga', gc', _, _, rfl, z5⟩ := hb.globs.open
  obtain ⟨la', lc', _, _, _, rfl, z6⟩ := hb.lays.open
  clear z1 z2 z3 z4 z5 z6 ha hb
  by_cases h1 : a.main = b.main
  · have g1 : (a.main == b.main) = true := beq_iff_eq.2 h1
    have HM := hid h1
    clear h1
    go_enter Tryz.func17, Tryz.ntmps17
    go_wp2_with fail
    generalize hW : World.alloc _ _ = W
    have hbW : Below w.heap.size w W := by rw [← hW]; exact ((Below.refl _ _).alloc (Nat.le_refl _) _).alloc (by simp) _
    have R1 := hid (show RowAt W w.heap.size [.slice fa a.funcs.length fc, .slice ga a.globals.length gc, .slice la a.layouts.length lc, .int .i64 a.main] by
      rw [← hW]
      exact (RowAt.new w _ _ _ _ rfl rfl).below ((Below.refl _ _).alloc (Nat.le_refl _) _))
    have R2 := hid (show RowAt W (w.heap.size + 1) [.slice fa' b.funcs.length fc', .slice ga' b.globals.length gc', .slice la' b.layouts.length lc', .int .i64 b.main] by
      rw [← hW]
      exact RowAt.new _ _ _ _ _ (by simp) rfl)
    have HBW := hid hbW
    clear hW
    refine (eqGlob_calls _ _ _ _ a.globals b.globals W (HA.out.globs.keep (Keep.below hbW)) (HB.out.globs.keep (Keep.below hbW))).mono ?_
    rintro e w1 ⟨rfl, hb1⟩
    have HB1 := hid (HBW.out.trans (hb1.mono HBW.out.size))
    have R1b := hid (R1.out.below hb1)
    have R2b := hid (R2.out.below hb1)
    clear hb1 hbW
    cases hg : eqC a.globals b.globals with
    | false =>
      have HR := hid (show eqC a b = false from eqC_false fun he => by rw [he] at hg; simp [eqC] at hg)
      clear hg
      go_wp2_with fail
      go_ret
      exact ⟨ret_bool HR.out.symm, HB1.out⟩
    | true =>
      have HG := hid (show a.globals = b.globals by simpa [eqC] using hg)
      have a2 := R1b.out.2 2 _ rfl
      have b2 := R2b.out.2 2 _ rfl
      have s1 := R1b.out.1
      have s2 := R2b.out.1
      clear hg
      go_wp2_with fail
      refine (eqLays_calls _ _ _ _ a.layouts b.layouts w1 (HA.out.lays.keep (Keep.below HB1.out)) (HB.out.lays.keep (Keep.below HB1.out))).mono ?_
      rintro e w2 ⟨rfl, hb2⟩
      have HB2 := hid (HB1.out.trans (hb2.mono HB1.out.size))
      have R1c := hid (R1b.out.below hb2)
      have R2c := hid (R2b.out.below hb2)
      clear hb2 a2 b2 s1 s2
      cases hl : eqC a.layouts b.layouts with
      | false =>
        have HR := hid (show eqC a b = false from eqC_false fun he => by rw [he] at hl; simp [eqC] at hl)
        clear hl
        go_wp2_with fail
        go_ret
        exact ⟨ret_bool HR.out.symm, HB2.out⟩
      | true =>
        have HL := hid (show a.layouts = b.layouts by simpa [eqC] using hl)
        have a0 := R1c.out.2 0 _ rfl
        have b0 := R2c.out.2 0 _ rfl
        have s1 := R1c.out.1
        have s2 := R2c.out.1
        clear hl
        go_wp2_with fail
        refine (eqFuns_calls _ _ _ _ a.funcs b.funcs w2 (HA.out.funcs.keep (Keep.below HB2.out)) (HB.out.funcs.keep (Keep.below HB2.out))).mono ?_
        rintro e w3 ⟨rfl, hb3⟩
        have HB3 := hid (HB2.out.trans (hb3.mono HB2.out.size))
        clear hb3
        have HR := hid (show eqC a b = eqC a.funcs b.funcs by
          by_cases h : a.funcs = b.funcs
          · rw [eqC_true h, eqC_true (prg_ext h HG.out HL.out HM.out)]
          · rw [eqC_false h, eqC_false fun he => h (by rw [he])])
        go_wp2_with fail
        go_ret
        exact ⟨ret_bool HR.out.symm, HB3.out⟩
  · have g1 : (a.main == b.main) = false := beq_eq_false_iff_ne.2 h1
    have HR := hid (show eqC a b = false from eqC_false fun he => h1 (by rw [he]))
    clear h1
    go_enter Tryz.func17, Tryz.ntmps17
    go_wp2_with fail
    go_ret
    exact ⟨ret_bool HR.out.symm, ((Below.refl _ _).alloc (Nat.le_refl _) _).alloc (by simp) _⟩

end Go.Proofs.YtihcngjkflaelaaGreatDoor
