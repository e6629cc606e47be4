/-
  Equality of programs, as package code checks it.
-/
import Derived.Laws.EntriesVeiled
import Derived.Test.YtihcngjkflaelaaGreatDoorZEqG
namespace Go.Proofs.YtihcngjkflaelaaGreatDoor
set_option linter.unusedVariables false
set_option linter.unusedSimpArgs false
open Go.RowKit

theorem eqI_calls (lo1 lo2 : Nat) (va vb : Value) (l r : List Int) (w : World) (ha : IntsAt lo1 w va l) (hb : IntsAt lo2 w vb r) :
    Calls Tryz.prog 42 #[va, vb] w fun e w' => e = .returned (.bool (eqC l r)) ∧ Below w.heap.size w w' := by
  obtain ⟨a1, c1, b1, o1, rfl, p1, q1, k1, _, _, m1, n1⟩ := ha.open
  obtain ⟨a2, c2, b2, o2, rfl, p2, q2, k2, _, _, m2, n2⟩ := hb.open
  by_cases hl : l.length = r.length
  · by_cases h0 : l.length = 0
    · obtain rfl : l = [] := List.eq_nil_of_length_eq_zero h0
      obtain rfl : r = [] := List.eq_nil_of_length_eq_zero (by omega)
      refine (Tryz.slices_Equal_int_empty a1 a2 c1 0 c2 w (by omega)).mono ?_
      rintro e w' ⟨rfl, rfl⟩
      exact ⟨ret_bool (eqC_true rfl).symm, Below.refl _ _⟩
    · have e1 := p1 (by omega)
      have e2 := p2 (by omega)
      subst e1 e2
      have g : ∀ (L : List Int) j, j < L.length → nth L j = L.getD j 0 := fun L j hj => by rw [nth_eq _ _ hj]; simp [hj]
      refine (Tryz.slices_Equal_int b1 o1 l.length c1 b2 o2 r.length c2 l r w (Nat.le_refl _) (Nat.le_refl _) (by omega) (by omega) (fun j hj => by rw [← g l j hj]; exact q1 j hj) (fun j hj => by rw [← g r j hj]; exact q2 j hj)).mono ?_
      rintro e w' ⟨rfl, q, rfl⟩
      refine ⟨ret_bool ?_, below_drewN (Below.refl _ _) _⟩
      rw [List.take_length, List.take_length]
      by_cases h : l = r
      · rw [eqC_true h]; simp [h]
      · rw [eqC_false h]; simp [h]
  · refine (Tryz.slices_Equal_int_lens a1 a2 l.length c1 r.length c2 w hl).mono ?_
    rintro e w' ⟨rfl, rfl⟩
    exact ⟨ret_bool (eqC_false fun he => hl (by rw [he])).symm, Below.refl _ _⟩

set_option maxRecDepth 100000 in
set_option maxHeartbeats 4000000 in
theorem eqLays_calls (lo1 lo2 : Nat) (va vb : Value) (l r : List (List Int)) (w : World) (ha : LaysAt lo1 w va l) (hb : LaysAt lo2 w vb r) :
    Calls Tryz.prog 41 #[va, vb, .func (Fn.func 42) #[] #[]] w fun e w' => e = .returned (.bool (eqC l r)) ∧ Below w.heap.size w w' := by
  obtain ⟨a1, c1, b1, o1, S, rfl, p1, x0, xi, k1, _, m1, n1⟩ := ha.open
  obtain ⟨a2, c2, b2, o2, T, rfl, p2, y0, yi, k2, _, m2, n2⟩ := hb.open
  by_cases hl : l.length = r.length
  · have HL := hid hl
    have hne : ((l.length : Int) != (r.length : Int)) = false := by simp [hl]
    have XI := hid xi
    have YI := hid yi
    clear hl xi yi
    go_enter Tryz.func41, Tryz.ntmps41
    go_wp2_with fail
    go_loopw [17] (fun i wr => ∃ k : Nat, k ≤ l.length ∧ i = .int .i64 k ∧ (∀ j, j < k → nth l j = nth r j) ∧ Below w.heap.size w wr) (fun i _ => l.length - (intOf i).toNat)
    case atStart => exact ⟨0, Nat.zero_le _, rfl, fun j hj => by omega, Below.refl _ _⟩
    case round =>
      obtain ⟨k, hk, rfl, hag, hbl⟩ := hrel
      obtain ⟨wo, hwo⟩ : ∃ wo, wo = wr := ⟨_, rfl⟩
      subst hwo
      have HA := hid hag
      have HB := hid hbl
      clear hag
      by_cases hlt : k < l.length
      · have hr : k < r.length := by have := HL.out; omega
        have e1 := p1 (by omega)
        have e2 := p2 (by omega)
        subst e1 e2
        have s1 := k1 (by omega)
        have s2 := k2 (by omega)
        have d0 := (hbl.cell (p := ⟨b1, _, none⟩) s1).trans (x0 k hlt)
        have f0 := (hbl.cell (p := ⟨b2, _, none⟩) s2).trans (y0 k hr)
        have hz := hbl.size
        have s3 : b1 < wo.heap.size := by omega
        have s4 : b2 < wo.heap.size := by omega
        have hlt2 : (k : Int) < l.length := by omega
        have hr2 : (k : Int) < r.length := by omega
        have HI := hid ((XI.out k hlt).below hbl)
        have HJ := hid ((YI.out k hr).below hbl)
        clear p1 p2 x0 y0 k1 k2 hz hbl
        go_wp2_with fail
        refine (eqI_calls _ _ _ _ (nth l k) (nth r k) _ HI.out HJ.out).mono ?_
        rintro e w1 ⟨rfl, hb1⟩
        have HB1 := hid (HB.out.trans (hb1.mono HB.out.size))
        clear hb1
        cases hx : eqC (nth l k) (nth r k) with
        | true =>
          have HX := hid hx
          clear hx
          go_wp2_with fail
          go_roundw
          case rel =>
            refine ⟨k + 1, by omega, by go_num, fun j hj => ?_, HB1.out⟩
            rcases Nat.lt_or_ge j k with h5 | h5
            · exact HA.out j h5
            · rw [show j = k by omega]
              have h9 := HX.out
              simpa [eqC] using h9
          case measure => simp [intOf]; omega
        | false =>
          have HX := hid hx
          clear hx
          go_wp2_with fail
          go_ret
          refine ⟨ret_bool (eqC_false fun he => ?_).symm, HB1.out⟩
          have h9 := HX.out
          rw [he] at h9
          simp [eqC] at h9
      · clear p1 p2 x0 y0 k1 k2
        go_wp2_with fail
        go_ret
        exact ⟨ret_bool (eqC_true (eq_of_nth HL.out fun j hj => HA.out j (by omega))).symm, hbl⟩
  · have hne : ((l.length : Int) != (r.length : Int)) = true := by simp; omega
    have HN := hid (show eqC l r = false from eqC_false fun he => hl (by rw [he]))
    clear hl
    go_enter Tryz.func41, Tryz.ntmps41
    go_wp2_with fail
    go_ret
    exact ⟨ret_bool HN.out.symm, Below.refl _ _⟩

set_option maxRecDepth 100000 in
set_option maxHeartbeats 4000000 in
theorem eqFun_calls (lo1 lo2 : Nat) (vc vd : Value) (f g : Fun) (w : World) (hc : CodeAt lo1 w vc f.code) (hd : CodeAt lo2 w vd g.code) :
    Calls Tryz.prog 44 #[.agg #[.string f.name, .int .i64 f.params, .int .i64 f.regs, vc], .agg #[.string g.name, .int .i64 g.params, .int .i64 g.regs, vd]] w fun e w' => e = .returned (.bool (eqC f g)) ∧ Below w.heap.size w w' := by
  have HC := hid hc
  have HD := hid hd
  obtain ⟨ca, cc, _, _, rfl, hz⟩ := hc.open
  obtain ⟨da, dc, _, _, rfl, hz2⟩ := hd.open
  clear hz hz2 hc hd
  cases h1 : (f.name.toList == g.name.toList) with
  | false =>
    have HR := hid (show eqC f g = false from eqC_false fun he => by rw [he] at h1; simp at h1)
    go_enter Tryz.func44, Tryz.ntmps44
    go_wp2_with fail
    go_ret
    exact ⟨ret_bool HR.out.symm, ((Below.refl _ _).alloc (Nat.le_refl _) _).alloc (by simp) _⟩
  | true =>
    have HN := hid (bytes_eq.1 h1)
    by_cases h2 : f.params = g.params
    · have g2 : (f.params == g.params) = true := beq_iff_eq.2 h2
      have HP := hid h2
      clear h2
      by_cases h3 : f.regs = g.regs
      · have g3 : (f.regs == g.regs) = true := beq_iff_eq.2 h3
        have HG := hid h3
        clear h3
        go_enter Tryz.func44, Tryz.ntmps44
        go_wp2_with fail
        have hb0 : Below w.heap.size w ((w.alloc (.cells #[.string f.name, .int .i64 f.params, .int .i64 f.regs, .slice ca f.code.length cc] 37)).alloc (.cells #[.string g.name, .int .i64 g.params, .int .i64 g.regs, .slice da g.code.length dc] 37)) := ((Below.refl _ _).alloc (Nat.le_refl _) _).alloc (by simp) _
        refine (eqIns_calls _ _ _ _ f.code g.code _ (HC.out.below hb0) (HD.out.below hb0)).mono ?_
        rintro e w1 ⟨rfl, hb1⟩
        have HB1 := hid (hb0.trans (hb1.mono (by simp; omega)))
        have HR := hid (show eqC f g = eqC f.code g.code by
          by_cases h : f.code = g.code
          · rw [eqC_true h, eqC_true (fun_ext' HN.out HP.out HG.out h)]
          · rw [eqC_false h, eqC_false fun he => h (by rw [he])])
        clear hb0 hb1
        go_wp2_with fail
        go_ret
        exact ⟨ret_bool HR.out.symm, HB1.out⟩
      · have g3 : (f.regs == g.regs) = false := beq_eq_false_iff_ne.2 h3
        have HR := hid (show eqC f g = false from eqC_false fun he => h3 (by rw [he]))
        clear h3
        go_enter Tryz.func44, Tryz.ntmps44
        go_wp2_with fail
        go_ret
        exact ⟨ret_bool HR.out.symm, ((Below.refl _ _).alloc (Nat.le_refl _) _).alloc (by simp) _⟩
    · have g2 : (f.params == g.params) = false := beq_eq_false_iff_ne.2 h2
      have HR := hid (show eqC f g = false from eqC_false fun he => h2 (by rw [he]))
      clear h2
      go_enter Tryz.func44, Tryz.ntmps44
      go_wp2_with fail
      go_ret
      exact ⟨ret_bool HR.out.symm, ((Below.refl _ _).alloc (Nat.le_refl _) _).alloc (by simp) _⟩

end Go.Proofs.YtihcngjkflaelaaGreatDoor
