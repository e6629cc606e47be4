/-
  Equality of lists of globals, as the library checks it.
-/
import Derived.Test.YtihcngjkflaelaaGreatDoorZEqL
namespace Go.Proofs.YtihcngjkflaelaaGreatDoor
set_option linter.unusedVariables false
set_option linter.unusedSimpArgs false
open Go.RowKit

set_option maxRecDepth 100000 in
set_option maxHeartbeats 4000000 in
theorem eqGlob_calls (lo1 lo2 : Nat) (va vb : Value) (l r : List Glob) (w : World) (ha : GlobsAt lo1 w va l) (hb : GlobsAt lo2 w vb r) :
    Calls Tryz.prog 40 #[va, vb] w fun e w' => e = .returned (.bool (eqC l r)) ∧ Below w.heap.size w w' := by
  obtain ⟨a1, c1, b1, o1, rfl, p1, x0, x1, k1, _, m1, n1⟩ := ha.open
  obtain ⟨a2, c2, b2, o2, rfl, p2, y0, y1, k2, _, m2, n2⟩ := hb.open
  by_cases hl : l.length = r.length
  · have HL := hid hl
    have hne : ((l.length : Int) != (r.length : Int)) = false := by simp [hl]
    clear hl
    go_enter Tryz.func40, Tryz.ntmps40
    go_wp2_with fail
    go_loopw [13] (fun i wr => ∃ k : Nat, k ≤ l.length ∧ i = .int .i64 k ∧ (∀ j, j < k → nth l j = nth r j) ∧ Below w.heap.size w wr) (fun i _ => l.length - (intOf i).toNat)
    case atStart => exact ⟨0, Nat.zero_le _, rfl, fun j hj => by omega, Below.refl _ _⟩
    case round =>
      obtain ⟨k, hk, rfl, hag, hbl⟩ := hrel
      obtain ⟨hcl, hfz⟩ := bcell hbl
      have HA := hid hag
      clear hag
      by_cases hlt : k < l.length
      · have hr : k < r.length := by have := HL.out; omega
        have e1 := p1 (by omega)
        have e2 := p2 (by omega)
        subst e1 e2
        have d0 := x0 k hlt
        have d1 := x1 k hlt
        have f0 := y0 k hr
        have f1 := y1 k hr
        have s1 := k1 (by omega)
        have s2 := k2 (by omega)
        have hlt2 : (k : Int) < l.length := by omega
        have hr2 : (k : Int) < r.length := by omega
        obtain ⟨u, hu⟩ : ∃ u, nth l k = u := ⟨_, rfl⟩
        obtain ⟨v, hv⟩ : ∃ v, nth r k = v := ⟨_, rfl⟩
        have HU := hid hu
        have HV := hid hv
        rw [hu] at d0 d1
        rw [hv] at f0 f1
        clear p1 p2 x0 x1 y0 y1 k1 k2 hu hv
        have hneq := neqGlob u v
        unfold globV at hneq
        have hgd := globGuard
        cases hx : eqC u v with
        | true =>
          rw [hx] at hneq
          have HX := hid hx
          clear hx
          go_wp2_with fail
          go_quiet (fail)
          go_wp2_with fail
          go_roundw
          case rel =>
            refine ⟨k + 1, by omega, by go_num, fun j hj => ?_, below_drewN hbl _⟩
            rcases Nat.lt_or_ge j k with h5 | h5
            · exact HA.out j h5
            · rw [show j = k by omega, HU.out, HV.out]
              have h9 := HX.out
              simpa [eqC] using h9
          case measure => simp [intOf]; omega
        | false =>
          rw [hx] at hneq
          have HX := hid hx
          clear hx
          go_wp2_with fail
          go_quiet (fail)
          go_wp2_with fail
          go_ret
          refine ⟨ret_bool (eqC_false fun he => ?_).symm, below_drewN hbl _⟩
          have h9 := HX.out
          rw [← HU.out, ← HV.out, he] at h9
          simp [eqC] at h9
      · clear p1 p2 x0 x1 y0 y1 k1 k2
        go_wp2_with fail
        go_ret
        exact ⟨ret_bool (eqC_true (eq_of_nth HL.out fun j hj => HA.out j (by omega))).symm, hbl⟩
  · have hne : ((l.length : Int) != (r.length : Int)) = true := by simp; omega
    have HN := hid (show eqC l r = false from eqC_false fun he => hl (by rw [he]))
    clear hl
    go_enter Tryz.func40, Tryz.ntmps40
    go_wp2_with fail
    go_ret
    exact ⟨ret_bool HN.out.symm, Below.refl _ _⟩

end Go.Proofs.YtihcngjkflaelaaGreatDoor
