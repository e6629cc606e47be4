/-
  Parts of the proof.
-/
import Derived.Test.YtihcngjkflaelaaGreatDoorProg
import Derived.Deep.QuietTactic
import Derived.BigQuiet
import Derived.Test.YtihcngjkflaelaaGreatDoorZBase
namespace Go.Proofs.YtihcngjkflaelaaGreatDoor
set_option linter.unusedVariables false
set_option linter.unusedSimpArgs false
open Go.RowKit

/-- Two lists of ints agree up to k. -/
def agreeTo (l r : List Int) (k : Nat) : Prop := ∀ i, i < k → nth l i = nth r i
def intsEq (l r : List Int) : Bool := decide (l = r)
theorem agree_eq (l r : List Int) (h : l.length = r.length) (hk : agreeTo l r l.length) : l = r := by
  apply List.ext_getElem h
  intro i h1 h2
  have := hk i h1
  rwa [nth_eq _ _ h1, nth_eq _ _ h2] at this

set_option maxHeartbeats 400000 in
theorem ints_calls (lo1 lo2 : Nat) (va vb : Value) (l r : List Int) (w : World) (ha : IntsAt lo1 w va l) (hb : IntsAt lo2 w vb r) :
    Calls Tryz.prog 12 #[va, vb] w fun e w' => e = .returned (.bool (intsEq l r)) ∧ Below w.heap.size w w' := by
  obtain ⟨a1, c1, b1, o1, rfl, p1, q1, k1, _, _, m1, n1⟩ := ha.open
  obtain ⟨a2, c2, b2, o2, rfl, p2, q2, k2, _, _, m2, n2⟩ := hb.open
  by_cases hl : l.length = r.length
  · have HL := hid hl
    have hne : ((l.length : Int) != (r.length : Int)) = false := by simp [hl]
    clear hl
    go_enter Tryz.func12, Tryz.ntmps12
    go_wp2
    go_loopw [5] (fun i wr => ∃ k : Nat, k ≤ l.length ∧ i = .int .i64 k ∧ agreeTo l r k ∧ Below w.heap.size w wr) (fun i _ => l.length - (intOf i).toNat)
    case atStart => exact ⟨0, Nat.zero_le _, rfl, fun i hi => by omega, Below.refl _ _⟩
    case round =>
      obtain ⟨k, hk, rfl, hag, hbl⟩ := hrel
      obtain ⟨hc, hf⟩ := bcell hbl
      by_cases hlt : k < l.length
      · have hr : k < r.length := by have := HL.out; omega
        have e1 := p1 (by omega)
        have e2 := p2 (by omega)
        subst e1 e2
        have d1 := q1 k hlt
        have d2 := q2 k hr
        have d3 := k1 (by omega)
        have d4 := k2 (by omega)
        by_cases hx : nth l k = nth r k
        · have hx' : (nth l k != nth r k) = false := by simp [hx]
          have HX := hid hx
          have HA := hid hag
          clear hx hag p1 p2 q1 q2 k1 k2
          go_wp2
          go_quiet (fail)
          go_wp2
          go_roundw
          case rel =>
            refine ⟨k + 1, by omega, by go_num, ?_, ?_⟩
            · intro i hi
              rcases Nat.lt_or_ge i k with h | h
              · exact HA.out i h
              · obtain rfl : i = k := by omega
                exact HX.out
            · exact below_drewN hbl _
          case measure => simp [intOf]; omega
        · have hx' : (nth l k != nth r k) = true := by simp [hx]
          have HX := hid hx
          clear hx hag p1 p2 q1 q2 k1 k2
          go_wp2
          go_quiet (fail)
          go_wp2
          go_ret
          refine ⟨ret_bool ?_, below_drewN hbl _⟩
          simp only [intsEq]
          symm
          rw [decide_eq_false_iff_not]
          intro h
          exact HX.out (by rw [h])
      · have HA := hid hag
        clear hag
        go_wp2
        go_ret
        refine ⟨ret_bool ?_, hbl⟩
        obtain rfl : k = l.length := by omega
        simp only [intsEq]
        symm
        rw [decide_eq_true_iff]
        exact agree_eq l r HL.out HA.out
  · have hne : ((l.length : Int) != (r.length : Int)) = true := by simp; omega
    have HL := hid hl
    clear hl
    go_enter Tryz.func12, Tryz.ntmps12
    go_wp2
    go_ret
    refine ⟨ret_bool ?_, Below.refl _ _⟩
    simp only [intsEq]
    symm
    rw [decide_eq_false_iff_not]
    intro h
    exact HL.out (by rw [h])

end Go.Proofs.YtihcngjkflaelaaGreatDoor
