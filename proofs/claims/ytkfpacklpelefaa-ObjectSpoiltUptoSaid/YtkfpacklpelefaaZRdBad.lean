/-
  The reader's numbers where they are malformed, walked.
-/
import Derived.Test.YtkfpacklpelefaaZRdNum
namespace Go.Proofs.Ytkfpacklpelefaa
set_option linter.unusedVariables false
set_option linter.unusedSimpArgs false
open Go.RowKit

set_option maxRecDepth 100000 in
set_option maxHeartbeats 4000000 in
theorem ornum_bad (b : Nat) (l : List UInt8) (w : World) (h : RdAt b w l) (hr : rdN l = none) :
    Calls Try.prog 45 #[.pointer (some ⟨b, 0, none⟩)] w fun e w' => e = .panicked malP ∧ w' = w := by
  obtain ⟨a, c, hbox, hby, _, _⟩ := h
  have c0 := hbox.cell 0 _ rfl
  have z0 := hbox.lt
  have hu : rdU 0 l = none := Option.map_eq_none_iff.1 hr
  have HU := hid hu
  obtain ⟨a', c', bb, bo, he, p1, p2, p3, _, p5, p6, p7⟩ := hby.open
  obtain ⟨rfl, _, rfl⟩ := Value.slice.inj he
  have HP := hid (And.intro p1 (And.intro p2 p3))
  clear hbox hby hu hr p1 p2 p3 he
  go_enter Try.func45, Try.ntmps45
  go_wp2_with fail
  go_loopw [3, 4] (fun uv i wr => ∃ (k acc : Nat), k ≤ 10 ∧ k ≤ l.length ∧ i = .int .i64 k ∧ uv = .int .u64 acc ∧ acc < 2 ^ (7 * k) ∧ rdU k (l.drop k) = none ∧ wr = w) (fun _ i _ => 11 - (intOf i).toNat)
  case atStart => exact ⟨0, 0, by omega, by omega, rfl, rfl, by simp, HU.out, rfl⟩
  case round =>
    obtain ⟨k, acc, hk, hkl, rfl, rfl, hacc, hrd, rfl⟩ := hrel
    obtain ⟨wo, hwo⟩ : ∃ wo, wo = wr := ⟨_, rfl⟩
    subst hwo
    by_cases hke : k = l.length
    · have t1 : ((k : Int) == (l.length : Int)) = true := by simp; omega
      clear hke hrd
      go_wp2_with fail
      exact ⟨rfl, rfl, rfl⟩
    have hkl2 : k < l.length := by omega
    have hdrop : l.drop k = nth l k :: l.drop (k + 1) := by rw [List.drop_eq_getElem_cons hkl2, nth_eq _ _ hkl2]
    rw [hdrop] at hrd
    obtain ⟨p1, p2, p3⟩ := HP.out
    have e1 := p1 (by omega)
    subst e1
    have z1 := p3 (by omega)
    have c1 := p2 k hkl2
    obtain ⟨y, hy⟩ : ∃ y, nth l k = y := ⟨_, rfl⟩
    rw [hy] at hrd c1
    clear p1 p2 p3 hdrop hy
    have hklI : (k : Int) < l.length := Int.ofNat_lt.2 hkl2
    have t1 : ((k : Int) == (l.length : Int)) = false := by simp; omega
    have hw7 : IntKind.i64.wrap (7 * (k : Int)) = 7 * (k : Int) := IntWalk.i64_in _ (by omega)
    have hyl := byte_lt y
    have han := and127 y
    by_cases hk10 : k = 10
    · have t2 : ((k : Int) == 10) = true := by simp; omega
      clear hk10 hrd
      go_wp2_with fail
      exact ⟨rfl, rfl, rfl⟩
    have t2 : ((k : Int) == 10) = false := by simp; omega
    by_cases hk9 : k = 9 ∧ 1 < y.toNat
    · have t3 : ((k : Int) == 9) = true := by simp; omega
      have t4 : (1 : Int) < (y.toNat : Int) := by omega
      clear hk9 hrd
      go_wp2_with fail
      exact ⟨rfl, rfl, rfl⟩
    unfold rdU at hrd
    have hz9 : (k = 9 ∧ ¬ 1 < y.toNat) ∨ k ≠ 9 := by omega
    by_cases hk0 : 0 < k ∧ y.toNat = 0
    · have h128I : (y.toNat : Int) < 128 := by omega
      have t5 : ((y.toNat : Int) == 0) = true := by simp; omega
      have t6 : decide ((0 : Int) < (k : Int)) = true := decide_eq_true (by omega)
      have t7 : decide (0 < k) = true := decide_eq_true (by omega)
      rcases hz9 with ⟨h9, h1⟩ | h9
      · have t3 : ((k : Int) == 9) = true := by simp; omega
        have t4 : ¬ (1 : Int) < (y.toNat : Int) := by omega
        clear hk0 hk9 hrd hk10 h9 h1
        go_wp2_with fail
        exact ⟨rfl, rfl, rfl⟩
      · have t3 : ((k : Int) == 9) = false := by simp; omega
        clear hk0 hk9 hrd hk10 h9
        go_wp2_with fail
        exact ⟨rfl, rfl, rfl⟩
    rw [if_neg (by omega)] at hrd
    by_cases h128 : y.toNat < 128
    · rw [if_pos h128] at hrd
      cases hrd
    rw [if_neg h128] at hrd
    have hr2 : rdU (k + 1) (l.drop (k + 1)) = none := by
      cases h : rdU (k + 1) (l.drop (k + 1)) with
      | none => rfl
      | some q => rw [h] at hrd; cases hrd
    have h9 : k ≠ 9 := by omega
    have h128I : ¬ (y.toNat : Int) < 128 := by omega
    have hpow : 2 ^ (7 * (k + 1)) = 2 ^ (7 * k) * 128 := by rw [show 7 * (k + 1) = 7 * k + 7 by omega, Nat.pow_add]
    have hsum : acc + y.toNat % 128 * 2 ^ (7 * k) < 2 ^ (7 * (k + 1)) := by
      have : y.toNat % 128 * 2 ^ (7 * k) ≤ 127 * 2 ^ (7 * k) := Nat.mul_le_mul_right _ (by omega)
      rw [hpow]
      omega
    have h63 : 2 ^ (7 * (k + 1)) ≤ 2 ^ 63 := Nat.pow_le_pow_right (by decide) (by omega)
    have hor : bits .or .u64 (acc : Int) (IntKind.u64.wrap ((y.toNat : Int) % 128 * 2 ^ (7 * k))) = ((acc + y.toNat % 128 * 2 ^ (7 * k) : Nat) : Int) := by
      have h1 := or_add acc (y.toNat % 128) (7 * k) hacc (by omega)
      have h3 : IntKind.u64.wrap ((y.toNat : Int) % 128 * 2 ^ (7 * k)) = ((y.toNat % 128 * 2 ^ (7 * k) : Nat) : Int) := by
        have h4 : ((y.toNat : Int) % 128 * 2 ^ (7 * k)) = ((y.toNat % 128 * 2 ^ (7 * k) : Nat) : Int) := by push_cast; rfl
        rw [h4, u64w]
        omega
      rw [h3, h1]
    have HACC := hid hsum
    have HR2 := hid hr2
    obtain ⟨acc2, hacc2⟩ : ∃ acc2, acc + y.toNat % 128 * 2 ^ (7 * k) = acc2 := ⟨_, rfl⟩
    rw [hacc2] at hor HACC
    have t3 : ((k : Int) == 9) = false := by simp; omega
    have hk11 : k + 1 ≤ 10 := by omega
    clear hpow hr2 hacc2 hrd hsum h63 hk0 hk9 hk10 hz9 h9
    go_wp2_with fail
    exact ⟨⟨k + 1, acc2, by omega, by omega, by go_num, rfl, HACC.out, HR2.out, by trivial⟩, by simp [intOf] <;> omega⟩

end Go.Proofs.Ytkfpacklpelefaa
