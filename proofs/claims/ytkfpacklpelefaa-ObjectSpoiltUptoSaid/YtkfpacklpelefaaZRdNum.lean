/-
  The reader's numbers, walked.
-/
import Derived.Test.YtkfpacklpelefaaZRegion
import Derived.Test.YtkfpacklpelefaaZText10
namespace Go.Proofs.Ytkfpacklpelefaa
set_option linter.unusedVariables false
set_option linter.unusedSimpArgs false
open Go.RowKit

/-- The reader: a variable that holds the bytes that are left; they lie below it. -/
def RdAt (b : Nat) (w : World) (l : List UInt8) : Prop := ∃ a c, BoxAt w b 64 [.slice a l.length c] ∧ BytesAt 0 w (.slice a l.length c) l ∧ (0 < l.length → ∀ k, (Value.slice a l.length c).ownBlock = some k → k < b) ∧ (a = none ∨ ∃ bb bo, a = some ⟨bb, bo, none⟩)
theorem bytes_drop {lo : Nat} {w : World} {bb bo c : Nat} {l : List UInt8} (h : BytesAt lo w (.slice (some ⟨bb, bo, none⟩) l.length c) l) (j : Nat) (hj : j ≤ l.length) : BytesAt lo w (.slice (some ⟨bb, bo + j, none⟩) (l.length - j) (c - j)) (l.drop j) := by
  obtain ⟨a', c', b', o', he, p1, p2, p3, p4, p5, p6, p7⟩ := BytesAt.open h
  obtain ⟨rfl, _, rfl⟩ := Value.slice.inj he
  have hl : (l.drop j).length = l.length - j := by simp
  refine ⟨_, c - j, bb, bo + j, by rw [hl], (fun h => by cases h), fun h0 => ⟨rfl, ?_⟩, fun i k hi hk => ?_, by omega, by omega, by omega⟩
  · have h1 := p1 (by omega)
    have h2 := p4 (by omega)
    simp only [Option.some.injEq, Addr.mk.injEq] at h1
    omega
  · have h1 := p1 (by omega)
    simp only [Option.some.injEq, Addr.mk.injEq] at h1
    obtain ⟨rfl, rfl, _⟩ := h1
    have h2 := p2 (j + i) (by omega)
    obtain rfl : k = 0 := by have : k < 1 := hk; omega
    show w.cell? ⟨bb, bo + j + i * 1 + 0, none⟩ = some (Value.int .u8 ((nth (l.drop j) i).toNat : Nat))
    rw [nth_drop, ← h2]
    congr 2
    omega
theorem bytes_gone {lo : Nat} {w : World} {a : Option Addr} {c : Nat} {l : List UInt8} (h : BytesAt lo w (.slice a l.length c) l) (j : Nat) (hj : l.length ≤ j) (c' : Nat) (hc : c' ≤ c) (hn : a = none → c' = 0) : BytesAt lo w (.slice a (l.length - j) c') (l.drop j) := by
  obtain ⟨a', c2, b', o', he, p1, p2, p3, p4, p5, p6, p7⟩ := BytesAt.open h
  obtain ⟨rfl, _, rfl⟩ := Value.slice.inj he
  have hl : l.drop j = [] := List.drop_of_length_le hj
  have h0 : l.length - j = 0 := by omega
  rw [hl, h0]
  exact ⟨a, c', 0, 0, rfl, hn, (fun h => by simp at h), (fun i k hi => by simp at hi), by simp, by omega, by simp⟩
def malP : List PanicEntry := [{ v := .iface 61 (.agg #[]), recovered := false }]

theorem and127 (c : UInt8) : bits .and .u8 (c.toNat : Nat) 127 = ((c.toNat % 128 : Nat) : Int) := by
  have hc := c.toNat_lt
  show IntKind.u8.wrap (((BitVec.ofInt 8 ((c.toNat : Nat) : Int)) &&& (BitVec.ofInt 8 127)).toNat : Int) = _
  rw [BitVec.ofInt_natCast, show BitVec.ofInt 8 127 = BitVec.ofNat 8 127 from rfl, BitVec.toNat_and, BitVec.toNat_ofNat, BitVec.toNat_ofNat, Nat.mod_eq_of_lt (by simpa using hc)]
  rw [show (127 % 2 ^ 8) = 2 ^ 7 - 1 from rfl, Nat.and_two_pow_sub_one_eq_mod]
  exact IntWalk.u8_in _ (by omega)
theorem or_add (a x k : Nat) (h : a < 2 ^ k) (hx : a + x * 2 ^ k < 2 ^ 64) : bits .or .u64 (a : Int) ((x * 2 ^ k : Nat) : Int) = ((a + x * 2 ^ k : Nat) : Int) := by
  show IntKind.u64.wrap (((BitVec.ofInt 64 (a : Int)) ||| (BitVec.ofInt 64 ((x * 2 ^ k : Nat) : Int))).toNat : Int) = _
  rw [BitVec.ofInt_natCast, BitVec.ofInt_natCast, BitVec.toNat_or, BitVec.toNat_ofNat, BitVec.toNat_ofNat, Nat.mod_eq_of_lt (by omega), Nat.mod_eq_of_lt (by omega)]
  have h2 := Nat.two_pow_add_eq_or_of_lt h x
  rw [Nat.mul_comm] at h2
  rw [Nat.or_comm, ← h2]
  rw [u64w]
  omega

theorem and_one (u : Nat) (h : u < 2 ^ 64) : (bits .and .u64 (u : Int) 1 == 1) = decide (u % 2 = 1) := by
  have e : bits .and .u64 (u : Int) 1 = ((u % 2 : Nat) : Int) := by
    show IntKind.u64.wrap (((BitVec.ofInt 64 (u : Int)) &&& (BitVec.ofInt 64 1)).toNat : Int) = _
    rw [BitVec.ofInt_natCast, show BitVec.ofInt 64 1 = BitVec.ofNat 64 1 from rfl, BitVec.toNat_and, BitVec.toNat_ofNat, BitVec.toNat_ofNat, Nat.mod_eq_of_lt h, show (1 % 2 ^ 64) = 1 from rfl, Nat.and_one_is_mod]
    rw [u64w]
    omega
  rw [e]
  by_cases h2 : u % 2 = 1
  · simp [h2]
  · simp [h2, show u % 2 = 0 by omega]
theorem zag_odd (u : Nat) (h : u < 2 ^ 64) (h2 : u % 2 = 1) : wrap64 (bits .xor .u64 IntKind.u64.max ((u : Int) / 2)) = zag u := by
  have e : ((u : Int) / 2) = ((u / 2 : Nat) : Int) := by omega
  rw [e, xor_max _ (by omega)]
  unfold wrap64 zag
  rw [if_pos h2]
  omega
theorem zag_even (u : Nat) (h : u < 2 ^ 64) (h2 : ¬ u % 2 = 1) : wrap64 ((u : Int) / 2) = zag u := by
  unfold wrap64 zag
  rw [if_neg h2]
  omega
theorem rdU_le {l s : List UInt8} {u : Nat} (h : rdU 0 l = some (u, s)) : u < 2 ^ 64 := by
  have := (rdU_of 0 l u s h (by omega)).2.1
  simpa using this

set_option maxRecDepth 100000 in
set_option maxHeartbeats 4000000 in
theorem ornum_ok (b : Nat) (l r : List UInt8) (n : Int) (w : World) (h : RdAt b w l) (hr : rdN l = some (n, r)) :
    Calls Try.prog 45 #[.pointer (some ⟨b, 0, none⟩)] w fun e w' => e = .returned (.int .i64 n) ∧ RdAt b w' r ∧ KT b [64] w w' := by
  obtain ⟨a, c, hbox, hby, hlow, _⟩ := h
  have HLOW := hid hlow
  have HBOX := hid hbox
  have HBY := hid hby
  have c0 := hbox.cell 0 _ rfl
  have z0 := hbox.lt
  have f0 := hbox.frozen 0
  obtain ⟨⟨u, s⟩, hu, hz⟩ := Option.map_eq_some_iff.1 hr
  simp only [Prod.mk.injEq] at hz
  obtain ⟨rfl, rfl⟩ := hz
  have HU := hid hu
  obtain ⟨a', c', bb, bo, he, p1, p2, p3, _, p5, p6, p7⟩ := hby.open
  obtain ⟨rfl, _, rfl⟩ := Value.slice.inj he
  have HP := hid (And.intro p1 (And.intro p2 p3))
  clear hbox hby hu hr p1 p2 p3 he hlow
  go_enter Try.func45, Try.ntmps45
  go_wp2_with fail
  go_loopw [3, 4] (fun uv i wr => ∃ (k acc v : Nat), k ≤ 10 ∧ k ≤ l.length ∧ i = .int .i64 k ∧ uv = .int .u64 acc ∧ acc < 2 ^ (7 * k) ∧ rdU k (l.drop k) = some (v, s) ∧ acc + 2 ^ (7 * k) * v = u ∧ wr = w) (fun _ i _ => 11 - (intOf i).toNat)
  case atStart => exact ⟨0, 0, u, by omega, by omega, rfl, rfl, by simp, HU.out, by simp, rfl⟩
  case round =>
    obtain ⟨k, acc, v, hk, hkl, rfl, rfl, hacc, hrd, hval, rfl⟩ := hrel
    obtain ⟨wo, hwo⟩ : ∃ wo, wo = wr := ⟨_, rfl⟩
    subst hwo
    have hkl2 : k < l.length := by
      rcases Nat.lt_or_ge k l.length with h | h
      · exact h
      · rw [List.drop_of_length_le h] at hrd
        simp [rdU] at hrd
    have hdrop : l.drop k = nth l k :: l.drop (k + 1) := by rw [List.drop_eq_getElem_cons hkl2, nth_eq _ _ hkl2]
    rw [hdrop] at hrd
    obtain ⟨p1, p2, p3⟩ := HP.out
    have e1 := p1 (by omega)
    subst e1
    have z1 := p3 (by omega)
    have c1 := p2 k hkl2
    obtain ⟨y, hy⟩ : ∃ y, nth l k = y := ⟨_, rfl⟩
    rw [hy] at hrd c1
    have HRD := hid hrd
    clear p1 p2 p3 hdrop hy
    unfold rdU at hrd
    split at hrd
    · cases hrd
    rename_i hcond
    have HCOND := hid hcond
    have hklI : (k : Int) < l.length := Int.ofNat_lt.2 hkl2
    have hk10 : k ≤ 9 := by omega
    have t1 : ((k : Int) == (l.length : Int)) = false := by simp; omega
    have t2 : ((k : Int) == 10) = false := by simp; omega
    have hw7 : IntKind.i64.wrap (7 * (k : Int)) = 7 * (k : Int) := IntWalk.i64_in _ (by omega)
    have hyl := byte_lt y
    have han := and127 y
    by_cases h128 : y.toNat < 128
    · rw [if_pos h128] at hrd
      simp only [Option.some.injEq, Prod.mk.injEq] at hrd
      obtain ⟨rfl, hs⟩ := hrd
      have HS := hid hs
      have HV := hid hval
      have h128I : (y.toNat : Int) < 128 := by omega
      have hu64 := rdU_le HU.out
      have hor : bits .or .u64 (acc : Int) (IntKind.u64.wrap ((y.toNat : Int) % 128 * 2 ^ (7 * k))) = ((u : Nat) : Int) := by
        have h1 := or_add acc (y.toNat % 128) (7 * k) hacc (by rw [Nat.mod_eq_of_lt h128, Nat.mul_comm, hval]; exact hu64)
        have h3 : IntKind.u64.wrap ((y.toNat : Int) % 128 * 2 ^ (7 * k)) = ((y.toNat % 128 * 2 ^ (7 * k) : Nat) : Int) := by
          have h4 : ((y.toNat : Int) % 128 * 2 ^ (7 * k)) = ((y.toNat % 128 * 2 ^ (7 * k) : Nat) : Int) := by push_cast; rfl
          rw [h4, u64w]
          have : y.toNat % 128 * 2 ^ (7 * k) ≤ u := by rw [Nat.mod_eq_of_lt h128, Nat.mul_comm, ← hval]; omega
          omega
        rw [h3, h1, ← hval, Nat.mod_eq_of_lt h128, Nat.mul_comm]
      have h1m := and_one u hu64
      have HOD := hid (zag_odd u hu64)
      have HEV := hid (zag_even u hu64)
      have hend : ∀ (a2 : Option Addr) (c2 : Nat), BytesAt 0 wo (.slice a2 (l.length - (k + 1)) c2) (l.drop (k + 1)) → (0 < l.length - (k + 1) → ∀ q, (Value.slice a2 (l.length - (k + 1)) c2).ownBlock = some q → q < b) → (a2 = none ∨ ∃ bb bo, a2 = some ⟨bb, bo, none⟩) → RdAt b (wo.setCell ⟨b, 0, none⟩ (.slice a2 (l.length - (k + 1)) c2)) s ∧ KT b [64] wo (wo.setCell ⟨b, 0, none⟩ (.slice a2 (l.length - (k + 1)) c2)) := fun a2 c2 hb hq hform => by
        have hl : s.length = l.length - (k + 1) := by rw [← HS.out]; simp
        rw [HS.out] at hb
        rw [← hl] at hb hq ⊢
        refine ⟨⟨a2, c2, HBOX.out.set 0 _, SlE.agree hb fun h0 q hk => ?_, hq, hform⟩, KT.store HBOX.out (by simp) (Nat.le_refl _) 0 _⟩
        exact Below.heap_setCell _ _ _ _ (by have := hq h0 q hk; show q ≠ b; omega)
      have HEND := hid hend
      have HDR := hid (bytes_drop HBY.out (k + 1) (by omega))
      have HLB := hid (HLOW.out (by omega) bb rfl)
      clear hs hcond hval hend hu64
      have hzk : k = 0 ∨ (0 < k ∧ k ≠ 9) ∨ k = 9 := by omega
      have hodd : u % 2 = 1 ∨ ¬ u % 2 = 1 := Classical.em _
      rcases hzk with h9 | ⟨h0k, h9⟩ | h9
      all_goals
        first
          | (have t3 : ((k : Int) == 9) = false := by simp; omega
             have t5 : ¬ (0 : Int) < (k : Int) := by omega
             have t6 : decide ((0 : Int) < (k : Int)) = false := decide_eq_false t5
             have t7 : decide (0 < k) = false := decide_eq_false (by omega))
          | (have t3 : ((k : Int) == 9) = false := by simp; omega
             have t5 : ((y.toNat : Int) == 0) = false := by have := HCOND.out; simp; omega
             have t6 : decide ((0 : Int) < (k : Int)) = true := decide_eq_true (by omega)
             have t7 : decide (0 < k) = true := decide_eq_true (by omega))
          | (have t3 : ((k : Int) == 9) = true := by simp; omega
             have t4 : ¬ (1 : Int) < (y.toNat : Int) := by have := HCOND.out; omega
             have t5 : ((y.toNat : Int) == 0) = false := by have := HCOND.out; simp; omega
             have t6 : decide ((0 : Int) < (k : Int)) = true := decide_eq_true (by omega)
             have t7 : decide (0 < k) = true := decide_eq_true (by omega))
        clear h9
        rcases hodd with ho | ho
        all_goals
          go_wp2_with fail
          all_goals
            go_ret
          all_goals
            refine ⟨ret_int (by first | exact HOD.out ho | exact HEV.out ho), ?_⟩
          all_goals
            first
              | exact HEND.out _ _ HDR.out (fun _ q hq => by have e : bb = q := by simpa [Value.ownBlock] using hq
                                                             have := HLB.out; omega) (.inr ⟨_, _, rfl⟩)
              | exact HEND.out _ _ (bytes_gone HBY.out (k + 1) (by omega) 0 (Nat.zero_le _) (fun h => by cases h)) (fun _ q hq => by have e : bb = q := by simpa [Value.ownBlock] using hq
                                                                                                                                     have := HLB.out; omega) (.inr ⟨_, _, rfl⟩)
    · rw [if_neg h128] at hrd
      cases hr2 : rdU (k + 1) (l.drop (k + 1)) with
      | none => rw [hr2] at hrd; cases hrd
      | some q =>
        obtain ⟨v2, s2⟩ := q
        rw [hr2] at hrd
        simp only [Option.some.injEq, Prod.mk.injEq] at hrd
        obtain ⟨rfl, hs⟩ := hrd
        subst hs
        have h128I : ¬ (y.toNat : Int) < 128 := by omega
        have hu64 := rdU_le HU.out
        have h9 : k ≠ 9 := by have := HCOND.out; omega
        have hpow : 2 ^ (7 * (k + 1)) = 2 ^ (7 * k) * 128 := by rw [show 7 * (k + 1) = 7 * k + 7 by omega, Nat.pow_add]
        have hval2 : acc + y.toNat % 128 * 2 ^ (7 * k) + 2 ^ (7 * (k + 1)) * v2 = u := by
          rw [← hval, hpow, Nat.mul_add, Nat.mul_comm (2 ^ (7 * k)) (y.toNat % 128), Nat.mul_assoc, Nat.add_assoc]
        have hor : bits .or .u64 (acc : Int) (IntKind.u64.wrap ((y.toNat : Int) % 128 * 2 ^ (7 * k))) = ((acc + y.toNat % 128 * 2 ^ (7 * k) : Nat) : Int) := by
          have h1 := or_add acc (y.toNat % 128) (7 * k) hacc (by omega)
          have h3 : IntKind.u64.wrap ((y.toNat : Int) % 128 * 2 ^ (7 * k)) = ((y.toNat % 128 * 2 ^ (7 * k) : Nat) : Int) := by
            have h4 : ((y.toNat : Int) % 128 * 2 ^ (7 * k)) = ((y.toNat % 128 * 2 ^ (7 * k) : Nat) : Int) := by push_cast; rfl
            rw [h4, u64w]
            omega
          rw [h3, h1]
        have HACC := hid (show acc + y.toNat % 128 * 2 ^ (7 * k) < 2 ^ (7 * (k + 1)) by
          have : y.toNat % 128 * 2 ^ (7 * k) ≤ 127 * 2 ^ (7 * k) := Nat.mul_le_mul_right _ (by omega)
          rw [hpow]
          omega)
        have HR2 := hid hr2
        have HV2 := hid hval2
        obtain ⟨acc2, hacc2⟩ : ∃ acc2, acc + y.toNat % 128 * 2 ^ (7 * k) = acc2 := ⟨_, rfl⟩
        rw [hacc2] at hor HACC HV2
        have t3 : ((k : Int) == 9) = false := by simp; omega
        clear hpow hval2 hr2 hacc2 hcond hval
        go_wp2_with fail
        exact ⟨⟨k + 1, acc2, v2, by omega, by omega, by go_num, rfl, HACC.out, HR2.out, HV2.out, by trivial⟩, by simp [intOf] <;> omega⟩

end Go.Proofs.Ytkfpacklpelefaa
