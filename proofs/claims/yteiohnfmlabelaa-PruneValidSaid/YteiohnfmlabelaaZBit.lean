/-
  Sets of registers as bits.
-/
import Derived.IntWalk
import Derived.OpenShut
import Derived.Test.YteiohnfmlabelaaZAt
namespace Go.Proofs.Yteiohnfmlabelaa
set_option linter.unusedVariables false
set_option linter.unusedSimpArgs false
open Go.RowKit

theorem wrapU (n : Nat) (h : n < 2 ^ 64) : IntKind.u64.wrap (n : Int) = (n : Int) := by
  refine IntWalk.u64_in _ ?_
  simp only [Nat.reducePow] at h
  omega
theorem wrapB (a : BitVec 64) : IntKind.u64.wrap (a.toNat : Int) = (a.toNat : Int) := wrapU _ a.isLt
theorem ofIntB (a : BitVec 64) : BitVec.ofInt 64 (a.toNat : Int) = a := by
  rw [BitVec.ofInt_natCast, BitVec.ofNat_toNat, BitVec.setWidth_eq]
theorem bits_or (a b : BitVec 64) : bits .or .u64 (a.toNat : Int) (b.toNat : Int) = ((a ||| b).toNat : Int) := by
  show IntKind.u64.wrap (((BitVec.ofInt 64 (a.toNat : Int)) ||| (BitVec.ofInt 64 (b.toNat : Int))).toNat : Int) = _
  rw [ofIntB, ofIntB, wrapB]
theorem bits_and (a b : BitVec 64) : bits .and .u64 (a.toNat : Int) (b.toNat : Int) = ((a &&& b).toNat : Int) := by
  show IntKind.u64.wrap (((BitVec.ofInt 64 (a.toNat : Int)) &&& (BitVec.ofInt 64 (b.toNat : Int))).toNat : Int) = _
  rw [ofIntB, ofIntB, wrapB]
theorem bits_andNot (a b : BitVec 64) : bits .andNot .u64 (a.toNat : Int) (b.toNat : Int) = ((a &&& ~~~b).toNat : Int) := by
  show IntKind.u64.wrap (((BitVec.ofInt 64 (a.toNat : Int)) &&& ~~~(BitVec.ofInt 64 (b.toNat : Int))).toNat : Int) = _
  rw [ofIntB, ofIntB, wrapB]
/-- One register's bit, and a shift: behind names, so that the walk leaves them. -/
def bitB (r : Int) : BitVec 64 := BitVec.twoPow 64 r.toNat
def shrB (m : BitVec 64) (k : Nat) : BitVec 64 := m >>> k
theorem bits_bit (r : Int) (h0 : 0 ≤ r) (h1 : r < 64) : IntKind.u64.wrap (2 ^ r.toNat) = ((bitB r).toNat : Int) := by
  have hr : r.toNat < 64 := by omega
  have hp : 2 ^ r.toNat < 2 ^ 64 := Nat.pow_lt_pow_right (by decide) hr
  unfold bitB
  rw [BitVec.toNat_twoPow, Nat.mod_eq_of_lt hp]
  have := wrapU (2 ^ r.toNat) hp
  simpa using this
theorem bits_shl (r : Int) (h0 : 0 ≤ r) (h1 : r < 64) : IntKind.u64.wrap (2 ^ r.toNat) = ((BitVec.twoPow 64 r.toNat).toNat : Int) := by
  have hr : r.toNat < 64 := by omega
  have hp : 2 ^ r.toNat < 2 ^ 64 := Nat.pow_lt_pow_right (by decide) hr
  rw [BitVec.toNat_twoPow, Nat.mod_eq_of_lt hp]
  have := wrapU (2 ^ r.toNat) hp
  simpa using this
theorem bits_shl' (r : Int) (h0 : 0 ≤ r) (h1 : r < 64) : (2 : Int) ^ r.toNat % 18446744073709551616 = ((BitVec.twoPow 64 r.toNat).toNat : Int) := by
  rw [BitVec.toNat_twoPow]
  simp
theorem bits_shr (m : BitVec 64) (k : Nat) : (m.toNat : Int) / 2 ^ k = ((m >>> k).toNat : Int) := by
  rw [BitVec.toNat_ushiftRight, Nat.shiftRight_eq_div_pow]
  simp
theorem bits_shr' (m : BitVec 64) (k : Nat) : (m.toNat : Int) >>> k = ((m >>> k).toNat : Int) := by
  rw [Int.shiftRight_eq_div_pow, ← bits_shr]
  simp
theorem bits_one (m : BitVec 64) (k : Nat) : (bits .and .u64 ((m >>> k).toNat : Int) 1 == 1) = m.getLsbD k := by
  have h1 : (1 : Int) = ((1#64).toNat : Int) := rfl
  rw [h1, bits_and]
  have h2 : (m >>> k &&& 1#64) = if m.getLsbD k then 1#64 else 0#64 := by
    ext i hi
    by_cases e : i = 0
    · subst e
      cases h : m.getLsbD k <;> simp [h]
    · cases h : m.getLsbD k <;> simp [BitVec.getElem_one, e]
  rw [h2]
  cases m.getLsbD k <;> rfl

theorem bits_shrB (m : BitVec 64) (k : Nat) : (m.toNat : Int) / 2 ^ k = ((shrB m k).toNat : Int) := bits_shr m k
theorem bits_oneB (m : BitVec 64) (k : Nat) : (bits .and .u64 ((shrB m k).toNat : Int) 1 == 1) = m.getLsbD k := bits_one m k

/-- The registers of a list, as bits. -/
def setB (l : List Int) : BitVec 64 := l.foldl (fun m r => m ||| BitVec.twoPow 64 r.toNat) 0#64
theorem setB_snoc (l : List Int) (r : Int) : setB (l ++ [r]) = setB l ||| bitB r := by unfold setB; rw [List.foldl_append]; rfl
theorem foldB_bit (l : List Int) : ∀ (m : BitVec 64) (i : Nat), i < 64 → (∀ r ∈ l, 0 ≤ r ∧ r < 64) → ((l.foldl (fun m r => m ||| BitVec.twoPow 64 r.toNat) m).getLsbD i = true ↔ m.getLsbD i = true ∨ (i : Int) ∈ l) := by
  induction l with
  | nil => intro m i _ _; simp
  | cons x l ih =>
    intro m i hi h
    rw [List.foldl_cons, ih _ i hi fun r hr => h r (by simp [hr])]
    have hx := h x (by simp)
    rw [BitVec.getLsbD_or, BitVec.getLsbD_twoPow]
    simp only [Bool.or_eq_true, Bool.and_eq_true, decide_eq_true_eq, List.mem_cons]
    constructor
    · rintro ((h1 | ⟨_, h1⟩) | h1)
      · exact .inl h1
      · exact .inr (.inl (by omega))
      · exact .inr (.inr h1)
    · rintro (h1 | h1 | h1)
      · exact .inl (.inl h1)
      · exact .inl (.inr ⟨by omega, by omega⟩)
      · exact .inr h1
theorem setB_bit (l : List Int) (i : Nat) (hi : i < 64) (h : ∀ r ∈ l, 0 ≤ r ∧ r < 64) : (setB l).getLsbD i = true ↔ (i : Int) ∈ l := by
  unfold setB
  rw [foldB_bit l _ i hi h]
  simp
theorem setB_ext {l l' : List Int} (h : ∀ r ∈ l, 0 ≤ r ∧ r < 64) (h' : ∀ r ∈ l', 0 ≤ r ∧ r < 64) : setB l = setB l' ↔ ∀ r, r ∈ l ↔ r ∈ l' := by
  constructor
  · intro e r
    constructor
    · intro hr
      have hb := h r hr
      have h1 := (setB_bit l r.toNat (by omega) h).2 (by rw [show ((r.toNat : Nat) : Int) = r by omega]; exact hr)
      rw [e] at h1
      have := (setB_bit l' r.toNat (by omega) h').1 h1
      rw [show ((r.toNat : Nat) : Int) = r by omega] at this
      exact this
    · intro hr
      have hb := h' r hr
      have h1 := (setB_bit l' r.toNat (by omega) h').2 (by rw [show ((r.toNat : Nat) : Int) = r by omega]; exact hr)
      rw [← e] at h1
      have := (setB_bit l r.toNat (by omega) h).1 h1
      rw [show ((r.toNat : Nat) : Int) = r by omega] at this
      exact this
  · intro e
    apply BitVec.eq_of_getLsbD_eq
    intro i hi
    rw [Bool.eq_iff_iff, setB_bit l i hi h, setB_bit l' i hi h', e]
theorem setB_nil : setB [] = 0#64 := rfl
theorem setB_or {l a b : List Int} (hl : ∀ r ∈ l, 0 ≤ r ∧ r < 64) (ha : ∀ r ∈ a, 0 ≤ r ∧ r < 64) (hb : ∀ r ∈ b, 0 ≤ r ∧ r < 64) (h : ∀ r, r ∈ l ↔ r ∈ a ∨ r ∈ b) : setB l = setB a ||| setB b := by
  apply BitVec.eq_of_getLsbD_eq
  intro i hi
  rw [BitVec.getLsbD_or, Bool.eq_iff_iff, setB_bit l i hi hl, Bool.or_eq_true, setB_bit a i hi ha, setB_bit b i hi hb, h]
theorem setB_diff {l a b : List Int} (hl : ∀ r ∈ l, 0 ≤ r ∧ r < 64) (ha : ∀ r ∈ a, 0 ≤ r ∧ r < 64) (hb : ∀ r ∈ b, 0 ≤ r ∧ r < 64) (h : ∀ r, r ∈ l ↔ r ∈ a ∧ r ∉ b) : setB l = setB a &&& ~~~setB b := by
  apply BitVec.eq_of_getLsbD_eq
  intro i hi
  rw [BitVec.getLsbD_and, BitVec.getLsbD_not, Bool.eq_iff_iff, setB_bit l i hi hl, Bool.and_eq_true, setB_bit a i hi ha, h]
  have := setB_bit b i hi hb
  cases hq : (setB b).getLsbD i with
  | true => simp [hi, this.1 hq]
  | false =>
    have : (i : Int) ∉ b := fun hm => by rw [this.2 hm] at hq; cases hq
    simp [hi, this]

/-- The registers of a set in increasing order. -/
def listB (m : BitVec 64) (k : Nat) : List Int := ((List.range k).filter fun i => m.getLsbD i).map fun i : Nat => (i : Int)
theorem listB_succ (m : BitVec 64) (k : Nat) : listB m (k + 1) = listB m k ++ if m.getLsbD k then [(k : Int)] else [] := by
  unfold listB
  rw [List.range_succ, List.filter_append, List.map_append]
  cases h : m.getLsbD k <;> simp [List.filter_cons, h]
theorem listB_len (m : BitVec 64) (k : Nat) : (listB m k).length ≤ k := by
  unfold listB
  rw [List.length_map]
  exact Nat.le_trans (List.length_filter_le _ _) (by simp)
theorem listB_setB {l : List Int} (hi : Inc l) (h : ∀ r ∈ l, 0 ≤ r ∧ r < 64) : listB (setB l) 64 = l := by
  refine inc_ext _ _ ?_ hi fun x => ?_
  · unfold listB
    refine List.pairwise_map.2 ?_
    exact (List.Pairwise.filter _ List.pairwise_lt_range).imp (fun h => by omega)
  · unfold listB
    simp only [List.mem_map, List.mem_filter, List.mem_range]
    constructor
    · rintro ⟨i, ⟨h1, h2⟩, rfl⟩
      exact (setB_bit l i h1 h).1 h2
    · intro hx
      have := h x hx
      exact ⟨x.toNat, ⟨by omega, (setB_bit l _ (by omega) h).2 (by rw [show ((x.toNat : Nat) : Int) = x by omega]; exact hx)⟩, by omega⟩

end Go.Proofs.Yteiohnfmlabelaa
