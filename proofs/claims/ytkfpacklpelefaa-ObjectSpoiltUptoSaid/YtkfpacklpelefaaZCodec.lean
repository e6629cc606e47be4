/-
  The binary form in plain words: numbers, and what reading them gives.
-/
import Derived.Test.YtkfpacklpelefaaZEqC
namespace Go.Proofs.Ytkfpacklpelefaa
set_option linter.unusedVariables false
set_option linter.unusedSimpArgs false
open Go.RowKit

/-- A number as digits of seven bits. -/
def numL (u : Nat) : List UInt8 := if h : u < 128 then [UInt8.ofNat u] else UInt8.ofNat (u % 128 + 128) :: numL (u / 128)
termination_by u
decreasing_by omega
def zig (n : Int) : Nat := if n < 0 then (-2 * n - 1).toNat else (2 * n).toNat
def zag (u : Nat) : Int := if u % 2 = 1 then -((u / 2 : Nat) : Int) - 1 else ((u / 2 : Nat) : Int)
def encN (n : Int) : List UInt8 := numL (zig n)

theorem numL_small (u : Nat) (h : u < 128) : numL u = [UInt8.ofNat u] := by rw [numL, dif_pos h]
theorem numL_big (u : Nat) (h : ¬ u < 128) : numL u = UInt8.ofNat (u % 128 + 128) :: numL (u / 128) := by rw [numL, dif_neg h]
theorem zag_zig (n : Int) : zag (zig n) = n := by
  unfold zag zig
  split <;> split <;> omega
theorem zig_zag (u : Nat) : zig (zag u) = u := by
  unfold zag zig
  split <;> split <;> omega
theorem zig_lt (n : Int) (h : I64 n) : zig n < 2 ^ 64 := by
  unfold I64 at h
  unfold zig
  split <;> omega
theorem zag_in (u : Nat) (h : u < 2 ^ 64) : I64 (zag u) := by
  unfold zag I64
  split <;> omega

/-- Reading digits, from the i-th on. -/
def rdU : Nat → List UInt8 → Option (Nat × List UInt8)
  | _, [] => none
  | i, c :: r => if i = 10 ∨ (i = 9 ∧ 1 < c.toNat) ∨ (0 < i ∧ c.toNat = 0) then none else if c.toNat < 128 then some (c.toNat, r) else match rdU (i + 1) r with
    | none => none
    | some (u, s) => some (c.toNat % 128 + 128 * u, s)

theorem ofNat_lt (u : Nat) (h : u < 256) : (UInt8.ofNat u).toNat = u := by
  rw [UInt8.toNat_ofNat']; omega
theorem rdU_num (r : List UInt8) : ∀ (i u : Nat), i ≤ 9 → u < 2 ^ (64 - 7 * i) → (0 < i → 0 < u) → rdU i (numL u ++ r) = some (u, r) := by
  intro i u
  induction u using Nat.strongRecOn generalizing i with
  | ind u ih =>
    intro hi hu h0
    by_cases h : u < 128
    · rw [numL_small u h]
      show rdU i (UInt8.ofNat u :: r) = _
      unfold rdU
      rw [ofNat_lt u (by omega), if_neg, if_pos h]
      rintro (e | ⟨e, e2⟩ | ⟨e, e2⟩)
      · omega
      · subst e
        simp at hu
        omega
      · have := h0 e; omega
    · rw [numL_big u h]
      show rdU i (UInt8.ofNat (u % 128 + 128) :: (numL (u / 128) ++ r)) = _
      unfold rdU
      rw [ofNat_lt _ (by omega)]
      have h9 : i < 9 := by
        rcases Nat.lt_or_ge i 9 with h' | h'
        · exact h'
        · have : i = 9 := by omega
          subst this
          simp at hu
          omega
      have hp : 2 ^ (64 - 7 * i) = 2 ^ (64 - 7 * (i + 1)) * 128 := by
        rw [show (128 : Nat) = 2 ^ 7 from rfl, ← Nat.pow_add]
        congr 1
        omega
      rw [if_neg (by omega), if_neg (by omega), ih (u / 128) (by omega) (i + 1) (by omega) (by rw [hp] at hu; exact (Nat.div_lt_iff_lt_mul (by decide)).2 hu) (by omega)]
      simp only [Option.some.injEq, Prod.mk.injEq, and_true]
      omega
theorem rdU_of (i : Nat) (l : List UInt8) (u : Nat) (r : List UInt8) (h : rdU i l = some (u, r)) (hi : i ≤ 10) : l = numL u ++ r ∧ u < 2 ^ (64 - 7 * i) ∧ (0 < i → 0 < u) ∧ i ≤ 9 := by
  induction l generalizing i u with
  | nil => simp [rdU] at h
  | cons c l ih =>
    unfold rdU at h
    split at h
    · cases h
    · rename_i hc
      have h9 : i ≤ 9 := by omega
      have hcl := c.toNat_lt
      split at h
      · rename_i h128
        simp only [Option.some.injEq, Prod.mk.injEq] at h
        obtain ⟨rfl, rfl⟩ := h
        refine ⟨?_, ?_, fun h0 => ?_, h9⟩
        · rw [numL_small _ h128]
          simp
        · by_cases e : i = 9
          · subst e
            simp
            omega
          · have : 2 ^ 7 ≤ 2 ^ (64 - 7 * i) := Nat.pow_le_pow_right (by decide) (by omega)
            omega
        · omega
      · rename_i h128
        cases hr : rdU (i + 1) l with
        | none => rw [hr] at h; cases h
        | some p =>
          obtain ⟨v, s⟩ := p
          rw [hr] at h
          simp only [Option.some.injEq, Prod.mk.injEq] at h
          obtain ⟨rfl, rfl⟩ := h
          obtain ⟨e1, e2, e3, e4⟩ := ih (i + 1) v hr (by omega)
          have hv := e3 (by omega)
          have hp : 2 ^ (64 - 7 * i) = 2 ^ (64 - 7 * (i + 1)) * 128 := by
            rw [show (128 : Nat) = 2 ^ 7 from rfl, ← Nat.pow_add]
            congr 1
            omega
          refine ⟨?_, ?_, fun _ => by omega, h9⟩
          · rw [numL_big _ (by omega), e1]
            have h1 : (c.toNat % 128 + 128 * v) % 128 + 128 = c.toNat := by omega
            have h2 : (c.toNat % 128 + 128 * v) / 128 = v := by omega
            rw [h1, h2]
            simp
          · rw [hp]
            omega

/-- A number; a number of elements; a text. -/
def rdN (l : List UInt8) : Option (Int × List UInt8) := (rdU 0 l).map fun x => (zag x.1, x.2)
def rdC (l : List UInt8) : Option (Nat × List UInt8) := match rdN l with
  | none => none
  | some (n, r) => if n < 0 ∨ (r.length : Int) < n then none else some (n.toNat, r)
def rdT (l : List UInt8) : Option (ByteArray × List UInt8) := match rdC l with
  | none => none
  | some (n, r) => some (⟨(r.take n).toArray⟩, r.drop n)

theorem rdN_enc (n : Int) (r : List UInt8) (h : I64 n) : rdN (encN n ++ r) = some (n, r) := by
  unfold rdN encN
  rw [rdU_num r 0 (zig n) (by omega) (by simpa using zig_lt n h) (by omega)]
  simp [zag_zig]
theorem rdN_of {l r : List UInt8} {n : Int} (h : rdN l = some (n, r)) : l = encN n ++ r ∧ I64 n := by
  unfold rdN at h
  obtain ⟨⟨u, s⟩, h1, h2⟩ := Option.map_eq_some_iff.1 h
  simp only [Prod.mk.injEq] at h2
  obtain ⟨rfl, rfl⟩ := h2
  obtain ⟨e1, e2, _⟩ := rdU_of 0 l u s h1 (by omega)
  refine ⟨?_, zag_in u (by simpa using e2)⟩
  unfold encN
  rw [zig_zag]
  exact e1
theorem rdC_enc (n : Nat) (r : List UInt8) (h : n ≤ r.length) (hi : I64 n) : rdC (encN n ++ r) = some (n, r) := by
  unfold rdC
  rw [rdN_enc n r hi]
  dsimp only
  rw [if_neg (by omega)]
  simp
theorem rdC_of {l r : List UInt8} {n : Nat} (h : rdC l = some (n, r)) : l = encN n ++ r ∧ n ≤ r.length ∧ I64 n := by
  unfold rdC at h
  cases hn : rdN l with
  | none => rw [hn] at h; cases h
  | some p =>
    obtain ⟨m, s⟩ := p
    rw [hn] at h
    dsimp only at h
    split at h
    · cases h
    · rename_i hm
      simp only [Option.some.injEq, Prod.mk.injEq] at h
      obtain ⟨rfl, rfl⟩ := h
      obtain ⟨e1, e2⟩ := rdN_of hn
      have e : ((m.toNat : Nat) : Int) = m := Int.toNat_of_nonneg (by omega)
      rw [e]
      exact ⟨e1, by omega, e2⟩
def encT (s : ByteArray) : List UInt8 := encN s.data.toList.length ++ s.data.toList
theorem rdT_enc (s : ByteArray) (r : List UInt8) (hi : I64 (s.data.toList.length : Nat)) : rdT (encT s ++ r) = some (s, r) := by
  unfold rdT encT
  rw [List.append_assoc, rdC_enc _ _ (by simp) hi]
  simp
theorem rdT_of {l r : List UInt8} {s : ByteArray} (h : rdT l = some (s, r)) : l = encT s ++ r := by
  unfold rdT at h
  cases hc : rdC l with
  | none => rw [hc] at h; cases h
  | some p =>
    obtain ⟨n, t⟩ := p
    rw [hc] at h
    simp only [Option.some.injEq, Prod.mk.injEq] at h
    obtain ⟨rfl, rfl⟩ := h
    obtain ⟨e1, e2, _⟩ := rdC_of hc
    unfold encT
    rw [List.append_assoc, e1]
    simp [Nat.min_eq_left e2]

/-- Elements one after the other. -/
def rdMany {α : Type} (p : List UInt8 → Option (α × List UInt8)) : Nat → List UInt8 → Option (List α × List UInt8)
  | 0, l => some ([], l)
  | n + 1, l => match p l with
    | none => none
    | some (x, r) => match rdMany p n r with
      | none => none
      | some (xs, s) => some (x :: xs, s)
theorem rdMany_enc {α : Type} (p : List UInt8 → Option (α × List UInt8)) (e : α → List UInt8) (r : List UInt8) : ∀ xs : List α, (∀ x ∈ xs, ∀ r, p (e x ++ r) = some (x, r)) → rdMany p xs.length (xs.flatMap e ++ r) = some (xs, r)
  | [], _ => rfl
  | x :: xs, h => by
    rw [List.flatMap_cons, List.append_assoc, List.length_cons, rdMany, h x (by simp)]
    dsimp only
    rw [rdMany_enc p e r xs fun y hy => h y (by simp [hy])]
theorem rdMany_of {α : Type} (p : List UInt8 → Option (α × List UInt8)) (e : α → List UInt8) (hp : ∀ l x r, p l = some (x, r) → l = e x ++ r) : ∀ (n : Nat) (l : List UInt8) (xs : List α) (r : List UInt8), rdMany p n l = some (xs, r) → l = xs.flatMap e ++ r ∧ xs.length = n
  | 0, l, xs, r, h => by
    simp only [rdMany, Option.some.injEq, Prod.mk.injEq] at h
    obtain ⟨rfl, rfl⟩ := h
    exact ⟨rfl, rfl⟩
  | n + 1, l, xs, r, h => by
    unfold rdMany at h
    cases h1 : p l with
    | none => rw [h1] at h; cases h
    | some q =>
      obtain ⟨x, s⟩ := q
      rw [h1] at h
      dsimp only at h
      cases h2 : rdMany p n s with
      | none => rw [h2] at h; cases h
      | some q =>
        obtain ⟨ys, t⟩ := q
        rw [h2] at h
        simp only [Option.some.injEq, Prod.mk.injEq] at h
        obtain ⟨rfl, rfl⟩ := h
        obtain ⟨e1, e2⟩ := rdMany_of p e hp n s ys t h2
        rw [hp l x s h1, e1, List.flatMap_cons, List.append_assoc]
        exact ⟨rfl, by simp [e2]⟩
/-- A number of elements, and the elements. -/
def rdList {α : Type} (p : List UInt8 → Option (α × List UInt8)) (l : List UInt8) : Option (List α × List UInt8) := match rdC l with
  | none => none
  | some (n, r) => rdMany p n r
def encL {α : Type} (e : α → List UInt8) (xs : List α) : List UInt8 := encN xs.length ++ xs.flatMap e
theorem flat_ge {α : Type} (e : α → List UInt8) (h : ∀ x, 0 < (e x).length) : ∀ xs : List α, xs.length ≤ (xs.flatMap e).length
  | [] => by simp
  | x :: xs => by
    have := flat_ge e h xs
    have := h x
    rw [List.flatMap_cons, List.length_append, List.length_cons]
    omega
theorem rdList_enc {α : Type} (p : List UInt8 → Option (α × List UInt8)) (e : α → List UInt8) (he : ∀ x, 0 < (e x).length) (r : List UInt8) (xs : List α) (hi : I64 (xs.length : Nat)) (h : ∀ x ∈ xs, ∀ r, p (e x ++ r) = some (x, r)) : rdList p (encL e xs ++ r) = some (xs, r) := by
  unfold rdList encL
  have := flat_ge e he xs
  rw [List.append_assoc, rdC_enc _ _ (by rw [List.length_append]; omega) hi]
  exact rdMany_enc p e r xs h
theorem rdList_of {α : Type} (p : List UInt8 → Option (α × List UInt8)) (e : α → List UInt8) (hp : ∀ l x r, p l = some (x, r) → l = e x ++ r) (l : List UInt8) (xs : List α) (r : List UInt8) (h : rdList p l = some (xs, r)) : l = encL e xs ++ r := by
  unfold rdList at h
  cases hc : rdC l with
  | none => rw [hc] at h; cases h
  | some q =>
    obtain ⟨n, s⟩ := q
    rw [hc] at h
    obtain ⟨e1, _, _⟩ := rdC_of hc
    obtain ⟨e2, e3⟩ := rdMany_of p e hp n s xs r h
    unfold encL
    rw [e1, e2, e3, List.append_assoc]

end Go.Proofs.Ytkfpacklpelefaa
