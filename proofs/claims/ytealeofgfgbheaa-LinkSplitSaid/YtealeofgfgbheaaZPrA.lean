/-
  Final targets, in plain words.
-/
import Derived.Test.YtealeofgfgbheaaZJok
namespace Go.Proofs.Ytealeofgfgbheaa
set_option linter.unusedVariables false
set_option linter.unusedSimpArgs false
open Go.RowKit

def finGo (c : List Ins) (pc : Int) : Nat → Int → Int
  | 0, _ => pc
  | n + 1, a => if (nth c a.toNat).op = 16 then finGo c pc n (nth c a.toNat).c else a
/-- The final target. -/
def finL (c : List Ins) (pc : Int) : Int := finGo c pc (c.length + 1) pc
def toT (c : List Ins) (x : Ins) : Ins := if jumps x.op then { x with c := finL c x.c } else x
def targL (c : List Ins) : List Ins := c.map (toT c)
/-- A target. -/
def Tg (c : List Ins) (a : Int) : Prop := 0 ≤ a ∧ a < c.length ∧ (nth c a.toNat).op ≠ 51
def Tgs (c : List Ins) : Prop := ∀ k, k < c.length → jumps (nth c k).op → Tg c (nth c k).c

theorem toT_op (c : List Ins) (x : Ins) : (toT c x).op = x.op := by unfold toT; split <;> rfl
theorem toT_b (c : List Ins) (x : Ins) : (toT c x).b = x.b := by unfold toT; split <;> rfl
theorem targL_len (c : List Ins) : (targL c).length = c.length := by simp [targL]
theorem targL_at (c : List Ins) (k : Nat) (h : k < c.length) : nth (targL c) k = toT c (nth c k) := by
  unfold targL
  rw [nth_eq _ _ (by simpa using h), nth_eq _ _ h]
  simp
theorem targL_op (c : List Ins) (k : Nat) (h : k < c.length) : (nth (targL c) k).op = (nth c k).op := by rw [targL_at c k h, toT_op]
theorem finGo_tg {c : List Ins} (h : Tgs c) (pc : Int) (hp : Tg c pc) : ∀ (n : Nat) (a : Int), Tg c a → Tg c (finGo c pc n a)
  | 0, _, _ => hp
  | n + 1, a, ha => by
    unfold finGo
    split
    · rename_i h16
      refine finGo_tg h pc hp n _ ?_
      obtain ⟨h1, h2, _⟩ := ha
      exact h a.toNat (by omega) (.inl h16)
    · exact ha
theorem finL_tg {c : List Ins} (h : Tgs c) (pc : Int) (hp : Tg c pc) : Tg c (finL c pc) := finGo_tg h pc hp _ _ hp

/-- The chain of jumps. -/
def chn (c : List Ins) (a : Int) : Nat → Int
  | 0 => a
  | k + 1 => (nth c (chn c a k).toNat).c
theorem chn_shift (c : List Ins) (a : Int) : ∀ k, chn c (nth c a.toNat).c k = chn c a (k + 1)
  | 0 => rfl
  | k + 1 => by
    show (nth c (chn c (nth c a.toNat).c k).toNat).c = (nth c (chn c a (k + 1)).toNat).c
    rw [chn_shift c a k]
theorem chn_add (c : List Ins) (a : Int) (i : Nat) : ∀ d, chn c a (i + d) = chn c (chn c a i) d
  | 0 => rfl
  | d + 1 => by
    show (nth c (chn c a (i + d)).toNat).c = (nth c (chn c (chn c a i) d).toNat).c
    rw [chn_add c a i d]
theorem finGo_all (c : List Ins) (pc : Int) : ∀ (n : Nat) (a : Int), (∀ k, k < n → (nth c (chn c a k).toNat).op = 16) → finGo c pc n a = pc
  | 0, _, _ => rfl
  | n + 1, a, h => by
    unfold finGo
    have h0 : (nth c a.toNat).op = 16 := h 0 (by omega)
    rw [if_pos h0]
    refine finGo_all c pc n _ fun k hk => ?_
    rw [chn_shift]
    exact h (k + 1) (by omega)
theorem finGo_some (c : List Ins) (pc : Int) : ∀ (n : Nat) (a : Int) (k : Nat), k < n → (∀ j, j < k → (nth c (chn c a j).toNat).op = 16) → (nth c (chn c a k).toNat).op ≠ 16 → finGo c pc n a = chn c a k
  | 0, _, _, h, _, _ => by omega
  | n + 1, a, 0, _, _, h => by
    unfold finGo
    have h0 : ¬ (nth c a.toNat).op = 16 := h
    rw [if_neg h0]
    rfl
  | n + 1, a, k + 1, hk, h1, h2 => by
    unfold finGo
    have h0 : (nth c a.toNat).op = 16 := h1 0 (by omega)
    rw [if_pos h0]
    rw [← chn_shift] at h2 ⊢
    refine finGo_some c pc n _ k (by omega) (fun j hj => ?_) h2
    rw [chn_shift]
    exact h1 (j + 1) (by omega)
theorem finGo_cases (c : List Ins) (a : Int) (n : Nat) : (∀ k, k < n → (nth c (chn c a k).toNat).op = 16) ∨ ∃ k, k < n ∧ (∀ j, j < k → (nth c (chn c a j).toNat).op = 16) ∧ (nth c (chn c a k).toNat).op ≠ 16 := by
  induction n with
  | zero => exact .inl fun k hk => by omega
  | succ n ih =>
    rcases ih with h | ⟨k, h1, h2, h3⟩
    · by_cases h4 : (nth c (chn c a n).toNat).op = 16
      · refine .inl fun k hk => ?_
        rcases Nat.lt_or_ge k n with h5 | h5
        · exact h k h5
        · rw [show k = n by omega]; exact h4
      · exact .inr ⟨n, by omega, h, h4⟩
    · exact .inr ⟨k, by omega, h2, h3⟩
/-- Pigeons. -/
theorem pigeon : ∀ (n : Nat) (f : Nat → Nat), (∀ k, k ≤ n → f k < n) → ∃ i j, i < j ∧ j ≤ n ∧ f i = f j
  | 0, f, h => by have := h 0 (Nat.le_refl _); omega
  | n + 1, f, h => by
    by_cases he : ∃ i, i ≤ n ∧ f i = f (n + 1)
    · obtain ⟨i, h1, h2⟩ := he
      exact ⟨i, n + 1, by omega, Nat.le_refl _, h2⟩
    · have hne : ∀ i, i ≤ n → f i ≠ f (n + 1) := fun i hi e => he ⟨i, hi, e⟩
      obtain ⟨i, j, h1, h2, h3⟩ := pigeon n (fun k => if f (n + 1) < f k then f k - 1 else f k) (fun k hk => by
        have h4 := h k (by omega)
        have h5 := hne k hk
        have h6 := h (n + 1) (Nat.le_refl _)
        split <;> omega)
      refine ⟨i, j, h1, by omega, ?_⟩
      have h5 := hne i (by omega)
      have h6 := hne j h2
      split at h3 <;> split at h3 <;> omega
theorem chn_tg {c : List Ins} (h : Tgs c) (a : Int) (ha : Tg c a) : ∀ k, (∀ j, j < k → (nth c (chn c a j).toNat).op = 16) → Tg c (chn c a k)
  | 0, _ => ha
  | k + 1, h16 => by
    have h1 := chn_tg h a ha k fun j hj => h16 j (by omega)
    obtain ⟨h2, h3, _⟩ := h1
    exact h _ (by omega) (.inl (h16 k (by omega)))
/-- A chain of length + 1 jumps never ends. -/
theorem chn_ever {c : List Ins} (h : Tgs c) (a : Int) (ha : Tg c a) (h16 : ∀ k, k < c.length + 1 → (nth c (chn c a k).toNat).op = 16) : ∀ m, (nth c (chn c a m).toNat).op = 16 := by
  obtain ⟨i, j, h1, h2, h3⟩ := pigeon c.length (fun k => (chn c a k).toNat) fun k hk => by
    obtain ⟨h4, h5, _⟩ := chn_tg h a ha k fun j hj => h16 j (by omega)
    omega
  have e : chn c a i = chn c a j := by
    obtain ⟨h4, _, _⟩ := chn_tg h a ha i fun j hj => h16 j (by omega)
    obtain ⟨h5, _, _⟩ := chn_tg h a ha j fun j hj => h16 j (by omega)
    omega
  intro m
  induction m using Nat.strongRecOn with
  | ind m ih =>
    rcases Nat.lt_or_ge m (c.length + 1) with h4 | h4
    · exact h16 m h4
    · have h5 : chn c a m = chn c a (i + (m - j)) := by
        rw [show m = j + (m - j) by omega, chn_add, ← e, ← chn_add]
        congr 1
        omega
      rw [h5]
      exact ih _ (by omega)
theorem fin_idem {c : List Ins} (h : Tgs c) (a : Int) (ha : Tg c a) : finL (targL c) (finL c a) = finL c a := by
  have htop : ∀ b : Int, Tg c b → (nth (targL c) b.toNat).op = (nth c b.toNat).op := fun b hb => by
    obtain ⟨h1, h2, _⟩ := hb
    exact targL_op c _ (by omega)
  rcases finGo_cases c a (c.length + 1) with h16 | ⟨k, h1, h2, h3⟩
  · have he := chn_ever h a ha h16
    have ht : ∀ m, Tg c (chn c a m) := fun m => chn_tg h a ha m fun j _ => he j
    have h4 : ∀ m, finL c (chn c a m) = chn c a m := fun m => finGo_all c _ _ _ fun k _ => by rw [← chn_add]; exact he _
    have h5 : finL c a = a := h4 0
    rw [h5]
    have h6 : ∀ m, chn (targL c) a m = chn c a m := by
      intro m
      induction m with
      | zero => rfl
      | succ m ih =>
        show (nth (targL c) (chn (targL c) a m).toNat).c = (nth c (chn c a m).toNat).c
        obtain ⟨h7, h8, _⟩ := ht m
        rw [ih, targL_at c _ (by omega)]
        unfold toT
        rw [if_pos (.inl (he m))]
        exact h4 (m + 1)
    refine finGo_all _ _ _ _ fun k _ => ?_
    rw [h6, htop _ (ht k)]
    exact he k
  · have e : finL c a = chn c a k := finGo_some c a _ a k h1 h2 h3
    have ht := chn_tg h a ha k h2
    rw [e]
    unfold finL
    exact finGo_some (targL c) _ _ (chn c a k) 0 (by omega) (fun j hj => by omega) (by show (nth (targL c) (chn c a k).toNat).op ≠ 16; rw [htop _ ht]; exact h3)
theorem targL_idem {c : List Ins} (h : Tgs c) : targL (targL c) = targL c := by
  refine List.ext_getElem (by rw [targL_len]) fun k h1 h2 => ?_
  have hk : k < c.length := by rw [targL_len] at h2; exact h2
  rw [← nth_eq _ _ h1, ← nth_eq _ _ h2, targL_at _ k h2, targL_at c k hk]
  by_cases hj : jumps (nth c k).op
  · have e : toT c (nth c k) = { nth c k with c := finL c (nth c k).c } := by unfold toT; rw [if_pos hj]
    rw [e]
    unfold toT
    rw [if_pos hj]
    simp only [fin_idem h _ (h k hk hj)]
  · have e : toT c (nth c k) = nth c k := by unfold toT; rw [if_neg hj]
    rw [e]
    unfold toT
    rw [if_neg hj]
theorem targL_tgs {c : List Ins} (h : Tgs c) : Tgs (targL c) := by
  intro k hk hj
  rw [targL_len] at hk
  rw [targL_op c k hk] at hj
  rw [targL_at c k hk]
  unfold toT
  rw [if_pos hj]
  obtain ⟨h1, h2, h3⟩ := finL_tg h _ (h k hk hj)
  refine ⟨h1, by rw [targL_len]; exact h2, ?_⟩
  show (nth (targL c) (finL c (nth c k).c).toNat).op ≠ 51
  rw [targL_op c _ (by omega)]
  exact h3
theorem fok_tgs {p : Prg} {f : Fun} (h : Fok p f) : Tgs f.code := fun k hk hj => instr_jump (h.ins k hk) hj

end Go.Proofs.Ytealeofgfgbheaa
