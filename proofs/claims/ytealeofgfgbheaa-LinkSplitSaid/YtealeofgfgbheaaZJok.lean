/-
  What a valid function's code satisfies.
-/
import Derived.Test.YtealeofgfgbheaaZFunc
import Derived.Test.YtealeofgfgbheaaZValid
import Derived.Test.YtealeofgfgbheaaZRowB
namespace Go.Proofs.Ytealeofgfgbheaa
set_option linter.unusedVariables false
set_option linter.unusedSimpArgs false
open Go.RowKit

theorem scan_cases (p : Prg) (f : Fun) : ∀ (l : List Ins) (left : Int), scanB p f l left = true → ∀ k : Nat, k < l.length → (k : Int) < left → (nth l k).op = 51 := by
  intro l
  induction l with
  | nil => intro left _ k hk; simp at hk
  | cons x l ih =>
    intro left h k hk hl
    simp only [scanB, Bool.and_eq_true, beq_iff_eq] at h
    obtain ⟨h1, _, h3⟩ := h
    have h0 : (0 : Int) < left := by omega
    have hx : x.op = 51 := by
      rw [decide_eq_true h0] at h1
      exact beq_iff_eq.1 h1.symm
    cases k with
    | zero => exact hx
    | succ k =>
      rw [if_neg (by rw [hx]; decide), if_pos h0] at h3
      exact ih _ h3 k (by simpa using hk) (by omega)

theorem scan_sel (p : Prg) (f : Fun) : ∀ (l : List Ins) (left : Int), scanB p f l left = true → ∀ k : Nat, k < l.length → (nth l k).op = 50 → ∀ j : Nat, (j : Int) < (nth l k).b → k + 1 + j < l.length → (nth l (k + 1 + j)).op = 51 := by
  intro l
  induction l with
  | nil => intro left _ k hk; simp at hk
  | cons x l ih =>
    intro left h k hk ho j hj hlt
    simp only [scanB, Bool.and_eq_true] at h
    obtain ⟨_, _, h3⟩ := h
    cases k with
    | zero =>
      have ho' : x.op = 50 := ho
      rw [if_pos ho'] at h3
      have := scan_cases p f l _ h3 j (by simp at hlt; omega) hj
      have e : 0 + 1 + j = j + 1 := by omega
      rw [e]
      exact this
    | succ k =>
      have e : k + 1 + 1 + j = (k + 1 + j) + 1 := by omega
      rw [e] at hlt ⊢
      exact ih _ h3 k (by simpa using hk) ho j hj (by simpa using hlt)

theorem scan_instr (p : Prg) (f : Fun) : ∀ (l : List Ins) (left : Int), scanB p f l left = true → ∀ k : Nat, k < l.length → instrB p f (nth l k) = true := by
  intro l
  induction l with
  | nil => intro left _ k hk; simp at hk
  | cons x l ih =>
    intro left h k hk
    simp only [scanB, Bool.and_eq_true] at h
    obtain ⟨_, h2, h3⟩ := h
    cases k with
    | zero => exact h2
    | succ k => exact ih _ h3 k (by simpa using hk)

theorem scan_after (p : Prg) (f : Fun) : ∀ (l : List Ins) (left : Int), scanB p f l left = true → ∀ k : Nat, k < l.length → (k : Int) = left → (nth l k).op ≠ 51 := by
  intro l
  induction l with
  | nil => intro left _ k hk; simp at hk
  | cons x l ih =>
    intro left h k hk hl
    simp only [scanB, Bool.and_eq_true, beq_iff_eq] at h
    obtain ⟨h1, _, h3⟩ := h
    cases k with
    | zero =>
      rw [decide_eq_false (by omega)] at h1
      exact beq_eq_false_iff_ne.1 h1.symm
    | succ k =>
      have h0 : (0 : Int) < left := by omega
      have hx : x.op = 51 := by
        rw [decide_eq_true h0] at h1
        exact beq_iff_eq.1 h1.symm
      rw [if_neg (by rw [hx]; decide), if_pos h0] at h3
      exact ih _ h3 k (by simpa using hk) (by omega)

theorem scan_head (p : Prg) (f : Fun) (l : List Ins) (left : Int) (h : scanB p f l left = true) (h0 : 0 < l.length) (hl : left ≤ 0) : (nth l 0).op ≠ 51 := by
  cases l with
  | nil => simp at h0
  | cons x l =>
    simp only [scanB, Bool.and_eq_true, beq_iff_eq] at h
    have h1 := h.1
    rw [decide_eq_false (by omega)] at h1
    exact beq_eq_false_iff_ne.1 h1.symm

theorem scan_plain (p : Prg) (f : Fun) : ∀ (l : List Ins) (left : Int), scanB p f l left = true → ∀ k : Nat, k + 1 < l.length → (nth l k).op ≠ 50 → (nth l k).op ≠ 51 → (nth l (k + 1)).op ≠ 51 := by
  intro l
  induction l with
  | nil => intro left _ k hk; simp at hk
  | cons x l ih =>
    intro left h k hk h5 h6
    simp only [scanB, Bool.and_eq_true, beq_iff_eq] at h
    obtain ⟨h1, _, h3⟩ := h
    cases k with
    | zero =>
      have h5' : x.op ≠ 50 := h5
      have h6' : x.op ≠ 51 := h6
      have hl : ¬ 0 < left := by
        intro hl
        rw [decide_eq_true hl] at h1
        exact h6' (beq_iff_eq.1 h1.symm)
      rw [if_neg h5', if_neg hl] at h3
      exact scan_head p f l left h3 (by simpa using hk) (by omega)
    | succ k => exact ih _ h3 k (by simpa using hk) h5 h6

theorem scan_past (p : Prg) (f : Fun) : ∀ (l : List Ins) (left : Int), scanB p f l left = true → ∀ k : Nat, k < l.length → (nth l k).op = 50 → ∀ j : Nat, (j : Int) = (nth l k).b → k + 1 + j < l.length → (nth l (k + 1 + j)).op ≠ 51 := by
  intro l
  induction l with
  | nil => intro left _ k hk; simp at hk
  | cons x l ih =>
    intro left h k hk ho j hj hlt
    simp only [scanB, Bool.and_eq_true] at h
    obtain ⟨_, _, h3⟩ := h
    cases k with
    | zero =>
      have ho' : x.op = 50 := ho
      rw [if_pos ho'] at h3
      have := scan_after p f l _ h3 j (by simp at hlt; omega) hj
      rw [show 0 + 1 + j = j + 1 by omega]
      exact this
    | succ k =>
      rw [show k + 1 + 1 + j = (k + 1 + j) + 1 by omega] at hlt ⊢
      exact ih _ h3 k (by simpa using hk) ho j hj (by simpa using hlt)

theorem instr_jump {p : Prg} {f : Fun} {x : Ins} (h : instrB p f x = true) (h5 : jumps x.op) : 0 ≤ x.c ∧ x.c < f.code.length ∧ (nth f.code x.c.toNat).op ≠ 51 := by
  simp only [instrB, Bool.and_eq_true] at h
  have h1 := h.2.2.2.2.1
  have hr : roleN x.op 2 = 106 := by
    rcases h5 with h5 | h5 | h5 <;> (rw [h5]; rfl)
  rw [hr] at h1
  simp [operandB] at h1
  exact ⟨h1.1, h1.2.1, h1.2.2⟩

/-- What is known of a valid function. -/
structure Fok (p : Prg) (f : Fun) : Prop where
  pos : 0 < f.code.length
  le : f.code.length ≤ 1000
  last : lastOp f = 30 ∨ lastOp f = 16
  ins : ∀ k, k < f.code.length → instrB p f (nth f.code k) = true
  sel : ∀ k, k < f.code.length → (nth f.code k).op = 50 → ∀ j : Nat, (j : Int) < (nth f.code k).b → k + 1 + j < f.code.length → (nth f.code (k + 1 + j)).op = 51
  first : (nth f.code 0).op ≠ 51
  plain : ∀ k, k + 1 < f.code.length → (nth f.code k).op ≠ 50 → (nth f.code k).op ≠ 51 → (nth f.code (k + 1)).op ≠ 51
  past : ∀ k, k < f.code.length → (nth f.code k).op = 50 → ∀ j : Nat, (j : Int) = (nth f.code k).b → k + 1 + j < f.code.length → (nth f.code (k + 1 + j)).op ≠ 51

theorem fok_of_funcB {p : Prg} {f : Fun} (h : funcB p f = true) : Fok p f := by
  simp only [funcB, headB, Bool.and_eq_true, Bool.or_eq_true, decide_eq_true_eq, beq_iff_eq] at h
  obtain ⟨⟨_, _, _, _, h0, h1⟩, h2, h3⟩ := h
  exact ⟨by omega, h1, h2, scan_instr p f _ _ h3, scan_sel p f _ _ h3, scan_head p f _ _ h3 (by omega) (Int.le_refl _), scan_plain p f _ _ h3, scan_past p f _ _ h3⟩

theorem Fok.selEnd {p : Prg} {f : Fun} (h : Fok p f) (k : Nat) (hk : k < f.code.length) (ho : (nth f.code k).op = 50) : 0 ≤ (nth f.code k).b ∧ (nth f.code k).b ≤ 8 ∧ (k : Int) + 1 + (nth f.code k).b < f.code.length := by
  obtain ⟨hb, hb2⟩ := instr_sel (h.ins k hk) ho
  refine ⟨hb, hb2, ?_⟩
  have hlast := h.last
  unfold lastOp at hlast
  rcases Int.lt_or_le ((k : Int) + 1 + (nth f.code k).b) f.code.length with h1 | h1
  · exact h1
  · exfalso
    have hp := h.pos
    have hk2 : k ≠ f.code.length - 1 := by
      intro e
      rw [← e] at hlast
      omega
    have := h.sel k hk ho (f.code.length - 1 - (k + 1)) (by omega) (by omega)
    rw [show k + 1 + (f.code.length - 1 - (k + 1)) = f.code.length - 1 by omega] at this
    omega

theorem pairL_mem (a b x : Int) : x ∈ pairL a b ↔ x = a ∨ x = b := by
  unfold pairL
  split
  · simp
  · split
    · rename_i h; subst h; simp
    · simp; exact ⟨fun h => h.symm, fun h => h.symm⟩

theorem Fok.jok {p : Prg} {f : Fun} (h : Fok p f) : Jok f.code := by
  refine ⟨h.pos, h.le, fun k hk x hx => ?_, fun i hi hj => ?_⟩
  · rw [nextL_in _ _ hk] at hx
    have hlast := h.last
    unfold lastOp at hlast
    have hne : ¬ ((nth f.code k).op = 30 ∨ (nth f.code k).op = 16) → (k : Int) + 1 < f.code.length := by
      intro hn
      have : k ≠ f.code.length - 1 := by
        intro e
        rw [← e] at hlast
        exact hn hlast
      omega
    unfold nextIns at hx
    split at hx
    · simp at hx
    · rename_i h1
      split at hx
      · rename_i h2
        simp at hx
        have := instr_jump (h.ins k hk) (.inl h2)
        omega
      · rename_i h2
        split at hx
        · rename_i h3
          have := instr_jump (h.ins k hk) (.inr h3)
          have := hne (by omega)
          rcases (pairL_mem _ _ _).1 hx with e | e <;> omega
        · split at hx
          · rename_i h4
            simp at hx
            have := h.selEnd k hk h4
            have hle := h.le
            have e : wrapI ((k : Int) + 1 + (nth f.code k).b) = (k : Int) + 1 + (nth f.code k).b := by
              unfold wrapI wrap64; omega
            rw [e] at hx
            omega
          · simp at hx
            have := hne (by omega)
            omega
  · have := instr_jump (h.ins i hi) hj
    exact ⟨this.1, this.2.1⟩

theorem valid_func {p : Prg} (h : validB p = true) (i : Nat) (hi : i < p.funcs.length) : funcB p (nth p.funcs i) = true := by
  simp only [validB, Bool.and_eq_true] at h
  have := (List.all_eq_true.1 h.2.2) i (by simpa using hi)
  simp only [funOk, Bool.and_eq_true] at this
  exact this.1
theorem valid_pos {p : Prg} (h : validB p = true) : 0 < p.funcs.length ∧ p.funcs.length ≤ 64 := by
  simp only [validB, topB, Bool.and_eq_true, decide_eq_true_eq] at h
  omega

end Go.Proofs.Ytealeofgfgbheaa
