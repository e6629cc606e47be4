/-
  Validity as the program's package code checks it, and that it is the same as the reference's.
-/
import Derived.Test.YtealeofgfgbheaaZValid
namespace Go.Proofs.Ytealeofgfgbheaa
set_option linter.unusedVariables false
set_option linter.unusedSimpArgs false
open Go.RowKit

/-- The roles of the operands, in the letters of package code. -/
def rolesC (op : Int) : ByteArray :=
  if op = 1 then ⟨#[100, 105, 45]⟩ else
  if op = 2 then ⟨#[100, 45, 45]⟩ else
  if op = 3 ∨ op = 9 ∨ op = 10 ∨ op = 15 ∨ op = 22 ∨ op = 23 ∨ op = 33 ∨ op = 35 then ⟨#[100, 115, 45]⟩ else
  if op = 4 ∨ op = 5 ∨ op = 6 ∨ op = 7 ∨ op = 8 ∨ op = 11 ∨ op = 12 ∨ op = 13 ∨ op = 14 ∨ op = 20 ∨ op = 37 ∨ op = 38 then ⟨#[100, 115, 115]⟩ else
  if op = 16 then ⟨#[45, 45, 116]⟩ else
  if op = 17 ∨ op = 45 then ⟨#[115, 45, 116]⟩ else
  if op = 18 then ⟨#[100, 103, 45]⟩ else
  if op = 19 then ⟨#[100, 115, 110]⟩ else
  if op = 21 then ⟨#[100, 108, 45]⟩ else
  if op = 24 then ⟨#[100, 99, 107]⟩ else
  if op = 25 then ⟨#[100, 112, 45]⟩ else
  if op = 26 then ⟨#[68, 102, 97]⟩ else
  if op = 28 ∨ op = 31 then ⟨#[45, 102, 97]⟩ else
  if op = 30 then ⟨#[83, 45, 45]⟩ else
  if op = 34 ∨ op = 36 ∨ op = 43 ∨ op = 47 then ⟨#[115, 115, 45]⟩ else
  if op = 27 ∨ op = 29 ∨ op = 32 ∨ op = 39 ∨ op = 40 ∨ op = 41 ∨ op = 42 ∨ op = 44 ∨ op = 46 ∨ op = 49 ∨ op = 52 then ⟨#[115, 45, 45]⟩ else
  if op = 48 then ⟨#[68, 115, 68]⟩ else
  if op = 50 then ⟨#[100, 120, 98]⟩ else
  if op = 51 then ⟨#[115, 98, 118]⟩ else
  ⟨#[]⟩
def roleC (op : Int) (k : Nat) : Int := ((rolesC op).data.getD k 0).toNat

/-- Whether a number lies in a range. -/
def btw (v lo hi : Int) : Bool := decide (lo ≤ v) && decide (v ≤ hi)
/-- Whether an operand suits its role. -/
def operandC (p : Prg) (f : Fun) (x : Ins) (r : Int) (v : Int) : Bool :=
  if r = 100 ∨ r = 115 then btw v 0 (f.regs - 1) else
  if r = 68 ∨ r = 83 then btw v (-1) (f.regs - 1) else
  if r = 116 then btw v 0 ((f.code.length : Int) - 1) && !((nth f.code v.toNat).op == 51) else
  if r = 103 then btw v 0 ((p.globals.length : Int) - 1) else
  if r = 108 then btw v 0 ((p.layouts.length : Int) - 1) else
  if r = 102 then btw v 0 ((p.funcs.length : Int) - 1) && (btw x.c 0 f.regs && decide ((nth p.funcs v.toNat).params ≤ f.regs - x.c)) else
  if r = 99 then btw v 0 ((p.funcs.length : Int) - 1) && ((nth p.funcs v.toNat).params == 1) else
  if r = 97 then decide (0 ≤ v) else
  if r = 110 then btw v 0 64 else
  if r = 107 then btw v 0 63 && decide (wrap64 (x.a + v) < f.regs) else
  if r = 112 then btw v 0 62 && decide (0 < f.regs) else
  if r = 120 then btw v 0 8 else
  if r = 98 then (v == 0) || (v == 1) else
  if r = 118 then btw v (wrap64 (x.b - 1)) (f.regs - 1) else
  if r = 105 then true else v == 0

def instrC (p : Prg) (f : Fun) (x : Ins) : Bool :=
  !(rolesC x.op).data.isEmpty && (decide (0 ≤ x.pos) && (operandC p f x (roleC x.op 0) x.a && (operandC p f x (roleC x.op 1) x.b && (operandC p f x (roleC x.op 2) x.c && (!(x.op == 38) || decide (x.c < f.regs - 1))))))

section
variable {p : Prg} {f : Fun} {x : Ins} (hr : 0 ≤ f.regs ∧ f.regs ≤ 64)
theorem opd_d (v : Int) : operandC p f x 100 v = operandB p f x 100 v := by
  rw [Bool.eq_iff_iff]; simp [operandC, operandB, btw]; omega
theorem opd_s (v : Int) : operandC p f x 115 v = operandB p f x 114 v := by
  rw [Bool.eq_iff_iff]; simp [operandC, operandB, btw]; omega
theorem opd_D (v : Int) : operandC p f x 68 v = operandB p f x 68 v := by
  rw [Bool.eq_iff_iff]; simp [operandC, operandB, btw]; omega
theorem opd_S (v : Int) : operandC p f x 83 v = operandB p f x 82 v := by
  rw [Bool.eq_iff_iff]; simp [operandC, operandB, btw]; omega
theorem opd_t (v : Int) : operandC p f x 116 v = operandB p f x 106 v := by
  have e : decide (v ≤ (f.code.length : Int) - 1) = decide (v < (f.code.length : Int)) := by rw [Bool.eq_iff_iff]; simp; omega
  simp [operandC, operandB, btw, e, Bool.and_assoc]
theorem opd_g (v : Int) : operandC p f x 103 v = operandB p f x 103 v := by
  rw [Bool.eq_iff_iff]; simp [operandC, operandB, btw]; omega
theorem opd_l (v : Int) : operandC p f x 108 v = operandB p f x 108 v := by
  rw [Bool.eq_iff_iff]; simp [operandC, operandB, btw]; omega
theorem opd_c (v : Int) : operandC p f x 99 v = operandB p f x 49 v := by
  have e : decide (v ≤ (p.funcs.length : Int) - 1) = decide (v < (p.funcs.length : Int)) := by rw [Bool.eq_iff_iff]; simp; omega
  simp [operandC, operandB, btw, e, Bool.and_assoc]
theorem opd_a (v : Int) : operandC p f x 97 v = operandB p f x 97 v := by simp [operandC, operandB]
theorem opd_n (v : Int) : operandC p f x 110 v = operandB p f x 110 v := by simp [operandC, operandB, btw]
theorem opd_x (v : Int) : operandC p f x 120 v = operandB p f x 115 v := by simp [operandC, operandB, btw]
theorem opd_b (v : Int) : operandC p f x 98 v = operandB p f x 98 v := by simp [operandC, operandB]
theorem opd_i (v : Int) : operandC p f x 105 v = operandB p f x 105 v := by simp [operandC, operandB]
theorem opd_m (v : Int) : operandC p f x 45 v = operandB p f x 45 v := by simp [operandC, operandB]
include hr in
theorem opd_f (v : Int) (hp : ∀ i, i < p.funcs.length → 0 ≤ (nth p.funcs i).params ∧ (nth p.funcs i).params ≤ 64) : operandC p f x 102 v = operandB p f x 102 v := by
  rw [Bool.eq_iff_iff]
  simp only [operandC, operandB, btw]
  simp
  constructor
  · rintro ⟨⟨h1, h2⟩, ⟨h3, h4⟩, h5⟩
    have := hp v.toNat (by omega)
    refine ⟨h1, by omega, h3, ?_⟩
    unfold wrap64; omega
  · rintro ⟨h1, h2, h3, h4⟩
    have := hp v.toNat (by omega)
    unfold wrap64 at h4
    exact ⟨⟨h1, by omega⟩, ⟨h3, by omega⟩, by omega⟩
theorem opd_v (v : Int) (hb : operandB p f x 98 x.b = true) : operandC p f x 118 v = operandB p f x 99 v := by
  have h : x.b = 0 ∨ x.b = 1 := by simpa [operandB] using hb
  rw [Bool.eq_iff_iff]
  rcases h with h | h <;> simp [operandC, operandB, btw, h] <;> (try unfold wrap64) <;> omega
end

theorem and_congr3 {a b c a' b' c' t t' : Bool} (h0 : a = a') (h1 : a' = true → b = b') (h2 : a' = true → b' = true → c = c') (h3 : a' = true → b' = true → c' = true → t = t') : (a && (b && (c && t))) = (a' && (b' && (c' && t'))) := by
  subst h0
  cases a with
  | false => rfl
  | true =>
    obtain rfl := h1 rfl
    cases b with
    | false => rfl
    | true =>
      obtain rfl := h2 rfl rfl
      cases c with
      | false => rfl
      | true => rw [h3 rfl rfl rfl]

theorem instrC_eq {p : Prg} {f : Fun} (x : Ins) (hr : 0 ≤ f.regs ∧ f.regs ≤ 64) (hp : ∀ i, i < p.funcs.length → 0 ≤ (nth p.funcs i).params ∧ (nth p.funcs i).params ≤ 64) : instrC p f x = instrB p f x := by
  have fin : ∀ (r0 r1 r2 s0 s1 s2 : Int), roleC x.op 0 = r0 → roleC x.op 1 = r1 → roleC x.op 2 = r2 → roleN x.op 0 = s0 → roleN x.op 1 = s1 → roleN x.op 2 = s2 → (rolesC x.op).data.isEmpty = false → (roles x.op).data.isEmpty = false →
      operandC p f x r0 x.a = operandB p f x s0 x.a → (operandB p f x s0 x.a = true → operandC p f x r1 x.b = operandB p f x s1 x.b) → (operandB p f x s0 x.a = true → operandB p f x s1 x.b = true → operandC p f x r2 x.c = operandB p f x s2 x.c) →
      (operandB p f x s0 x.a = true → operandB p f x s1 x.b = true → operandB p f x s2 x.c = true → (!(x.op == 38) || decide (x.c < f.regs - 1)) = instrTail f x) → instrC p f x = instrB p f x := by
    intro r0 r1 r2 s0 s1 s2 h0 h1 h2 h3 h4 h5 h6 h7 g0 g1 g2 g3
    unfold instrC instrB
    rw [h0, h1, h2, h3, h4, h5, h6, h7, and_congr3 g0 g1 g2 g3]
  have fin3 : ∀ (r0 r1 r2 s0 s1 s2 : Int), roleC x.op 0 = r0 → roleC x.op 1 = r1 → roleC x.op 2 = r2 → roleN x.op 0 = s0 → roleN x.op 1 = s1 → roleN x.op 2 = s2 → (rolesC x.op).data.isEmpty = false → (roles x.op).data.isEmpty = false →
      operandC p f x r0 x.a = operandB p f x s0 x.a → ((operandC p f x r1 x.b && (operandC p f x r2 x.c && (!(x.op == 38) || decide (x.c < f.regs - 1)))) = (operandB p f x s1 x.b && (operandB p f x s2 x.c && instrTail f x))) → instrC p f x = instrB p f x := by
    intro r0 r1 r2 s0 s1 s2 h0 h1 h2 h3 h4 h5 h6 h7 g0 g1
    unfold instrC instrB
    rw [h0, h1, h2, h3, h4, h5, h6, h7, g0, g1]
  have plain : x.op ≠ 24 → x.op ≠ 25 → x.op ≠ 38 → (!(x.op == 38) || decide (x.c < f.regs - 1)) = instrTail f x := by
    intro h1 h2 h3
    have h4 : (x.op == 38) = false := beq_eq_false_iff_ne.2 h3
    simp only [instrTail, if_neg h1, if_neg h2, h4, Bool.not_false, Bool.true_or]
  by_cases h : x.op = 1
  · (
    exact fin 100 105 45 100 105 45 (by rw [h]; rfl) (by rw [h]; rfl) (by rw [h]; rfl) (by rw [h]; rfl) (by rw [h]; rfl) (by rw [h]; rfl) (by rw [h]; rfl) (by rw [h]; rfl) (opd_d _) (fun _ => opd_i _) (fun _ hb => opd_m _) (fun _ _ _ => plain (by rw [h]; decide) (by rw [h]; decide) (by rw [h]; decide)))
  by_cases h : x.op = 2
  · (
    exact fin 100 45 45 100 45 45 (by rw [h]; rfl) (by rw [h]; rfl) (by rw [h]; rfl) (by rw [h]; rfl) (by rw [h]; rfl) (by rw [h]; rfl) (by rw [h]; rfl) (by rw [h]; rfl) (opd_d _) (fun _ => opd_m _) (fun _ hb => opd_m _) (fun _ _ _ => plain (by rw [h]; decide) (by rw [h]; decide) (by rw [h]; decide)))
  by_cases h : x.op = 3 ∨ x.op = 9 ∨ x.op = 10 ∨ x.op = 15 ∨ x.op = 22 ∨ x.op = 23 ∨ x.op = 33 ∨ x.op = 35
  · rcases h with h | h | h | h | h | h | h | h <;> (
    exact fin 100 115 45 100 114 45 (by rw [h]; rfl) (by rw [h]; rfl) (by rw [h]; rfl) (by rw [h]; rfl) (by rw [h]; rfl) (by rw [h]; rfl) (by rw [h]; rfl) (by rw [h]; rfl) (opd_d _) (fun _ => opd_s _) (fun _ hb => opd_m _) (fun _ _ _ => plain (by rw [h]; decide) (by rw [h]; decide) (by rw [h]; decide)))
  by_cases h : x.op = 4 ∨ x.op = 5 ∨ x.op = 6 ∨ x.op = 7 ∨ x.op = 8 ∨ x.op = 11 ∨ x.op = 12 ∨ x.op = 13 ∨ x.op = 14 ∨ x.op = 20 ∨ x.op = 37 ∨ x.op = 38
  · rcases h with h | h | h | h | h | h | h | h | h | h | h | h <;> (
    refine fin 100 115 115 100 114 114 (by rw [h]; rfl) (by rw [h]; rfl) (by rw [h]; rfl) (by rw [h]; rfl) (by rw [h]; rfl) (by rw [h]; rfl) (by rw [h]; rfl) (by rw [h]; rfl) (opd_d _) (fun _ => opd_s _) (fun _ _ => opd_s _) (fun h0 h1 h2 => ?_)
    first | exact plain (by rw [h]; decide) (by rw [h]; decide) (by rw [h]; decide) | (simp [instrTail, h]; simp [operandB] at h2; unfold wrap64; omega))
  by_cases h : x.op = 16
  · (
    exact fin 45 45 116 45 45 106 (by rw [h]; rfl) (by rw [h]; rfl) (by rw [h]; rfl) (by rw [h]; rfl) (by rw [h]; rfl) (by rw [h]; rfl) (by rw [h]; rfl) (by rw [h]; rfl) (opd_m _) (fun _ => opd_m _) (fun _ hb => opd_t _) (fun _ _ _ => plain (by rw [h]; decide) (by rw [h]; decide) (by rw [h]; decide)))
  by_cases h : x.op = 17 ∨ x.op = 45
  · rcases h with h | h <;> (
    exact fin 115 45 116 114 45 106 (by rw [h]; rfl) (by rw [h]; rfl) (by rw [h]; rfl) (by rw [h]; rfl) (by rw [h]; rfl) (by rw [h]; rfl) (by rw [h]; rfl) (by rw [h]; rfl) (opd_s _) (fun _ => opd_m _) (fun _ hb => opd_t _) (fun _ _ _ => plain (by rw [h]; decide) (by rw [h]; decide) (by rw [h]; decide)))
  by_cases h : x.op = 18
  · (
    exact fin 100 103 45 100 103 45 (by rw [h]; rfl) (by rw [h]; rfl) (by rw [h]; rfl) (by rw [h]; rfl) (by rw [h]; rfl) (by rw [h]; rfl) (by rw [h]; rfl) (by rw [h]; rfl) (opd_d _) (fun _ => opd_g _) (fun _ hb => opd_m _) (fun _ _ _ => plain (by rw [h]; decide) (by rw [h]; decide) (by rw [h]; decide)))
  by_cases h : x.op = 19
  · (
    exact fin 100 115 110 100 114 110 (by rw [h]; rfl) (by rw [h]; rfl) (by rw [h]; rfl) (by rw [h]; rfl) (by rw [h]; rfl) (by rw [h]; rfl) (by rw [h]; rfl) (by rw [h]; rfl) (opd_d _) (fun _ => opd_s _) (fun _ hb => opd_n _) (fun _ _ _ => plain (by rw [h]; decide) (by rw [h]; decide) (by rw [h]; decide)))
  by_cases h : x.op = 21
  · (
    exact fin 100 108 45 100 108 45 (by rw [h]; rfl) (by rw [h]; rfl) (by rw [h]; rfl) (by rw [h]; rfl) (by rw [h]; rfl) (by rw [h]; rfl) (by rw [h]; rfl) (by rw [h]; rfl) (opd_d _) (fun _ => opd_l _) (fun _ hb => opd_m _) (fun _ _ _ => plain (by rw [h]; decide) (by rw [h]; decide) (by rw [h]; decide)))
  by_cases h : x.op = 24
  · (
    refine fin3 100 99 107 100 49 110 (by rw [h]; rfl) (by rw [h]; rfl) (by rw [h]; rfl) (by rw [h]; rfl) (by rw [h]; rfl) (by rw [h]; rfl) (by rw [h]; rfl) (by rw [h]; rfl) (opd_d _) ?_
    rw [opd_c, Bool.eq_iff_iff]
    simp [operandC, operandB, btw, instrTail, h]
    omega)
  by_cases h : x.op = 25
  · (
    refine fin3 100 112 45 100 110 45 (by rw [h]; rfl) (by rw [h]; rfl) (by rw [h]; rfl) (by rw [h]; rfl) (by rw [h]; rfl) (by rw [h]; rfl) (by rw [h]; rfl) (by rw [h]; rfl) (opd_d _) ?_
    rw [opd_m, Bool.eq_iff_iff]
    simp [operandC, operandB, btw, instrTail, h]
    omega)
  by_cases h : x.op = 26
  · (
    exact fin 68 102 97 68 102 97 (by rw [h]; rfl) (by rw [h]; rfl) (by rw [h]; rfl) (by rw [h]; rfl) (by rw [h]; rfl) (by rw [h]; rfl) (by rw [h]; rfl) (by rw [h]; rfl) (opd_D _) (fun _ => opd_f hr _ hp) (fun _ hb => opd_a _) (fun _ _ _ => plain (by rw [h]; decide) (by rw [h]; decide) (by rw [h]; decide)))
  by_cases h : x.op = 28 ∨ x.op = 31
  · rcases h with h | h <;> (
    exact fin 45 102 97 45 102 97 (by rw [h]; rfl) (by rw [h]; rfl) (by rw [h]; rfl) (by rw [h]; rfl) (by rw [h]; rfl) (by rw [h]; rfl) (by rw [h]; rfl) (by rw [h]; rfl) (opd_m _) (fun _ => opd_f hr _ hp) (fun _ hb => opd_a _) (fun _ _ _ => plain (by rw [h]; decide) (by rw [h]; decide) (by rw [h]; decide)))
  by_cases h : x.op = 30
  · (
    exact fin 83 45 45 82 45 45 (by rw [h]; rfl) (by rw [h]; rfl) (by rw [h]; rfl) (by rw [h]; rfl) (by rw [h]; rfl) (by rw [h]; rfl) (by rw [h]; rfl) (by rw [h]; rfl) (opd_S _) (fun _ => opd_m _) (fun _ hb => opd_m _) (fun _ _ _ => plain (by rw [h]; decide) (by rw [h]; decide) (by rw [h]; decide)))
  by_cases h : x.op = 34 ∨ x.op = 36 ∨ x.op = 43 ∨ x.op = 47
  · rcases h with h | h | h | h <;> (
    exact fin 115 115 45 114 114 45 (by rw [h]; rfl) (by rw [h]; rfl) (by rw [h]; rfl) (by rw [h]; rfl) (by rw [h]; rfl) (by rw [h]; rfl) (by rw [h]; rfl) (by rw [h]; rfl) (opd_s _) (fun _ => opd_s _) (fun _ hb => opd_m _) (fun _ _ _ => plain (by rw [h]; decide) (by rw [h]; decide) (by rw [h]; decide)))
  by_cases h : x.op = 27 ∨ x.op = 29 ∨ x.op = 32 ∨ x.op = 39 ∨ x.op = 40 ∨ x.op = 41 ∨ x.op = 42 ∨ x.op = 44 ∨ x.op = 46 ∨ x.op = 49 ∨ x.op = 52
  · rcases h with h | h | h | h | h | h | h | h | h | h | h <;> (
    exact fin 115 45 45 114 45 45 (by rw [h]; rfl) (by rw [h]; rfl) (by rw [h]; rfl) (by rw [h]; rfl) (by rw [h]; rfl) (by rw [h]; rfl) (by rw [h]; rfl) (by rw [h]; rfl) (opd_s _) (fun _ => opd_m _) (fun _ hb => opd_m _) (fun _ _ _ => plain (by rw [h]; decide) (by rw [h]; decide) (by rw [h]; decide)))
  by_cases h : x.op = 48
  · (
    exact fin 68 115 68 68 114 68 (by rw [h]; rfl) (by rw [h]; rfl) (by rw [h]; rfl) (by rw [h]; rfl) (by rw [h]; rfl) (by rw [h]; rfl) (by rw [h]; rfl) (by rw [h]; rfl) (opd_D _) (fun _ => opd_s _) (fun _ hb => opd_D _) (fun _ _ _ => plain (by rw [h]; decide) (by rw [h]; decide) (by rw [h]; decide)))
  by_cases h : x.op = 50
  · (
    exact fin 100 120 98 100 115 98 (by rw [h]; rfl) (by rw [h]; rfl) (by rw [h]; rfl) (by rw [h]; rfl) (by rw [h]; rfl) (by rw [h]; rfl) (by rw [h]; rfl) (by rw [h]; rfl) (opd_d _) (fun _ => opd_x _) (fun _ hb => opd_b _) (fun _ _ _ => plain (by rw [h]; decide) (by rw [h]; decide) (by rw [h]; decide)))
  by_cases h : x.op = 51
  · (
    exact fin 115 98 118 114 98 99 (by rw [h]; rfl) (by rw [h]; rfl) (by rw [h]; rfl) (by rw [h]; rfl) (by rw [h]; rfl) (by rw [h]; rfl) (by rw [h]; rfl) (by rw [h]; rfl) (opd_s _) (fun _ => opd_b _) (fun _ hb => opd_v _ hb) (fun _ _ _ => plain (by rw [h]; decide) (by rw [h]; decide) (by rw [h]; decide)))
  have e1 : rolesC x.op = ⟨#[]⟩ := by
    unfold rolesC
    repeat rw [if_neg (by assumption)]
  have e2 : roles x.op = ⟨#[]⟩ := by
    unfold roles
    repeat rw [if_neg (by assumption)]
  simp [instrC, instrB, e1, e2]

/-- The instructions, one behind the other: ex cases are expected. -/
def scanC (p : Prg) (f : Fun) : List Ins → Int → Bool
  | [], _ => true
  | x :: l, ex => instrC p f x && (if x.op = 51 then decide (0 < ex) && scanC p f l (ex - 1) else if 0 < ex then false else scanC p f l (if x.op = 50 then x.b else ex))
def headC (f : Fun) : Bool := btw f.params 0 f.regs && (decide (f.regs ≤ 64) && (decide (f.code.length ≠ 0) && decide (f.code.length ≤ 1000)))
def funcC (p : Prg) (f : Fun) : Bool := headC f && ((lastOp f == 30 || lastOp f == 16) && scanC p f f.code 0)
/-- Whether names are distinct and not empty. -/
def uniqueB (l : List ByteArray) : Bool := (List.range l.length).all fun i => !(nth l i).toList.isEmpty && (List.range i).all fun k => !sameName (nth l k) (nth l i)
def mainC (p : Prg) : Bool := btw p.main 0 ((p.funcs.length : Int) - 1) && ((nth p.funcs p.main.toNat).params == 0)
def validC (p : Prg) : Bool :=
  decide (p.funcs.length ≤ 64) && (decide (p.globals.length ≤ 64) && (decide (p.layouts.length ≤ 32) && (mainC p && (p.layouts.all rowB && (p.globals.all (fun g => kindB g.kind) && (p.funcs.all (funcC p) && (uniqueB (p.funcs.map (·.name)) && uniqueB (p.globals.map (·.name)))))))))

theorem scanC_eq {p : Prg} {f : Fun} (hr : 0 ≤ f.regs ∧ f.regs ≤ 64) (hp : ∀ i, i < p.funcs.length → 0 ≤ (nth p.funcs i).params ∧ (nth p.funcs i).params ≤ 64) : ∀ (l : List Ins) (ex : Int), 0 ≤ ex → scanC p f l ex = scanB p f l ex := by
  intro l
  induction l with
  | nil => intro _ _; rfl
  | cons x l ih =>
    intro ex he
    simp only [scanC, scanB]
    rw [instrC_eq x hr hp]
    cases hi : instrB p f x with
    | false => simp
    | true =>
      by_cases h51 : x.op = 51
      · have h5 : ¬ x.op = 50 := by omega
        by_cases h0 : 0 < ex
        · simp [h51, h0, ih (ex - 1) (by omega)]
        · simp [h51, h0]
      · have h5' : (x.op == 51) = false := beq_eq_false_iff_ne.2 h51
        by_cases h0 : 0 < ex
        · simp [h51, h0]
        · have hn : 0 ≤ (if x.op = 50 then x.b else ex) := by
            split
            · rename_i h50; exact (instr_sel hi h50).1
            · exact he
          simp [h51, h0, ih _ hn]

theorem headC_iff (f : Fun) : headC f = true ↔ 0 ≤ f.params ∧ f.params ≤ f.regs ∧ f.regs ≤ 64 ∧ f.code.length ≠ 0 ∧ f.code.length ≤ 1000 := by
  simp [headC, btw, and_assoc]
theorem headB_iff (f : Fun) : headB f = true ↔ f.name.toList.isEmpty = false ∧ headC f = true := by
  rw [headC_iff]
  simp only [headB, Bool.and_eq_true, decide_eq_true_eq, Bool.not_eq_true']

theorem all_range {α : Type} [Inhabited α] (l : List α) (g : α → Bool) : l.all g = (List.range l.length).all fun i => g (nth l i) := by
  rw [Bool.eq_iff_iff]
  constructor
  · intro h
    exact List.all_eq_true.2 fun i hi => (List.all_eq_true.1 h) _ (nth_mem _ _ (List.mem_range.1 hi))
  · intro h
    exact all_true _ _ fun j hj => (List.all_eq_true.1 h) j (List.mem_range.2 hj)
theorem range_and (n : Nat) (g h : Nat → Bool) : ((List.range n).all fun i => g i && h i) = ((List.range n).all g && (List.range n).all h) := by
  rw [Bool.eq_iff_iff]
  simp only [Bool.and_eq_true, List.all_eq_true]
  exact ⟨fun hh => ⟨fun i hi => (hh i hi).1, fun i hi => (hh i hi).2⟩, fun hh i hi => ⟨hh.1 i hi, hh.2 i hi⟩⟩
theorem range_ext (n : Nat) (g h : Nat → Bool) (e : ∀ i, i < n → g i = h i) : (List.range n).all g = (List.range n).all h := by
  rw [Bool.eq_iff_iff]
  simp only [List.all_eq_true, List.mem_range]
  exact ⟨fun hh i hi => by rw [← e i hi]; exact hh i hi, fun hh i hi => by rw [e i hi]; exact hh i hi⟩

/-- Both forms of validity are the same. -/
theorem validC_eq (p : Prg) : validC p = validB p := by
  have un : ∀ {α : Type} [Inhabited α] (l : List α) (nm : α → ByteArray), uniqueB (l.map nm) = (List.range l.length).all fun i => !(nm (nth l i)).toList.isEmpty && (List.range i).all fun k => !sameName (nm (nth l k)) (nm (nth l i)) := by
    intro α _ l nm
    unfold uniqueB
    rw [List.length_map]
    refine range_ext _ _ _ fun i hi => ?_
    rw [nth_map nm l i hi]
    congr 1
    refine range_ext _ _ _ fun k hk => ?_
    rw [nth_map nm l k (by omega)]
  have hmain : mainC p = (decide (0 ≤ p.main) && (decide (p.main < (p.funcs.length : Int)) && ((nth p.funcs p.main.toNat).params == 0))) := by
    unfold mainC btw
    have : decide (p.main ≤ (p.funcs.length : Int) - 1) = decide (p.main < (p.funcs.length : Int)) := by rw [Bool.eq_iff_iff]; simp; omega
    rw [this, Bool.and_assoc]
  have hlay : (decide (p.layouts.length ≤ 32) && p.layouts.all rowB) = laysB p.layouts := by unfold laysB; rw [Bool.and_comm]
  have hglob : (p.globals.all (fun g => kindB g.kind) && uniqueB (p.globals.map (·.name))) = globsB p.globals := by
    rw [un, all_range p.globals, ← range_and]
    unfold globsB
    refine range_ext _ _ _ fun i _ => ?_
    unfold globOk
    cases kindB (nth p.globals i).kind <;> simp
  have hfun : (p.funcs.all (funcC p) && uniqueB (p.funcs.map (·.name))) = funsB p := by
    rw [un, all_range p.funcs, ← range_and]
    unfold funsB
    rw [Bool.eq_iff_iff]
    simp only [List.all_eq_true, List.mem_range, Bool.and_eq_true, funOk]
    have key : (∀ i, i < p.funcs.length → headC (nth p.funcs i) = true) → ∀ i, i < p.funcs.length → scanC p (nth p.funcs i) (nth p.funcs i).code 0 = scanB p (nth p.funcs i) (nth p.funcs i).code 0 := by
      intro hh i hi
      have h1 := (headC_iff _).1 (hh i hi)
      refine scanC_eq ⟨by omega, h1.2.2.1⟩ (fun j hj => ?_) _ _ (Int.le_refl _)
      have h2 := (headC_iff _).1 (hh j hj)
      omega
    constructor
    · intro h i hi
      have hh : ∀ i, i < p.funcs.length → headC (nth p.funcs i) = true := fun i hi => by
        have := (h i hi).1
        unfold funcC at this
        rw [Bool.and_eq_true] at this
        exact this.1
      obtain ⟨h1, h2, h3⟩ := h i hi
      refine ⟨?_, h3⟩
      unfold funcC at h1
      unfold funcB
      rw [← key hh i hi]
      simp only [Bool.and_eq_true] at h1 ⊢
      exact ⟨(headB_iff _).2 ⟨by simpa using h2, h1.1⟩, h1.2⟩
    · intro h i hi
      have hh : ∀ i, i < p.funcs.length → headC (nth p.funcs i) = true := fun i hi => by
        have := (h i hi).1
        unfold funcB at this
        rw [Bool.and_eq_true] at this
        exact ((headB_iff _).1 this.1).2
      obtain ⟨h1, h3⟩ := h i hi
      unfold funcB at h1
      unfold funcC
      rw [key hh i hi]
      simp only [Bool.and_eq_true] at h1 ⊢
      obtain ⟨h4, h5⟩ := (headB_iff _).1 h1.1
      exact ⟨⟨h5, h1.2⟩, by simpa using h4, h3⟩
  have shuffle : ∀ a b c m l g f u v : Bool, (a && (b && (c && (m && (l && (g && (f && (u && v)))))))) = ((a && (b && ((c && l) && m))) && ((g && v) && (f && u))) := by
    intro a b c m l g f u v
    cases a <;> cases b <;> cases c <;> cases m <;> cases l <;> cases g <;> cases f <;> cases u <;> cases v <;> rfl
  unfold validC validB topB
  rw [shuffle, hlay, hglob, hfun, hmain]

end Go.Proofs.Ytealeofgfgbheaa
