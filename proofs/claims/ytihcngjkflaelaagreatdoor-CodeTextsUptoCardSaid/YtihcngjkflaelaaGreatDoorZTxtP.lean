/-
  The disassembly of a program in plain words, and that it tells the program but for Main and the offsets.
-/
import Derived.Lib.ItoaNum
import Derived.Lib.Join
import Derived.Test.YtihcngjkflaelaaGreatDoorZTab
namespace Go.Proofs.YtihcngjkflaelaaGreatDoor
set_option linter.unusedVariables false
set_option linter.unusedSimpArgs false
open Go.RowKit

def gW : List UInt8 := [103, 108, 111, 98, 97, 108]
def lW : List UInt8 := [108, 97, 121, 111, 117, 116]
def fW : List UInt8 := [102, 117, 110, 99]
def bl (b : ByteArray) : List UInt8 := b.data.toList
/-- The operands that are printed. -/
def opdT (r : Int) (v : Int) : List (List UInt8) := if r = 45 then [] else [Lib.itoa v]
def opds (x : Ins) : List (List UInt8) := opdT (roleC x.op 0) x.a ++ (opdT (roleC x.op 1) x.b ++ opdT (roleC x.op 2) x.c)
def insT (i : Nat) (x : Ins) : List (List UInt8) := (9 :: Lib.itoa i) :: bl (wordC x.op) :: opds x
def codeT : Nat → List Ins → List (List (List UInt8))
  | _, [] => []
  | i, x :: c => insT i x :: codeT (i + 1) c
def headT (f : Fun) : List (List UInt8) := [fW, bl f.name, Lib.itoa f.params, Lib.itoa f.regs]
def funT (f : Fun) : List (List (List UInt8)) := headT f :: codeT 0 f.code
def globT (g : Glob) : List (List UInt8) := [gW, bl g.name, Lib.itoa g.kind]
def layT (r : List Int) : List (List UInt8) := lW :: r.map Lib.itoa
/-- The lines, each a list of words. -/
def linesP (p : Prg) : List (List (List UInt8)) := p.globals.map globT ++ (p.layouts.map layT ++ p.funcs.flatMap funT)
def lineB (l : List (List UInt8)) : List UInt8 := Lib.join l [32] ++ [10]
def textL (p : Prg) : List UInt8 := (linesP p).flatMap lineB

/-- Cut at the first s. -/
theorem cut_inj (s : UInt8) : ∀ (a b r t : List UInt8), s ∉ a → s ∉ b → a ++ s :: r = b ++ s :: t → a = b ∧ r = t
  | [], [], r, t, _, _, h => ⟨rfl, by simpa using h⟩
  | [], y :: b, r, t, _, hb, h => by
    simp only [List.nil_append, List.cons_append, List.cons.injEq] at h
    exact absurd (List.mem_cons.2 (.inl h.1)) hb
  | x :: a, [], r, t, ha, _, h => by
    simp only [List.nil_append, List.cons_append, List.cons.injEq] at h
    exact absurd (List.mem_cons.2 (.inl h.1.symm)) ha
  | x :: a, y :: b, r, t, ha, hb, h => by
    simp only [List.cons_append, List.cons.injEq] at h
    obtain ⟨h1, h2⟩ := cut_inj s a b r t (fun k => ha (List.mem_cons.2 (.inr k))) (fun k => hb (List.mem_cons.2 (.inr k))) h.2
    exact ⟨by rw [h.1, h1], h2⟩
theorem lines_inj : ∀ (L M : List (List UInt8)), (∀ l ∈ L, (10 : UInt8) ∉ l) → (∀ l ∈ M, (10 : UInt8) ∉ l) → L.flatMap (· ++ [10]) = M.flatMap (· ++ [10]) → L = M
  | [], [], _, _, _ => rfl
  | [], y :: M, _, _, h => by simp at h
  | x :: L, [], _, _, h => by simp at h
  | x :: L, y :: M, hL, hM, h => by
    simp only [List.flatMap_cons, List.append_assoc, List.singleton_append] at h
    obtain ⟨h1, h2⟩ := cut_inj 10 x y _ _ (hL x (by simp)) (hM y (by simp)) h
    rw [h1, lines_inj L M (fun l hl => hL l (by simp [hl])) (fun l hl => hM l (by simp [hl])) h2]
theorem joinTail_cons (sep y : List UInt8) (r : List (List UInt8)) : Lib.joinTail sep (y :: r) = sep ++ (y ++ Lib.joinTail sep r) := by simp [Lib.joinTail]
theorem tail_inj : ∀ (x y : List UInt8) (r t : List (List UInt8)), (32 : UInt8) ∉ x → (32 : UInt8) ∉ y → (∀ l ∈ r, (32 : UInt8) ∉ l) → (∀ l ∈ t, (32 : UInt8) ∉ l) → x ++ Lib.joinTail [32] r = y ++ Lib.joinTail [32] t → x = y ∧ r = t
  | x, y, [], [], _, _, _, _, h => ⟨by simpa [Lib.joinTail] using h, rfl⟩
  | x, y, [], b :: t, hx, hy, _, _, h => by
    rw [joinTail_cons] at h
    simp only [Lib.joinTail, List.map_nil, List.flatten_nil, List.append_nil] at h
    exact absurd (by rw [h]; simp) hx
  | x, y, a :: r, [], hx, hy, _, _, h => by
    rw [joinTail_cons] at h
    simp only [Lib.joinTail, List.map_nil, List.flatten_nil, List.append_nil] at h
    exact absurd (by rw [← h]; simp) hy
  | x, y, a :: r, b :: t, hx, hy, hr, ht, h => by
    rw [joinTail_cons, joinTail_cons] at h
    obtain ⟨h1, h2⟩ := cut_inj 32 x y _ _ hx hy h
    obtain ⟨h3, h4⟩ := tail_inj a b r t (hr a (by simp)) (ht b (by simp)) (fun l hl => hr l (by simp [hl])) (fun l hl => ht l (by simp [hl])) h2
    exact ⟨h1, by rw [h3, h4]⟩
theorem join_inj (l m : List (List UInt8)) (hl : l ≠ []) (hm : m ≠ []) (h1 : ∀ x ∈ l, (32 : UInt8) ∉ x) (h2 : ∀ x ∈ m, (32 : UInt8) ∉ x) (h : Lib.join l [32] = Lib.join m [32]) : l = m := by
  cases l with
  | nil => exact absurd rfl hl
  | cons x r =>
    cases m with
    | nil => exact absurd rfl hm
    | cons y t =>
      rw [Lib.join_cons, Lib.join_cons] at h
      obtain ⟨h3, h4⟩ := tail_inj x y r t (h1 x (by simp)) (h2 y (by simp)) (fun l hl => h1 l (by simp [hl])) (fun l hl => h2 l (by simp [hl])) h
      rw [h3, h4]
theorem join_free (s : UInt8) (hs : s ≠ 32) (l : List (List UInt8)) (h : ∀ x ∈ l, s ∉ x) : s ∉ Lib.join l [32] := by
  cases l with
  | nil => simp [Lib.join_nil]
  | cons x r =>
    rw [Lib.join_cons, List.mem_append]
    rintro (h1 | h1)
    · exact h x (by simp) h1
    · unfold Lib.joinTail at h1
      rw [List.mem_flatten] at h1
      obtain ⟨y, hy, h2⟩ := h1
      rw [List.mem_map] at hy
      obtain ⟨z, hz, rfl⟩ := hy
      rw [List.mem_append, List.mem_singleton] at h2
      rcases h2 with h2 | h2
      · exact hs h2
      · exact h z (by simp [hz]) h2
/-- Words: no blank, no line feed. -/
def Wrd (l : List UInt8) : Prop := (32 : UInt8) ∉ l ∧ (10 : UInt8) ∉ l
theorem text_lines (L M : List (List (List UInt8))) (hL : ∀ l ∈ L, l ≠ [] ∧ ∀ x ∈ l, Wrd x) (hM : ∀ l ∈ M, l ≠ [] ∧ ∀ x ∈ l, Wrd x) (h : L.flatMap lineB = M.flatMap lineB) : L = M := by
  have e : ∀ K : List (List (List UInt8)), K.flatMap lineB = (K.map fun l => Lib.join l [32]).flatMap (· ++ [10]) := fun K => by
    rw [List.flatMap_map]; rfl
  rw [e, e] at h
  have h2 := lines_inj _ _ (fun l hl => by
    obtain ⟨k, hk, rfl⟩ := List.mem_map.1 hl
    exact join_free 10 (by decide) k fun x hx => ((hL k hk).2 x hx).2) (fun l hl => by
    obtain ⟨k, hk, rfl⟩ := List.mem_map.1 hl
    exact join_free 10 (by decide) k fun x hx => ((hM k hk).2 x hx).2) h
  clear h e
  induction L generalizing M with
  | nil => cases M with
    | nil => rfl
    | cons y M => simp at h2
  | cons x L ih => cases M with
    | nil => simp at h2
    | cons y M =>
      simp only [List.map_cons, List.cons.injEq] at h2
      rw [join_inj x y (hL x (by simp)).1 (hM y (by simp)).1 (fun z hz => ((hL x (by simp)).2 z hz).1) (fun z hz => ((hM y (by simp)).2 z hz).1) h2.1,
        ih M (fun l hl => hL l (by simp [hl])) (fun l hl => hM l (by simp [hl])) h2.2]

/-- The numeral tells the number. -/
def dval (l : List UInt8) : Nat := l.foldl (fun a d => a * 10 + (d.toNat - 48)) 0
theorem dval_snoc (l : List UInt8) (d : UInt8) : dval (l ++ [d]) = dval l * 10 + (d.toNat - 48) := by simp [dval]
theorem dig_toNat (u : Nat) (h : u < 10) : (UInt8.ofNat (48 + u)).toNat = 48 + u := by
  rw [UInt8.toNat_ofNat']; omega
theorem dval_dec (u : Nat) : dval (Lib.decDigits u) = u := by
  induction u using Nat.strongRecOn with
  | _ u ih =>
    rw [Lib.decDigits]
    split
    · rename_i h
      simp only [dval, List.foldl_cons, List.foldl_nil]
      rw [dig_toNat u h]; omega
    · rw [dval_snoc, ih (u / 10) (by omega), dig_toNat _ (Nat.mod_lt _ (by decide))]; omega
theorem dec_digit (u : Nat) : ∀ d ∈ Lib.decDigits u, 48 ≤ d.toNat ∧ d.toNat ≤ 57 := by
  induction u using Nat.strongRecOn with
  | _ u ih =>
    rw [Lib.decDigits]
    intro d hd
    split at hd
    · rename_i h
      rw [List.mem_singleton.1 hd, dig_toNat u h]; omega
    · rw [List.mem_append, List.mem_singleton] at hd
      rcases hd with hd | hd
      · exact ih (u / 10) (by omega) d hd
      · rw [hd, dig_toNat _ (Nat.mod_lt _ (by decide))]; omega
theorem dec_ne (u : Nat) : Lib.decDigits u ≠ [] := by
  rw [Lib.decDigits]
  split
  · simp
  · simp
theorem itoa_inj {a b : Int} (h : Lib.itoa a = Lib.itoa b) : a = b := by
  unfold Lib.itoa at h
  have hd : ∀ u v, Lib.decDigits u ≠ 45 :: Lib.decDigits v := fun u v e => by
    have := dec_digit u 45 (by rw [e]; simp)
    have h2 : (45 : UInt8).toNat = 45 := rfl
    omega
  split at h <;> split at h
  · have h2 := congrArg dval (List.cons.inj h).2
    rw [dval_dec, dval_dec] at h2; omega
  · exact absurd h.symm (hd _ _)
  · exact absurd h (hd _ _)
  · have h2 := congrArg dval h
    rw [dval_dec, dval_dec] at h2; omega
theorem itoa_wrd (a : Int) : Wrd (Lib.itoa a) := by
  have h : ∀ u, ∀ s : UInt8, s.toNat < 48 → s ∉ Lib.decDigits u := fun u s hs hm => by have := dec_digit u s hm; omega
  unfold Lib.itoa Wrd
  split
  · refine ⟨fun hm => ?_, fun hm => ?_⟩ <;> rcases List.mem_cons.1 hm with h1 | h1
    · exact absurd h1 (by decide)
    · exact h _ _ (by decide) h1
    · exact absurd h1 (by decide)
    · exact h _ _ (by decide) h1
  · exact ⟨h _ _ (by decide), h _ _ (by decide)⟩

theorem word_inj {a b : Int} (ha : 0 < a ∧ a < 53) (hb : 0 < b ∧ b < 53) (h : bl (wordC a) = bl (wordC b)) : a = b := by
  have hw : ∀ x y : Fin 53, 0 < x.val → 0 < y.val → bl (tabL.getD x.val (⟨#[]⟩, ⟨#[]⟩)).1 = bl (tabL.getD y.val (⟨#[]⟩, ⟨#[]⟩)).1 → x = y := by decide +kernel
  obtain ⟨m, rfl⟩ := Int.eq_ofNat_of_zero_le (by omega : 0 ≤ a)
  obtain ⟨n, rfl⟩ := Int.eq_ofNat_of_zero_le (by omega : 0 ≤ b)
  unfold wordC at h
  rw [if_pos ha, if_pos hb] at h
  have := hw ⟨m, by omega⟩ ⟨n, by omega⟩ (by show 0 < m; omega) (by show 0 < n; omega) h
  rw [Fin.mk.injEq] at this
  rw [this]
theorem word_wrd (a : Int) : Wrd (bl (wordC a)) := by
  unfold wordC
  split
  · rename_i h
    obtain ⟨m, rfl⟩ := Int.eq_ofNat_of_zero_le (by omega : 0 ≤ a)
    have hw : ∀ x : Fin 53, (32 : UInt8) ∉ bl (tabL.getD x.val (⟨#[]⟩, ⟨#[]⟩)).1 ∧ (10 : UInt8) ∉ bl (tabL.getD x.val (⟨#[]⟩, ⟨#[]⟩)).1 := by decide +kernel
    exact hw ⟨m, by omega⟩
  · exact ⟨by simp [bl], by simp [bl]⟩

theorem opdT_inj {r v u : Int} {l m : List (List UInt8)} (h : opdT r v ++ l = opdT r u ++ m) : (r ≠ 45 → v = u) ∧ l = m := by
  unfold opdT at h
  split at h
  · rename_i hr
    exact ⟨fun e => absurd hr e, by simpa using h⟩
  · simp only [List.singleton_append, List.cons.injEq] at h
    exact ⟨fun _ => itoa_inj h.1, h.2⟩
/-- Equal lines of valid instructions: equal but for the offset. -/
theorem insT_inj {p q : Prg} {f g : Fun} {i j : Nat} {x y : Ins} (hx : instrC p f x = true) (hy : instrC q g y = true) (h : insT i x = insT j y) : x.op = y.op ∧ x.a = y.a ∧ x.b = y.b ∧ x.c = y.c := by
  have hr : ∀ z : Int, ¬ (0 < z ∧ z < 53) → rolesC z = ⟨#[]⟩ := fun z hz => by
    unfold rolesC
    repeat rw [if_neg (by omega)]
  have hopx : 0 < x.op ∧ x.op < 53 := by
    by_cases e : 0 < x.op ∧ x.op < 53
    · exact e
    · simp [instrC, hr x.op e] at hx
  have hopy : 0 < y.op ∧ y.op < 53 := by
    by_cases e : 0 < y.op ∧ y.op < 53
    · exact e
    · simp [instrC, hr y.op e] at hy
  unfold insT at h
  simp only [List.cons.injEq] at h
  have ho : x.op = y.op := word_inj hopx hopy h.2.1
  have h2 := h.2.2
  unfold opds at h2
  rw [← ho] at h2
  obtain ⟨e1, h3⟩ := opdT_inj h2
  obtain ⟨e2, h4⟩ := opdT_inj h3
  have h5 : opdT (roleC x.op 2) x.c ++ [] = opdT (roleC x.op 2) y.c ++ [] := by simpa using h4
  obtain ⟨e3, _⟩ := opdT_inj h5
  simp only [instrC, Bool.and_eq_true] at hx hy
  rw [← ho] at hy
  have z : ∀ {p : Prg} {f : Fun} {w : Ins} {r v : Int}, operandC p f w r v = true → r = 45 → v = 0 := fun {p f w r v} hh he => by
    subst he
    simpa [operandC] using hh
  refine ⟨ho, ?_, ?_, ?_⟩
  · by_cases e : roleC x.op 0 = 45
    · rw [z hx.2.2.1 e, z hy.2.2.1 e]
    · exact e1 e
  · by_cases e : roleC x.op 1 = 45
    · rw [z hx.2.2.2.1 e, z hy.2.2.2.1 e]
    · exact e2 e
  · by_cases e : roleC x.op 2 = 45
    · rw [z hx.2.2.2.2.1 e, z hy.2.2.2.2.1 e]
    · exact e3 e

end Go.Proofs.YtihcngjkflaelaaGreatDoor
