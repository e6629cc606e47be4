/-
  How long a disassembly can be.
-/
import Derived.Lib.ItoaLen
import Derived.Test.YtihcngjkflaelaaGreatDoorZTxtP
import Derived.Test.YtihcngjkflaelaaGreatDoorZOwnP
namespace Go.Proofs.YtihcngjkflaelaaGreatDoor
set_option linter.unusedVariables false
set_option linter.unusedSimpArgs false
open Go.RowKit

def costF (f : Fun) : Nat := f.name.size + 60 + 160 * f.code.length
def costG (g : Glob) : Nat := g.name.size + 40
def costY (y : List Int) : Nat := 20 + 22 * y.length
/-- What the disassembly is at most. -/
def costP (p : Prg) : Nat := (p.funcs.map costF).sum + (p.globals.map costG).sum + (p.layouts.map costY).sum

theorem tail_len : ∀ l : List (List UInt8), (Lib.joinTail [32] l).length = (l.map fun x => x.length + 1).sum
  | [] => rfl
  | x :: l => by
    rw [joinTail_cons, List.length_append, List.length_append, tail_len l, List.map_cons, List.sum_cons]
    simp only [List.length_cons, List.length_nil]
    omega
theorem lineB_len (x : List UInt8) (l : List (List UInt8)) : (lineB (x :: l)).length = x.length + 1 + (l.map fun x => x.length + 1).sum := by
  unfold lineB
  rw [Lib.join_cons, List.length_append, List.length_append, tail_len]
  simp only [List.length_cons, List.length_nil]
  omega
theorem itoa_le (n : Int) (h : I64 n) : (Lib.itoa n).length ≤ 21 := Lib.itoa_length_le n h.1 h.2
theorem word_le (op : Int) : (bl (wordC op)).length ≤ 60 := by
  have h : ∀ y ∈ tabL, (bl y.1).length ≤ 60 := by decide +kernel
  unfold wordC
  split
  · by_cases hk : op.toNat < tabL.length
    · rw [List.getD_eq_getElem?_getD, List.getElem?_eq_getElem hk]
      exact h _ (List.getElem_mem _)
    · rw [List.getD_eq_getElem?_getD, List.getElem?_eq_none (by omega)]
      decide
  · decide
theorem opdT_lc (r v : Int) (h : I64 v) : ((opdT r v).map fun x => x.length + 1).sum ≤ 22 := by
  have := itoa_le v h
  unfold opdT
  split
  · simp
  · simp only [List.map_cons, List.map_nil, List.sum_cons, List.sum_nil]; omega
theorem insT_le (i : Nat) (x : Ins) (hi : i ≤ 9223372036854775807) (h : InsWf x) : (lineB (insT i x)).length ≤ 160 := by
  unfold insT
  rw [lineB_len]
  have h1 := itoa_le (i : Nat) ⟨by omega, by omega⟩
  have h2 := word_le x.op
  have h3 := opdT_lc (roleC x.op 0) x.a h.a
  have h4 := opdT_lc (roleC x.op 1) x.b h.b
  have h5 := opdT_lc (roleC x.op 2) x.c h.c
  unfold opds
  simp only [List.map_cons, List.map_append, List.sum_cons, List.sum_append, List.length_cons]
  omega
theorem codeT_le : ∀ (l : List Ins) (i : Nat), i + l.length ≤ 9223372036854775807 → (∀ x ∈ l, InsWf x) → ((codeT i l).flatMap lineB).length ≤ 160 * l.length
  | [], _, _, _ => by simp [codeT]
  | x :: l, i, hi, h => by
    have h0 : (x :: l).length = l.length + 1 := rfl
    have h1 := insT_le i x (by omega) (h x (by simp))
    have h2 := codeT_le l (i + 1) (by omega) fun y hy => h y (by simp [hy])
    rw [codeT, List.flatMap_cons, List.length_append]
    omega
theorem funT_le (f : Fun) (h : FunWf f) : ((funT f).flatMap lineB).length ≤ costF f := by
  unfold funT costF
  have hc := h.code
  have h1 := codeT_le f.code 0 (by omega) h.ins
  have h2 := itoa_le _ h.params
  have h3 := itoa_le _ h.regs
  have h4 : (bl f.name).length = f.name.size := by simp [bl]
  rw [List.flatMap_cons, List.length_append]
  unfold headT
  rw [lineB_len]
  simp only [List.map_cons, List.map_nil, List.sum_cons, List.sum_nil, fW, List.length_cons, List.length_nil]
  omega
theorem globT_le (g : Glob) (h : I64 g.kind) : (lineB (globT g)).length ≤ costG g := by
  unfold globT costG
  have h2 := itoa_le _ h
  have h4 : (bl g.name).length = g.name.size := by simp [bl]
  rw [lineB_len]
  simp only [List.map_cons, List.map_nil, List.sum_cons, List.sum_nil, gW, List.length_cons, List.length_nil]
  omega
theorem layT_le (y : List Int) (h : ∀ x ∈ y, I64 x) : (lineB (layT y)).length ≤ costY y := by
  unfold layT costY
  rw [lineB_len, List.map_map]
  have : ∀ l : List Int, (∀ x ∈ l, I64 x) → (l.map ((fun x : List UInt8 => x.length + 1) ∘ Lib.itoa)).sum ≤ 22 * l.length := by
    intro l
    induction l with
    | nil => simp
    | cons x l ih =>
      intro h
      have h1 := itoa_le x (h x (by simp))
      have h2 := ih fun y hy => h y (by simp [hy])
      rw [List.map_cons, List.sum_cons, List.length_cons]
      show (Lib.itoa x).length + 1 + _ ≤ _
      omega
  have := this y h
  simp only [lW, List.length_cons, List.length_nil]
  omega
theorem flat_le {α : Type} (e : α → List UInt8) (c : α → Nat) : ∀ xs : List α, (∀ x ∈ xs, (e x).length ≤ c x) → (xs.flatMap e).length ≤ (xs.map c).sum
  | [], _ => by simp
  | x :: xs, h => by
    have h1 := h x (by simp)
    have h2 := flat_le e c xs fun y hy => h y (by simp [hy])
    rw [List.flatMap_cons, List.length_append, List.map_cons, List.sum_cons]
    omega
theorem text_le (p : Prg) (h : PrgWf p) : (textL p).length ≤ costP p := by
  have h1 := flat_le (fun f => (funT f).flatMap lineB) costF p.funcs fun f hf => funT_le f (h.func f hf)
  have h2 := flat_le (fun g => lineB (globT g)) costG p.globals fun g hg => globT_le g (h.glob g hg).2
  have h3 := flat_le (fun y => lineB (layT y)) costY p.layouts fun y hy => layT_le y (h.lay y hy).2
  unfold textL linesP costP
  rw [List.flatMap_append, List.flatMap_append, List.flatMap_map, List.flatMap_map, List.flatMap_assoc]
  simp only [List.length_append]
  omega

end Go.Proofs.YtihcngjkflaelaaGreatDoor
