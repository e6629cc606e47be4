/-
  How long a binary form can be.
-/
import Derived.Test.YtkfpacklpelefaaZPlain10
namespace Go.Proofs.Ytkfpacklpelefaa
set_option linter.unusedVariables false
set_option linter.unusedSimpArgs false
open Go.RowKit

def costF (f : Fun) : Nat := f.name.size + 40 + 50 * f.code.length
def costG (g : Glob) : Nat := g.name.size + 20
def costY (y : List Int) : Nat := 10 + 10 * y.length
/-- What the binary form is at most. -/
def costP (p : Prg) : Nat := 44 + (p.funcs.map costF).sum + (p.globals.map costG).sum + (p.layouts.map costY).sum

theorem encIns_le (a : Int) (x : Ins) (h : InsWf x) : (encIns a x).length ≤ 50 := by
  unfold encIns
  have h1 := encN_le _ h.op
  have h2 := encN_le _ h.a
  have h3 := encN_le _ h.b
  have h4 := encN_le _ h.c
  have h5 := encN_le _ (w64_I64 (x.pos - a))
  simp only [List.length_append]
  omega
theorem encCode_le : ∀ (l : List Ins) (a : Int), (∀ x ∈ l, InsWf x) → (encCode a l).length ≤ 50 * l.length
  | [], _, _ => by simp [encCode]
  | x :: l, a, h => by
    have h1 := encIns_le a x (h x (by simp))
    have h2 := encCode_le l x.pos fun y hy => h y (by simp [hy])
    rw [encCode, List.length_append, List.length_cons]
    omega
theorem encT_le (s : ByteArray) (h : s.size ≤ 140737488355328) : (encT s).length ≤ s.size + 10 := by
  unfold encT
  have h2 : s.data.toList.length = s.size := by simp
  have h1 := encN_le (s.data.toList.length : Nat) (i64_len _ (by omega))
  rw [List.length_append]
  omega
theorem encFun_le (f : Fun) (h : FunWf f) : (encFun f).length ≤ costF f := by
  unfold encFun costF
  have h1 := encT_le f.name h.name
  have h2 := encN_le _ h.params
  have h3 := encN_le _ h.regs
  have hc := h.code
  have h4 := encN_le (f.code.length : Nat) (i64_len _ (by omega))
  have h5 := encCode_le f.code 0 h.ins
  simp only [List.length_append]
  omega
theorem encGlob_le (g : Glob) (h : g.name.size ≤ 140737488355328 ∧ I64 g.kind) : (encGlob g).length ≤ costG g := by
  unfold encGlob costG
  have h1 := encT_le g.name h.1
  have h2 := encN_le _ h.2
  simp only [List.length_append]
  omega
theorem flat_le {α : Type} (e : α → List UInt8) (c : α → Nat) : ∀ xs : List α, (∀ x ∈ xs, (e x).length ≤ c x) → (xs.flatMap e).length ≤ (xs.map c).sum
  | [], _ => by simp
  | x :: xs, h => by
    have h1 := h x (by simp)
    have h2 := flat_le e c xs fun y hy => h y (by simp [hy])
    rw [List.flatMap_cons, List.length_append, List.map_cons, List.sum_cons]
    omega
theorem encL_le {α : Type} (e : α → List UInt8) (c : α → Nat) (xs : List α) (hn : xs.length ≤ 140737488355328) (h : ∀ x ∈ xs, (e x).length ≤ c x) : (encL e xs).length ≤ 10 + (xs.map c).sum := by
  unfold encL
  have h1 := encN_le (xs.length : Nat) (i64_len _ hn)
  have h2 := flat_le e c xs h
  rw [List.length_append]
  omega
theorem sum_const {α : Type} (k : Nat) : ∀ xs : List α, (xs.map fun _ => k).sum = k * xs.length
  | [] => by simp
  | x :: xs => by rw [List.map_cons, List.sum_cons, sum_const k xs, List.length_cons, Nat.mul_succ]; omega
theorem encLay_le (y : List Int) (h : y.length * 8 ≤ 140737488351232 ∧ ∀ x ∈ y, I64 x) : (encLay y).length ≤ costY y := by
  unfold encLay costY
  have h1 := encL_le encN (fun _ => 10) y (by have := h.1; omega) fun x hx => encN_le x (h.2 x hx)
  rw [sum_const] at h1
  omega
theorem body_le (p : Prg) (h : PrgWf p) : (bodyL p).length ≤ costP p := by
  have hf := h.funcs
  have hg := h.globs
  have hy := h.lays
  have h1 := encL_le encFun costF p.funcs (by omega) fun f hf => encFun_le f (h.func f hf)
  have h2 := encL_le encGlob costG p.globals (by omega) fun g hg => encGlob_le g (h.glob g hg)
  have h3 := encL_le encLay costY p.layouts (by omega) fun y hy => encLay_le y (h.lay y hy)
  have h4 := encN_le _ h.main
  unfold bodyL encPrg costP
  simp only [List.length_append, magicL, List.length_cons, List.length_nil]
  omega

end Go.Proofs.Ytkfpacklpelefaa
