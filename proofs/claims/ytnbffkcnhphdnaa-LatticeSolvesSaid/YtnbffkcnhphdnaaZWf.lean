/-
  What is known of the numbers and sizes of a program that is handed in: integers fit 64 bits, rows fit the memory.
-/
import Derived.Test.YtnbffkcnhphdnaaZPAt
namespace Go.Proofs.Ytnbffkcnhphdnaa
set_option linter.unusedVariables false
set_option linter.unusedSimpArgs false
open Go.RowKit

structure InsWf (x : Ins) : Prop where
  op : I64 x.op
  a : I64 x.a
  b : I64 x.b
  c : I64 x.c
  pos : I64 x.pos

structure FunWf (f : Fun) : Prop where
  name : f.name.size ≤ 140737488355328
  params : I64 f.params
  regs : I64 f.regs
  code : f.code.length * 40 ≤ 140737488351232
  ins : ∀ x ∈ f.code, InsWf x

structure PrgWf (p : Prg) : Prop where
  funcs : p.funcs.length * 56 ≤ 140737488351232
  func : ∀ f ∈ p.funcs, FunWf f
  globs : p.globals.length * 24 ≤ 140737488351232
  glob : ∀ g ∈ p.globals, g.name.size ≤ 140737488355328 ∧ I64 g.kind
  lays : p.layouts.length * 24 ≤ 140737488351232
  lay : ∀ r ∈ p.layouts, r.length * 8 ≤ 140737488351232 ∧ ∀ x ∈ r, I64 x
  main : I64 p.main

theorem forall_nth {α : Type} [Inhabited α] {l : List α} {G : α → Prop} (h : ∀ i, i < l.length → G (nth l i)) : ∀ x ∈ l, G x := by
  intro x hx
  obtain ⟨i, hi, rfl⟩ := List.mem_iff_getElem.1 hx
  rw [← nth_eq l i hi]; exact h i hi

end Go.Proofs.Ytnbffkcnhphdnaa
