/-
  What is known of the numbers and sizes of a program that is handed in: integers fit 64 bits, rows fit the memory.
-/
import Derived.Test.YtihcngjkflaelaaGreatDoorZPAt
import Derived.Test.YtihcngjkflaelaaGreatDoorZBox
namespace Go.Proofs.YtihcngjkflaelaaGreatDoor
set_option linter.unusedVariables false
set_option linter.unusedSimpArgs false
open Go.RowKit

structure InsWf (x : Ins) : Prop where
  op : I64 x.op
  a : I64 x.a
  b : I64 x.b
  c : I64 x.c
  pos : I64 x.pos

structure FunWf (f : Fun) : Prop where
  name : f.name.size ≤ 140737488355328
  params : I64 f.params
  regs : I64 f.regs
  code : f.code.length * 40 ≤ 140737488351232
  ins : ∀ x ∈ f.code, InsWf x

structure PrgWf (p : Prg) : Prop where
  funcs : p.funcs.length * 56 ≤ 140737488351232
  func : ∀ f ∈ p.funcs, FunWf f
  globs : p.globals.length * 24 ≤ 140737488351232
  glob : ∀ g ∈ p.globals, g.name.size ≤ 140737488355328 ∧ I64 g.kind
  lays : p.layouts.length * 24 ≤ 140737488351232
  lay : ∀ r ∈ p.layouts, r.length * 8 ≤ 140737488351232 ∧ ∀ x ∈ r, I64 x
  main : I64 p.main

theorem forall_nth {α : Type} [Inhabited α] {l : List α} {G : α → Prop} (h : ∀ i, i < l.length → G (nth l i)) : ∀ x ∈ l, G x := by
  intro x hx
  obtain ⟨i, hi, rfl⟩ := List.mem_iff_getElem.1 hx
  rw [← nth_eq l i hi]; exact h i hi

end Go.Proofs.YtihcngjkflaelaaGreatDoor

/-
  A program that lies in rows of the call's own.
-/
namespace Go.Proofs.YtihcngjkflaelaaGreatDoor
set_option linter.unusedVariables false
set_option linter.unusedSimpArgs false
open Go.RowKit

/-- A row of functions, each with a row of instructions in a block of its own. -/
structure OwnFuns (base : Nat) (w : World) (v : Value) (l : List Fun) (ss : List Slc) : Prop where
  len : ss.length = l.length
  row : OwnE funE base 37 w v (l.zip ss)
  code : ∀ i, i < l.length → OwnE insE base 34 w (nth ss i).val (nth l i).code
  apart : ∀ i j, i < j → j < l.length → ∀ a b, (nth ss i).val.ownBlock = some a → (nth ss j).val.ownBlock = some b → a < b

structure OwnLays (base : Nat) (w : World) (v : Value) (l : List (List Int)) (ss : List Slc) : Prop where
  len : ss.length = l.length
  row : OwnE rowE base 39 w v ss
  each : ∀ i, i < l.length → OwnE intE base 3 w (nth ss i).val (nth l i)

theorem OwnFuns.only {base : Nat} {w w' : World} {v : Value} {l : List Fun} {ss : List Slc} {row : Option Nat} (h : OwnFuns base w v l ss) (ho : Only row w w')
    (h1 : ∀ k, v.ownBlock = some k → some k ≠ row) (h2 : ∀ i, i < l.length → ∀ k, (nth ss i).val.ownBlock = some k → some k ≠ row) : OwnFuns base w' v l ss :=
  ⟨h.len, h.row.only ho h1, fun i hi => (h.code i hi).only ho (h2 i hi), h.apart⟩
theorem OwnLays.only {base : Nat} {w w' : World} {v : Value} {l : List (List Int)} {ss : List Slc} {row : Option Nat} (h : OwnLays base w v l ss) (ho : Only row w w')
    (h1 : ∀ k, v.ownBlock = some k → some k ≠ row) (h2 : ∀ i, i < l.length → ∀ k, (nth ss i).val.ownBlock = some k → some k ≠ row) : OwnLays base w' v l ss :=
  ⟨h.len, h.row.only ho h1, fun i hi => (h.each i hi).only ho (h2 i hi)⟩
theorem OwnFuns.onlyBox {base : Nat} {w w' : World} {v : Value} {l : List Fun} {ss : List Slc} {b : Nat} {t : TypeId} {vs : List Value} (h : OwnFuns base w v l ss) (ho : Only (some b) w w') (hb : BoxAt w b t vs)
    (h1 : 37 ≠ t) (h2 : 34 ≠ t) : OwnFuns base w' v l ss :=
  h.only ho (h.row.neBox hb h1) (fun i hi => (h.code i hi).neBox hb h2)
theorem OwnLays.onlyBox {base : Nat} {w w' : World} {v : Value} {l : List (List Int)} {ss : List Slc} {b : Nat} {t : TypeId} {vs : List Value} (h : OwnLays base w v l ss) (ho : Only (some b) w w') (hb : BoxAt w b t vs)
    (h1 : 39 ≠ t) (h2 : 3 ≠ t) : OwnLays base w' v l ss :=
  h.only ho (h.row.neBox hb h1) (fun i hi => (h.each i hi).neBox hb h2)
theorem OwnFuns.fresh {base : Nat} {w w' : World} {v : Value} {l : List Fun} {ss : List Slc} (h : OwnFuns base w v l ss) (ho : Only none w w') : OwnFuns base w' v l ss := h.only ho (by simp) (by simp)
theorem OwnLays.fresh {base : Nat} {w w' : World} {v : Value} {l : List (List Int)} {ss : List Slc} (h : OwnLays base w v l ss) (ho : Only none w w') : OwnLays base w' v l ss := h.only ho (by simp) (by simp)
theorem OwnE.fresh {α : Type} {E : Enc α} {base : Nat} {e : TypeId} {w w' : World} {v : Value} {l : List α} (h : OwnE E base e w v l) (ho : Only none w w') : OwnE E base e w' v l := h.only ho (by simp)
theorem BoxAt.fresh {w w' : World} {b : Nat} {t : TypeId} {vs : List Value} (h : BoxAt w b t vs) (ho : Only none w w') : BoxAt w' b t vs := h.only ho (by simp)

theorem nth_snoc_lt {α : Type} [Inhabited α] (l : List α) (x : α) (i : Nat) (h : i < l.length) : nth (l ++ [x]) i = nth l i := nth_append_left l [x] i h
theorem nth_snoc_eq {α : Type} [Inhabited α] (l : List α) (x : α) (i : Nat) (h : i = l.length) : nth (l ++ [x]) i = x := by subst h; simp [nth]

theorem OwnFuns.nil (base : Nat) (w : World) : OwnFuns base w (.slice none 0 0) [] [] := ⟨rfl, OwnE.nil _ _ _ _, fun i hi => by simp at hi, fun i j _ hj => by simp at hj⟩
theorem OwnLays.nil (base : Nat) (w : World) : OwnLays base w (.slice none 0 0) [] [] := ⟨rfl, OwnE.nil _ _ _ _, fun i hi => by simp at hi⟩

theorem OwnFuns.snoc {base m : Nat} {w w' : World} {v v' : Value} {l : List Fun} {ss : List Slc} {f : Fun} {s : Slc} (h : OwnFuns base w v l ss) (hold : ∀ i, i < l.length → ∀ k, (nth ss i).val.ownBlock = some k → k < m)
    (hrow : OwnE funE base 37 w' v' (l.zip ss ++ [(f, s)])) (hkeep : ∀ i, i < l.length → OwnE insE base 34 w' (nth ss i).val (nth l i).code) (hnew : OwnE insE m 34 w' s.val f.code) (hm : base ≤ m) : OwnFuns base w' v' (l ++ [f]) (ss ++ [s]) := by
  refine ⟨by simp [h.len], ?_, fun i hi => ?_, fun i j hij hj a b ha hb => ?_⟩
  · rw [List.zip_append h.len.symm]; exact hrow
  · rw [List.length_append, List.length_singleton] at hi
    rcases Nat.lt_or_ge i l.length with h1 | h1
    · rw [nth_snoc_lt _ _ _ (by rw [h.len]; exact h1), nth_snoc_lt _ _ _ h1]; exact hkeep i h1
    · rw [nth_snoc_eq _ _ _ (by rw [h.len]; omega), nth_snoc_eq _ _ _ (by omega)]; exact hnew.mono hm
  · rw [List.length_append, List.length_singleton] at hj
    have hi : i < l.length := by omega
    rw [nth_snoc_lt _ _ _ (by rw [h.len]; exact hi)] at ha
    rcases Nat.lt_or_ge j l.length with h1 | h1
    · rw [nth_snoc_lt _ _ _ (by rw [h.len]; exact h1)] at hb
      exact h.apart i j hij h1 a b ha hb
    · rw [nth_snoc_eq _ _ _ (by rw [h.len]; omega)] at hb
      have h2 := hold i hi a ha
      have h3 := (hnew.lt b hb).1
      omega
theorem OwnLays.snoc {base : Nat} {w w' : World} {v v' : Value} {l : List (List Int)} {ss : List Slc} {r : List Int} {s : Slc} (h : OwnLays base w v l ss)
    (hrow : OwnE rowE base 39 w' v' (ss ++ [s])) (hkeep : ∀ i, i < l.length → OwnE intE base 3 w' (nth ss i).val (nth l i)) (hnew : OwnE intE base 3 w' s.val r) : OwnLays base w' v' (l ++ [r]) (ss ++ [s]) := by
  refine ⟨by simp [h.len], hrow, fun i hi => ?_⟩
  rw [List.length_append, List.length_singleton] at hi
  rcases Nat.lt_or_ge i l.length with h1 | h1
  · rw [nth_snoc_lt _ _ _ (by rw [h.len]; exact h1), nth_snoc_lt _ _ _ h1]; exact hkeep i h1
  · rw [nth_snoc_eq _ _ _ (by rw [h.len]; omega), nth_snoc_eq _ _ _ (by omega)]; exact hnew

/-- A whole program in rows of the call's own. -/
structure OwnPrg (base : Nat) (w : World) (vf vg vl : Value) (p : Prg) : Prop where
  funcs : ∃ ss, OwnFuns base w vf p.funcs ss
  globs : OwnE globE base 45 w vg p.globals
  lays : ∃ rs, OwnLays base w vl p.layouts rs

theorem OwnFuns.at {base lo : Nat} {w : World} {v : Value} {l : List Fun} {ss : List Slc} (h : OwnFuns base w v l ss) (hl : lo ≤ base) (hn : l.length ≤ 140737488355328) (hc : ∀ f ∈ l, f.code.length ≤ 140737488355328) : FuncsAt lo w v l :=
  ⟨ss, h.len, h.row.sl hl (by simp [h.len]; exact hn), fun i hi => (h.code i hi).sl hl (hc _ (nth_mem l i hi))⟩
theorem OwnLays.at {base lo : Nat} {w : World} {v : Value} {l : List (List Int)} {ss : List Slc} (h : OwnLays base w v l ss) (hl : lo ≤ base) (hn : l.length ≤ 140737488355328) (hc : ∀ f ∈ l, f.length ≤ 140737488355328) : LaysAt lo w v l :=
  ⟨ss, h.len, h.row.sl hl (by rw [h.len]; exact hn), fun i hi => (h.each i hi).sl hl (hc _ (nth_mem l i hi))⟩
theorem OwnPrg.at {base lo : Nat} {w : World} {vf vg vl : Value} {p : Prg} (h : OwnPrg base w vf vg vl p) (hl : lo ≤ base) (hp : PrgWf p) : ProgAt lo w vf vg vl p := by
  obtain ⟨ss, hs⟩ := h.funcs
  obtain ⟨rs, hr⟩ := h.lays
  have h1 := hp.funcs
  have h2 := hp.globs
  have h3 := hp.lays
  exact ⟨hs.at hl (by omega) fun f hf => by have := (hp.func f hf).code; omega, h.globs.sl hl (by omega), hr.at hl (by omega) fun r hr' => by have := (hp.lay r hr').1; omega⟩

end Go.Proofs.YtihcngjkflaelaaGreatDoor
