/-
  How a program of the language reads in memory.
-/
import Derived.Test.YtlgedpiabooloaaZBase
import Derived.Test.YtlgedpiabooloaaZLvOf
namespace Go.Proofs.Ytlgedpiabooloaa
set_option linter.unusedVariables false
set_option linter.unusedSimpArgs false
open Go.RowKit

structure Slc where
  a : Option Addr
  n : Nat
  c : Nat
instance : Inhabited Slc := ⟨⟨none, 0, 0⟩⟩
def Slc.val (s : Slc) : Value := .slice s.a s.n s.c

def funE : Enc (Fun × Slc) := ⟨4, fun x => [.string x.1.name, .int .i64 x.1.params, .int .i64 x.1.regs, .slice x.2.a x.2.n x.2.c], fun _ => rfl, by simp [Value.oneCell'], by decide⟩
def globE : Enc Glob := ⟨2, fun x => [.string x.name, .int .i64 x.kind], fun _ => rfl, by simp [Value.oneCell'], by decide⟩
def rowE : Enc Slc := ⟨1, fun x => [.slice x.a x.n x.c], fun _ => rfl, by simp [Value.oneCell'], by decide⟩

def FuncsAt (lo : Nat) (w : World) (v : Value) (l : List Fun) : Prop := ∃ ss : List Slc, ss.length = l.length ∧ SlE funE lo w v (l.zip ss) ∧ ∀ i, i < l.length → CodeAt lo w (nth ss i).val (nth l i).code
def GlobsAt (lo : Nat) (w : World) (v : Value) (l : List Glob) : Prop := SlE globE lo w v l
def LaysAt (lo : Nat) (w : World) (v : Value) (l : List (List Int)) : Prop := ∃ ss : List Slc, ss.length = l.length ∧ SlE rowE lo w v ss ∧ ∀ i, i < l.length → IntsAt lo w (nth ss i).val (nth l i)

theorem FuncsAt.keep {lo : Nat} {w w' : World} {v : Value} {l : List Fun} (h : FuncsAt lo w v l) (hk : Keep lo w w') : FuncsAt lo w' v l := by
  obtain ⟨ss, h1, h2, h3⟩ := h
  exact ⟨ss, h1, h2.keep hk, fun i hi => (h3 i hi).keep hk⟩
theorem GlobsAt.keep {lo : Nat} {w w' : World} {v : Value} {l : List Glob} (h : GlobsAt lo w v l) (hk : Keep lo w w') : GlobsAt lo w' v l := SlE.keep h hk
theorem LaysAt.keep {lo : Nat} {w w' : World} {v : Value} {l : List (List Int)} (h : LaysAt lo w v l) (hk : Keep lo w w') : LaysAt lo w' v l := by
  obtain ⟨ss, h1, h2, h3⟩ := h
  exact ⟨ss, h1, h2.keep hk, fun i hi => (h3 i hi).keep hk⟩
theorem FuncsAt.mono {lo lo' : Nat} {w : World} {v : Value} {l : List Fun} (h : FuncsAt lo w v l) (hk : lo' ≤ lo) : FuncsAt lo' w v l := by
  obtain ⟨ss, h1, h2, h3⟩ := h
  exact ⟨ss, h1, h2.mono hk, fun i hi => (h3 i hi).mono hk⟩
theorem GlobsAt.mono {lo lo' : Nat} {w : World} {v : Value} {l : List Glob} (h : GlobsAt lo w v l) (hk : lo' ≤ lo) : GlobsAt lo' w v l := SlE.mono h hk
theorem LaysAt.mono {lo lo' : Nat} {w : World} {v : Value} {l : List (List Int)} (h : LaysAt lo w v l) (hk : lo' ≤ lo) : LaysAt lo' w v l := by
  obtain ⟨ss, h1, h2, h3⟩ := h
  exact ⟨ss, h1, h2.mono hk, fun i hi => (h3 i hi).mono hk⟩

/-- The three slices of a program value. -/
structure ProgAt (lo : Nat) (w : World) (vf vg vl : Value) (p : Prg) : Prop where
  funcs : FuncsAt lo w vf p.funcs
  globs : GlobsAt lo w vg p.globals
  lays : LaysAt lo w vl p.layouts
theorem ProgAt.keep {lo : Nat} {w w' : World} {vf vg vl : Value} {p : Prg} (h : ProgAt lo w vf vg vl p) (hk : Keep lo w w') : ProgAt lo w' vf vg vl p := ⟨h.funcs.keep hk, h.globs.keep hk, h.lays.keep hk⟩
theorem ProgAt.below {lo : Nat} {w w' : World} {vf vg vl : Value} {p : Prg} (h : ProgAt lo w vf vg vl p) (hb : Below w.heap.size w w') : ProgAt lo w' vf vg vl p := h.keep (Keep.below hb)

theorem nth_zip {α β : Type} [Inhabited α] [Inhabited β] (l : List α) (r : List β) (i : Nat) (h : i < l.length) (h2 : i < r.length) : nth (l.zip r) i = (nth l i, nth r i) := by
  rw [nth_eq _ _ (by simp; omega), nth_eq _ _ h, nth_eq _ _ h2, List.getElem_zip]

theorem SlE.len {α : Type} [Inhabited α] {E : Enc α} {lo : Nat} {w : World} {s : Slc} {l : List α} (h : SlE E lo w s.val l) : s.n = l.length := by
  obtain ⟨a, c, b, o, he, _⟩ := h
  exact (Value.slice.inj he).2.1

theorem FuncsAt.open {lo : Nat} {w : World} {v : Value} {l : List Fun} (h : FuncsAt lo w v l) : ∃ a c b o, ∃ S : Nat → Slc, v = .slice a l.length c ∧ (0 < l.length → a = some ⟨b, o, none⟩) ∧
    (∀ i, i < l.length → w.cell? ⟨b, o + i * 4, none⟩ = some (.string (nth l i).name)) ∧ (∀ i, i < l.length → w.cell? ⟨b, o + i * 4 + 1, none⟩ = some (.int .i64 (nth l i).params)) ∧
    (∀ i, i < l.length → w.cell? ⟨b, o + i * 4 + 2, none⟩ = some (.int .i64 (nth l i).regs)) ∧ (∀ i, i < l.length → w.cell? ⟨b, o + i * 4 + 3, none⟩ = some (.slice (S i).a (nth l i).code.length (S i).c)) ∧
    (∀ i, i < l.length → CodeAt lo w (.slice (S i).a (nth l i).code.length (S i).c) (nth l i).code) ∧
    (0 < l.length → b < w.heap.size) ∧ l.length ≤ c ∧ c ≤ maxLen ∧ l.length ≤ 140737488355328 := by
  obtain ⟨ss, e1, hsl, hcode⟩ := h
  have hz : (l.zip ss).length = l.length := by simp [e1]
  have hz' : ∀ i, i < l.length → nth (l.zip ss) i = (nth l i, nth ss i) := fun i hi => nth_zip l ss i hi (by omega)
  have hlen : ∀ i, i < l.length → (nth ss i).n = (nth l i).code.length := fun i hi => SlE.len (hcode i hi)
  unfold SlE at hsl
  rw [hz] at hsl
  obtain ⟨a, c, b, o, rfl, hnil, hp, hc, h1, h2, h3⟩ := hsl
  have hc' : ∀ i k, i < l.length → k < 4 → w.cell? ⟨b, o + i * 4 + k, none⟩ = some (nth (funE.enc (nth l i, nth ss i)) k) := fun i k hi hk => by rw [← hz' i hi]; exact hc i k hi hk
  have c0 : ∀ i, i < l.length → w.cell? ⟨b, o + i * 4, none⟩ = some (.string (nth l i).name) := fun i hi => hc' i 0 hi (by omega)
  refine ⟨a, c, b, o, fun i => nth ss i, rfl, fun h0 => (hp h0).1, c0, fun i hi => hc' i 1 hi (by omega), fun i hi => hc' i 2 hi (by omega), fun i hi => ?_, fun i hi => ?_, fun h0 => World.block_lt_of_cell? _ _ (c0 0 h0), h1, h2, h3⟩
  · have := hc' i 3 hi (by omega); rw [← hlen i hi]; exact this
  · have := hcode i hi; rw [← hlen i hi]; exact this
theorem GlobsAt.open {lo : Nat} {w : World} {v : Value} {l : List Glob} (h : GlobsAt lo w v l) : ∃ a c b o, v = .slice a l.length c ∧ (0 < l.length → a = some ⟨b, o, none⟩) ∧
    (∀ i, i < l.length → w.cell? ⟨b, o + i * 2, none⟩ = some (.string (nth l i).name)) ∧ (∀ i, i < l.length → w.cell? ⟨b, o + i * 2 + 1, none⟩ = some (.int .i64 (nth l i).kind)) ∧
    (0 < l.length → b < w.heap.size) ∧ l.length ≤ c ∧ c ≤ maxLen ∧ l.length ≤ 140737488355328 := by
  obtain ⟨a, c, b, o, rfl, hnil, hp, hc, h1, h2, h3⟩ := h
  have c0 : ∀ i, i < l.length → w.cell? ⟨b, o + i * 2, none⟩ = some (.string (nth l i).name) := fun i hi => by have := hc i 0 hi (by decide); rw [Nat.add_zero] at this; exact this
  exact ⟨a, c, b, o, rfl, fun h0 => (hp h0).1, c0, fun i hi => hc i 1 hi (by decide), fun h0 => World.block_lt_of_cell? _ _ (c0 0 h0), h1, h2, h3⟩
theorem LaysAt.open {lo : Nat} {w : World} {v : Value} {l : List (List Int)} (h : LaysAt lo w v l) : ∃ a c b o, ∃ S : Nat → Slc, v = .slice a l.length c ∧ (0 < l.length → a = some ⟨b, o, none⟩) ∧
    (∀ i, i < l.length → w.cell? ⟨b, o + i, none⟩ = some (.slice (S i).a (nth l i).length (S i).c)) ∧ (∀ i, i < l.length → IntsAt lo w (.slice (S i).a (nth l i).length (S i).c) (nth l i)) ∧
    (0 < l.length → b < w.heap.size) ∧ l.length ≤ c ∧ c ≤ maxLen ∧ l.length ≤ 140737488355328 := by
  obtain ⟨ss, e1, hsl, hrow⟩ := h
  have hlen : ∀ i, i < l.length → (nth ss i).n = (nth l i).length := fun i hi => SlE.len (hrow i hi)
  unfold SlE at hsl
  rw [e1] at hsl
  obtain ⟨a, c, b, o, rfl, hnil, hp, hc, h1, h2, h3⟩ := hsl
  have c0 : ∀ i, i < l.length → w.cell? ⟨b, o + i, none⟩ = some (.slice (nth ss i).a (nth l i).length (nth ss i).c) := fun i hi => by
    have := hc i 0 hi (by decide); rw [Nat.add_zero, show rowE.sz = 1 from rfl, Nat.mul_one] at this; rw [← hlen i hi]; exact this
  exact ⟨a, c, b, o, fun i => nth ss i, rfl, fun h0 => (hp h0).1, c0, fun i hi => by have := hrow i hi; rw [← hlen i hi]; exact this, fun h0 => World.block_lt_of_cell? _ _ (c0 0 h0), h1, h2, h3⟩

end Go.Proofs.Ytlgedpiabooloaa

/-
  What is known of the numbers and sizes of a program that is handed in: integers fit 64 bits, rows fit the memory.
-/
namespace Go.Proofs.Ytlgedpiabooloaa
set_option linter.unusedVariables false
set_option linter.unusedSimpArgs false
open Go.RowKit

structure InsWf (x : Ins) : Prop where
  op : I64 x.op
  a : I64 x.a
  b : I64 x.b
  c : I64 x.c
  pos : I64 x.pos

structure FunWf (f : Fun) : Prop where
  name : f.name.size ≤ 140737488355328
  params : I64 f.params
  regs : I64 f.regs
  code : f.code.length * 40 ≤ 140737488351232
  ins : ∀ x ∈ f.code, InsWf x

structure PrgWf (p : Prg) : Prop where
  funcs : p.funcs.length * 56 ≤ 140737488351232
  func : ∀ f ∈ p.funcs, FunWf f
  globs : p.globals.length * 24 ≤ 140737488351232
  glob : ∀ g ∈ p.globals, g.name.size ≤ 140737488355328 ∧ I64 g.kind
  lays : p.layouts.length * 24 ≤ 140737488351232
  lay : ∀ r ∈ p.layouts, r.length * 8 ≤ 140737488351232 ∧ ∀ x ∈ r, I64 x
  main : I64 p.main

theorem forall_nth {α : Type} [Inhabited α] {l : List α} {G : α → Prop} (h : ∀ i, i < l.length → G (nth l i)) : ∀ x ∈ l, G x := by
  intro x hx
  obtain ⟨i, hi, rfl⟩ := List.mem_iff_getElem.1 hx
  rw [← nth_eq l i hi]; exact h i hi

end Go.Proofs.Ytlgedpiabooloaa

/-
  A program that lies in rows of the call's own.
-/
namespace Go.Proofs.Ytlgedpiabooloaa
set_option linter.unusedVariables false
set_option linter.unusedSimpArgs false
open Go.RowKit

/-- A row of functions, each with a row of instructions in a block of its own. -/
structure OwnFuns (base : Nat) (w : World) (v : Value) (l : List Fun) (ss : List Slc) : Prop where
  len : ss.length = l.length
  row : OwnE funE base 36 w v (l.zip ss)
  code : ∀ i, i < l.length → OwnE insE base 47 w (nth ss i).val (nth l i).code
  apart : ∀ i j, i < j → j < l.length → ∀ a b, (nth ss i).val.ownBlock = some a → (nth ss j).val.ownBlock = some b → a < b

structure OwnLays (base : Nat) (w : World) (v : Value) (l : List (List Int)) (ss : List Slc) : Prop where
  len : ss.length = l.length
  row : OwnE rowE base 30 w v ss
  each : ∀ i, i < l.length → OwnE intE base 3 w (nth ss i).val (nth l i)

theorem OwnFuns.only {base : Nat} {w w' : World} {v : Value} {l : List Fun} {ss : List Slc} {row : Option Nat} (h : OwnFuns base w v l ss) (ho : Only row w w')
    (h1 : ∀ k, v.ownBlock = some k → some k ≠ row) (h2 : ∀ i, i < l.length → ∀ k, (nth ss i).val.ownBlock = some k → some k ≠ row) : OwnFuns base w' v l ss :=
  ⟨h.len, h.row.only ho h1, fun i hi => (h.code i hi).only ho (h2 i hi), h.apart⟩
theorem OwnLays.only {base : Nat} {w w' : World} {v : Value} {l : List (List Int)} {ss : List Slc} {row : Option Nat} (h : OwnLays base w v l ss) (ho : Only row w w')
    (h1 : ∀ k, v.ownBlock = some k → some k ≠ row) (h2 : ∀ i, i < l.length → ∀ k, (nth ss i).val.ownBlock = some k → some k ≠ row) : OwnLays base w' v l ss :=
  ⟨h.len, h.row.only ho h1, fun i hi => (h.each i hi).only ho (h2 i hi)⟩
theorem OwnFuns.onlyBox {base : Nat} {w w' : World} {v : Value} {l : List Fun} {ss : List Slc} {b : Nat} {t : TypeId} {vs : List Value} (h : OwnFuns base w v l ss) (ho : Only (some b) w w') (hb : BoxAt w b t vs)
    (h1 : 36 ≠ t) (h2 : 47 ≠ t) : OwnFuns base w' v l ss :=
  h.only ho (h.row.neBox hb h1) (fun i hi => (h.code i hi).neBox hb h2)
theorem OwnLays.onlyBox {base : Nat} {w w' : World} {v : Value} {l : List (List Int)} {ss : List Slc} {b : Nat} {t : TypeId} {vs : List Value} (h : OwnLays base w v l ss) (ho : Only (some b) w w') (hb : BoxAt w b t vs)
    (h1 : 30 ≠ t) (h2 : 3 ≠ t) : OwnLays base w' v l ss :=
  h.only ho (h.row.neBox hb h1) (fun i hi => (h.each i hi).neBox hb h2)
theorem OwnFuns.fresh {base : Nat} {w w' : World} {v : Value} {l : List Fun} {ss : List Slc} (h : OwnFuns base w v l ss) (ho : Only none w w') : OwnFuns base w' v l ss := h.only ho (by simp) (by simp)
theorem OwnLays.fresh {base : Nat} {w w' : World} {v : Value} {l : List (List Int)} {ss : List Slc} (h : OwnLays base w v l ss) (ho : Only none w w') : OwnLays base w' v l ss := h.only ho (by simp) (by simp)
theorem OwnE.fresh {α : Type} {E : Enc α} {base : Nat} {e : TypeId} {w w' : World} {v : Value} {l : List α} (h : OwnE E base e w v l) (ho : Only none w w') : OwnE E base e w' v l := h.only ho (by simp)
theorem BoxAt.fresh {w w' : World} {b : Nat} {t : TypeId} {vs : List Value} (h : BoxAt w b t vs) (ho : Only none w w') : BoxAt w' b t vs := h.only ho (by simp)

theorem nth_snoc_lt {α : Type} [Inhabited α] (l : List α) (x : α) (i : Nat) (h : i < l.length) : nth (l ++ [x]) i = nth l i := nth_append_left l [x] i h
theorem nth_snoc_eq {α : Type} [Inhabited α] (l : List α) (x : α) (i : Nat) (h : i = l.length) : nth (l ++ [x]) i = x := by subst h; simp [nth]

theorem OwnFuns.nil (base : Nat) (w : World) : OwnFuns base w (.slice none 0 0) [] [] := ⟨rfl, OwnE.nil _ _ _ _, fun i hi => by simp at hi, fun i j _ hj => by simp at hj⟩
theorem OwnLays.nil (base : Nat) (w : World) : OwnLays base w (.slice none 0 0) [] [] := ⟨rfl, OwnE.nil _ _ _ _, fun i hi => by simp at hi⟩

theorem OwnFuns.snoc {base m : Nat} {w w' : World} {v v' : Value} {l : List Fun} {ss : List Slc} {f : Fun} {s : Slc} (h : OwnFuns base w v l ss) (hold : ∀ i, i < l.length → ∀ k, (nth ss i).val.ownBlock = some k → k < m)
    (hrow : OwnE funE base 36 w' v' (l.zip ss ++ [(f, s)])) (hkeep : ∀ i, i < l.length → OwnE insE base 47 w' (nth ss i).val (nth l i).code) (hnew : OwnE insE m 47 w' s.val f.code) (hm : base ≤ m) : OwnFuns base w' v' (l ++ [f]) (ss ++ [s]) := by
  refine ⟨by simp [h.len], ?_, fun i hi => ?_, fun i j hij hj a b ha hb => ?_⟩
  · rw [List.zip_append h.len.symm]; exact hrow
  · rw [List.length_append, List.length_singleton] at hi
    rcases Nat.lt_or_ge i l.length with h1 | h1
    · rw [nth_snoc_lt _ _ _ (by rw [h.len]; exact h1), nth_snoc_lt _ _ _ h1]; exact hkeep i h1
    · rw [nth_snoc_eq _ _ _ (by rw [h.len]; omega), nth_snoc_eq _ _ _ (by omega)]; exact hnew.mono hm
  · rw [List.length_append, List.length_singleton] at hj
    have hi : i < l.length := by omega
    rw [nth_snoc_lt _ _ _ (by rw [h.len]; exact hi)] at ha
    rcases Nat.lt_or_ge j l.length with h1 | h1
    · rw [nth_snoc_lt _ _ _ (by rw [h.len]; exact h1)] at hb
      exact h.apart i j hij h1 a b ha hb
    · rw [nth_snoc_eq _ _ _ (by rw [h.len]; omega)] at hb
      have h2 := hold i hi a ha
      have h3 := (hnew.lt b hb).1
      omega
theorem OwnLays.snoc {base : Nat} {w w' : World} {v v' : Value} {l : List (List Int)} {ss : List Slc} {r : List Int} {s : Slc} (h : OwnLays base w v l ss)
    (hrow : OwnE rowE base 30 w' v' (ss ++ [s])) (hkeep : ∀ i, i < l.length → OwnE intE base 3 w' (nth ss i).val (nth l i)) (hnew : OwnE intE base 3 w' s.val r) : OwnLays base w' v' (l ++ [r]) (ss ++ [s]) := by
  refine ⟨by simp [h.len], hrow, fun i hi => ?_⟩
  rw [List.length_append, List.length_singleton] at hi
  rcases Nat.lt_or_ge i l.length with h1 | h1
  · rw [nth_snoc_lt _ _ _ (by rw [h.len]; exact h1), nth_snoc_lt _ _ _ h1]; exact hkeep i h1
  · rw [nth_snoc_eq _ _ _ (by rw [h.len]; omega), nth_snoc_eq _ _ _ (by omega)]; exact hnew

/-- A whole program in rows of the call's own. -/
structure OwnPrg (base : Nat) (w : World) (vf vg vl : Value) (p : Prg) : Prop where
  funcs : ∃ ss, OwnFuns base w vf p.funcs ss
  globs : OwnE globE base 60 w vg p.globals
  lays : ∃ rs, OwnLays base w vl p.layouts rs

theorem OwnFuns.at {base lo : Nat} {w : World} {v : Value} {l : List Fun} {ss : List Slc} (h : OwnFuns base w v l ss) (hl : lo ≤ base) (hn : l.length ≤ 140737488355328) (hc : ∀ f ∈ l, f.code.length ≤ 140737488355328) : FuncsAt lo w v l :=
  ⟨ss, h.len, h.row.sl hl (by simp [h.len]; exact hn), fun i hi => (h.code i hi).sl hl (hc _ (nth_mem l i hi))⟩
theorem OwnLays.at {base lo : Nat} {w : World} {v : Value} {l : List (List Int)} {ss : List Slc} (h : OwnLays base w v l ss) (hl : lo ≤ base) (hn : l.length ≤ 140737488355328) (hc : ∀ f ∈ l, f.length ≤ 140737488355328) : LaysAt lo w v l :=
  ⟨ss, h.len, h.row.sl hl (by rw [h.len]; exact hn), fun i hi => (h.each i hi).sl hl (hc _ (nth_mem l i hi))⟩
theorem OwnPrg.at {base lo : Nat} {w : World} {vf vg vl : Value} {p : Prg} (h : OwnPrg base w vf vg vl p) (hl : lo ≤ base) (hp : PrgWf p) : ProgAt lo w vf vg vl p := by
  obtain ⟨ss, hs⟩ := h.funcs
  obtain ⟨rs, hr⟩ := h.lays
  have h1 := hp.funcs
  have h2 := hp.globs
  have h3 := hp.lays
  exact ⟨hs.at hl (by omega) fun f hf => by have := (hp.func f hf).code; omega, h.globs.sl hl (by omega), hr.at hl (by omega) fun r hr' => by have := (hp.lay r hr').1; omega⟩

end Go.Proofs.Ytlgedpiabooloaa
