/-
  What is known of the numbers and sizes of a program that is handed in: integers fit 64 bits, rows fit the memory.
-/
import Derived.Test.YtealeofgfgbheaaProg
import Derived.Lib.SliceRun
import Derived.Test.YtealeofgfgbheaaZAppend
import Derived.Test.YtealeofgfgbheaaZLkP
import Derived.Test.YtealeofgfgbheaaZEqC
import Derived.Test.YtealeofgfgbheaaZRegT
namespace Go.Proofs.Ytealeofgfgbheaa
set_option linter.unusedVariables false
set_option linter.unusedSimpArgs false
open Go.RowKit

structure InsWf (x : Ins) : Prop where
  op : I64 x.op
  a : I64 x.a
  b : I64 x.b
  c : I64 x.c
  pos : I64 x.pos

structure FunWf (f : Fun) : Prop where
  name : f.name.size ≤ 140737488355328
  params : I64 f.params
  regs : I64 f.regs
  code : f.code.length * 40 ≤ 140737488351232
  ins : ∀ x ∈ f.code, InsWf x

structure PrgWf (p : Prg) : Prop where
  funcs : p.funcs.length * 56 ≤ 140737488351232
  func : ∀ f ∈ p.funcs, FunWf f
  globs : p.globals.length * 24 ≤ 140737488351232
  glob : ∀ g ∈ p.globals, g.name.size ≤ 140737488355328 ∧ I64 g.kind
  lays : p.layouts.length * 24 ≤ 140737488351232
  lay : ∀ r ∈ p.layouts, r.length * 8 ≤ 140737488351232 ∧ ∀ x ∈ r, I64 x
  main : I64 p.main

theorem forall_nth {α : Type} [Inhabited α] {l : List α} {G : α → Prop} (h : ∀ i, i < l.length → G (nth l i)) : ∀ x ∈ l, G x := by
  intro x hx
  obtain ⟨i, hi, rfl⟩ := List.mem_iff_getElem.1 hx
  rw [← nth_eq l i hi]; exact h i hi

end Go.Proofs.Ytealeofgfgbheaa

/-
  A program that lies in rows of the call's own.
-/
namespace Go.Proofs.Ytealeofgfgbheaa
set_option linter.unusedVariables false
set_option linter.unusedSimpArgs false
open Go.RowKit

/-- A row of functions, each with a row of instructions in a block of its own. -/
structure OwnFuns (base : Nat) (w : World) (v : Value) (l : List Fun) (ss : List Slc) : Prop where
  len : ss.length = l.length
  row : OwnE funE base 41 w v (l.zip ss)
  code : ∀ i, i < l.length → OwnE insE base 43 w (nth ss i).val (nth l i).code
  apart : ∀ i j, i < j → j < l.length → ∀ a b, (nth ss i).val.ownBlock = some a → (nth ss j).val.ownBlock = some b → a < b

structure OwnLays (base : Nat) (w : World) (v : Value) (l : List (List Int)) (ss : List Slc) : Prop where
  len : ss.length = l.length
  row : OwnE rowE base 45 w v ss
  each : ∀ i, i < l.length → OwnE intE base 3 w (nth ss i).val (nth l i)

theorem OwnFuns.only {base : Nat} {w w' : World} {v : Value} {l : List Fun} {ss : List Slc} {row : Option Nat} (h : OwnFuns base w v l ss) (ho : Only row w w')
    (h1 : ∀ k, v.ownBlock = some k → some k ≠ row) (h2 : ∀ i, i < l.length → ∀ k, (nth ss i).val.ownBlock = some k → some k ≠ row) : OwnFuns base w' v l ss :=
  ⟨h.len, h.row.only ho h1, fun i hi => (h.code i hi).only ho (h2 i hi), h.apart⟩
theorem OwnLays.only {base : Nat} {w w' : World} {v : Value} {l : List (List Int)} {ss : List Slc} {row : Option Nat} (h : OwnLays base w v l ss) (ho : Only row w w')
    (h1 : ∀ k, v.ownBlock = some k → some k ≠ row) (h2 : ∀ i, i < l.length → ∀ k, (nth ss i).val.ownBlock = some k → some k ≠ row) : OwnLays base w' v l ss :=
  ⟨h.len, h.row.only ho h1, fun i hi => (h.each i hi).only ho (h2 i hi)⟩
theorem OwnFuns.onlyBox {base : Nat} {w w' : World} {v : Value} {l : List Fun} {ss : List Slc} {b : Nat} {t : TypeId} {vs : List Value} (h : OwnFuns base w v l ss) (ho : Only (some b) w w') (hb : BoxAt w b t vs)
    (h1 : 41 ≠ t) (h2 : 43 ≠ t) : OwnFuns base w' v l ss :=
  h.only ho (h.row.neBox hb h1) (fun i hi => (h.code i hi).neBox hb h2)
theorem OwnLays.onlyBox {base : Nat} {w w' : World} {v : Value} {l : List (List Int)} {ss : List Slc} {b : Nat} {t : TypeId} {vs : List Value} (h : OwnLays base w v l ss) (ho : Only (some b) w w') (hb : BoxAt w b t vs)
    (h1 : 45 ≠ t) (h2 : 3 ≠ t) : OwnLays base w' v l ss :=
  h.only ho (h.row.neBox hb h1) (fun i hi => (h.each i hi).neBox hb h2)
theorem OwnFuns.fresh {base : Nat} {w w' : World} {v : Value} {l : List Fun} {ss : List Slc} (h : OwnFuns base w v l ss) (ho : Only none w w') : OwnFuns base w' v l ss := h.only ho (by simp) (by simp)
theorem OwnLays.fresh {base : Nat} {w w' : World} {v : Value} {l : List (List Int)} {ss : List Slc} (h : OwnLays base w v l ss) (ho : Only none w w') : OwnLays base w' v l ss := h.only ho (by simp) (by simp)
theorem OwnE.fresh {α : Type} {E : Enc α} {base : Nat} {e : TypeId} {w w' : World} {v : Value} {l : List α} (h : OwnE E base e w v l) (ho : Only none w w') : OwnE E base e w' v l := h.only ho (by simp)
theorem BoxAt.fresh {w w' : World} {b : Nat} {t : TypeId} {vs : List Value} (h : BoxAt w b t vs) (ho : Only none w w') : BoxAt w' b t vs := h.only ho (by simp)

theorem nth_snoc_lt {α : Type} [Inhabited α] (l : List α) (x : α) (i : Nat) (h : i < l.length) : nth (l ++ [x]) i = nth l i := nth_append_left l [x] i h
theorem nth_snoc_eq {α : Type} [Inhabited α] (l : List α) (x : α) (i : Nat) (h : i = l.length) : nth (l ++ [x]) i = x := by subst h; simp [nth]

theorem OwnFuns.nil (base : Nat) (w : World) : OwnFuns base w (.slice none 0 0) [] [] := ⟨rfl, OwnE.nil _ _ _ _, fun i hi => by simp at hi, fun i j _ hj => by simp at hj⟩
theorem OwnLays.nil (base : Nat) (w : World) : OwnLays base w (.slice none 0 0) [] [] := ⟨rfl, OwnE.nil _ _ _ _, fun i hi => by simp at hi⟩

theorem OwnFuns.snoc {base m : Nat} {w w' : World} {v v' : Value} {l : List Fun} {ss : List Slc} {f : Fun} {s : Slc} (h : OwnFuns base w v l ss) (hold : ∀ i, i < l.length → ∀ k, (nth ss i).val.ownBlock = some k → k < m)
    (hrow : OwnE funE base 41 w' v' (l.zip ss ++ [(f, s)])) (hkeep : ∀ i, i < l.length → OwnE insE base 43 w' (nth ss i).val (nth l i).code) (hnew : OwnE insE m 43 w' s.val f.code) (hm : base ≤ m) : OwnFuns base w' v' (l ++ [f]) (ss ++ [s]) := by
  refine ⟨by simp [h.len], ?_, fun i hi => ?_, fun i j hij hj a b ha hb => ?_⟩
  · rw [List.zip_append h.len.symm]; exact hrow
  · rw [List.length_append, List.length_singleton] at hi
    rcases Nat.lt_or_ge i l.length with h1 | h1
    · rw [nth_snoc_lt _ _ _ (by rw [h.len]; exact h1), nth_snoc_lt _ _ _ h1]; exact hkeep i h1
    · rw [nth_snoc_eq _ _ _ (by rw [h.len]; omega), nth_snoc_eq _ _ _ (by omega)]; exact hnew.mono hm
  · rw [List.length_append, List.length_singleton] at hj
    have hi : i < l.length := by omega
    rw [nth_snoc_lt _ _ _ (by rw [h.len]; exact hi)] at ha
    rcases Nat.lt_or_ge j l.length with h1 | h1
    · rw [nth_snoc_lt _ _ _ (by rw [h.len]; exact h1)] at hb
      exact h.apart i j hij h1 a b ha hb
    · rw [nth_snoc_eq _ _ _ (by rw [h.len]; omega)] at hb
      have h2 := hold i hi a ha
      have h3 := (hnew.lt b hb).1
      omega
theorem OwnLays.snoc {base : Nat} {w w' : World} {v v' : Value} {l : List (List Int)} {ss : List Slc} {r : List Int} {s : Slc} (h : OwnLays base w v l ss)
    (hrow : OwnE rowE base 45 w' v' (ss ++ [s])) (hkeep : ∀ i, i < l.length → OwnE intE base 3 w' (nth ss i).val (nth l i)) (hnew : OwnE intE base 3 w' s.val r) : OwnLays base w' v' (l ++ [r]) (ss ++ [s]) := by
  refine ⟨by simp [h.len], hrow, fun i hi => ?_⟩
  rw [List.length_append, List.length_singleton] at hi
  rcases Nat.lt_or_ge i l.length with h1 | h1
  · rw [nth_snoc_lt _ _ _ (by rw [h.len]; exact h1), nth_snoc_lt _ _ _ h1]; exact hkeep i h1
  · rw [nth_snoc_eq _ _ _ (by rw [h.len]; omega), nth_snoc_eq _ _ _ (by omega)]; exact hnew

/-- A whole program in rows of the call's own. -/
structure OwnPrg (base : Nat) (w : World) (vf vg vl : Value) (p : Prg) : Prop where
  funcs : ∃ ss, OwnFuns base w vf p.funcs ss
  globs : OwnE globE base 60 w vg p.globals
  lays : ∃ rs, OwnLays base w vl p.layouts rs

theorem OwnFuns.at {base lo : Nat} {w : World} {v : Value} {l : List Fun} {ss : List Slc} (h : OwnFuns base w v l ss) (hl : lo ≤ base) (hn : l.length ≤ 140737488355328) (hc : ∀ f ∈ l, f.code.length ≤ 140737488355328) : FuncsAt lo w v l :=
  ⟨ss, h.len, h.row.sl hl (by simp [h.len]; exact hn), fun i hi => (h.code i hi).sl hl (hc _ (nth_mem l i hi))⟩
theorem OwnLays.at {base lo : Nat} {w : World} {v : Value} {l : List (List Int)} {ss : List Slc} (h : OwnLays base w v l ss) (hl : lo ≤ base) (hn : l.length ≤ 140737488355328) (hc : ∀ f ∈ l, f.length ≤ 140737488355328) : LaysAt lo w v l :=
  ⟨ss, h.len, h.row.sl hl (by rw [h.len]; exact hn), fun i hi => (h.each i hi).sl hl (hc _ (nth_mem l i hi))⟩
theorem OwnPrg.at {base lo : Nat} {w : World} {vf vg vl : Value} {p : Prg} (h : OwnPrg base w vf vg vl p) (hl : lo ≤ base) (hp : PrgWf p) : ProgAt lo w vf vg vl p := by
  obtain ⟨ss, hs⟩ := h.funcs
  obtain ⟨rs, hr⟩ := h.lays
  have h1 := hp.funcs
  have h2 := hp.globs
  have h3 := hp.lays
  exact ⟨hs.at hl (by omega) fun f hf => by have := (hp.func f hf).code; omega, h.globs.sl hl (by omega), hr.at hl (by omega) fun r hr' => by have := (hp.lay r hr').1; omega⟩

end Go.Proofs.Ytealeofgfgbheaa

/-
  A row of functions of the call's own whose instructions lie in rows of an argument or in rows of the call's own.
-/
namespace Go.Proofs.Ytealeofgfgbheaa
set_option linter.unusedVariables false
set_option linter.unusedSimpArgs false
open Go.RowKit

theorem nth_set_eqQ {α : Type} [Inhabited α] (l : List α) (i : Nat) (x : α) (h : i < l.length) : nth (l.set i x) i = x := by
  rw [nth_eq _ _ (by simpa using h)]; simp
theorem nth_set_neQ {α : Type} [Inhabited α] (l : List α) (i j : Nat) (x : α) (h : i ≠ j) : nth (l.set i x) j = nth l j := by
  unfold nth; simp [List.getElem?_set_ne h]
structure QFuns (lo : Nat) (w0 wr : World) (v : Value) (l : List Fun) (ss : List Slc) : Prop where
  len : ss.length = l.length
  row : OwnE funE w0.heap.size 41 wr v (l.zip ss)
  code : ∀ i, i < l.length → CodeAt lo w0 (nth ss i).val (nth l i).code ∨ OwnE insE w0.heap.size 43 wr (nth ss i).val (nth l i).code
  low : Below w0.heap.size w0 wr
theorem QFuns.only {lo : Nat} {w0 w w' : World} {v : Value} {l : List Fun} {ss : List Slc} {row : Option Nat} (h : QFuns lo w0 w v l ss) (ho : Only row w w') (hb : Below w0.heap.size w w')
    (h1 : ∀ k, v.ownBlock = some k → some k ≠ row) (h2 : ∀ c : List Ins, ∀ u : Value, OwnE insE w0.heap.size 43 w u c → ∀ k, u.ownBlock = some k → some k ≠ row) : QFuns lo w0 w' v l ss :=
  ⟨h.len, h.row.only ho h1, fun i hi => (h.code i hi).imp id (fun hc => hc.only ho (h2 _ _ hc)), h.low.trans hb⟩
theorem QFuns.onlyBox {lo : Nat} {w0 w w' : World} {v : Value} {l : List Fun} {ss : List Slc} {b : Nat} {t : TypeId} {vs : List Value} (h : QFuns lo w0 w v l ss) (ho : Only (some b) w w') (hb : Below w0.heap.size w w') (hx : BoxAt w b t vs)
    (h1 : 41 ≠ t) (h2 : 43 ≠ t) : QFuns lo w0 w' v l ss :=
  h.only ho hb (h.row.neBox hx h1) (fun _ _ hc => hc.neBox hx h2)
theorem QFuns.fresh {lo : Nat} {w0 w w' : World} {v : Value} {l : List Fun} {ss : List Slc} (h : QFuns lo w0 w v l ss) (hb : Below w.heap.size w w') : QFuns lo w0 w' v l ss :=
  h.only (Only.below hb none) (hb.mono h.low.size) (by simp) (by simp)
theorem QFuns.nil (lo : Nat) (w0 wr : World) (h : Below w0.heap.size w0 wr) : QFuns lo w0 wr (.slice none 0 0) [] [] := ⟨rfl, OwnE.nil _ _ _ _, fun i hi => by simp at hi, h⟩
theorem QFuns.zlen {lo : Nat} {w0 w : World} {v : Value} {l : List Fun} {ss : List Slc} (h : QFuns lo w0 w v l ss) : (l.zip ss).length = l.length := by rw [List.length_zip, h.len]; simp
/-- One more function, appended. -/
theorem QFuns.snoc {lo : Nat} {w0 w w' : World} {v v' : Value} {l : List Fun} {ss : List Slc} {f : Fun} {s : Slc} (h : QFuns lo w0 w v l ss) (hg : w.grownBy w' v.ownBlock) (hrow : OwnE funE w0.heap.size 41 w' v' (l.zip ss ++ [(f, s)]))
    (hc : CodeAt lo w0 s.val f.code ∨ OwnE insE w0.heap.size 43 w s.val f.code) : QFuns lo w0 w' v' (l ++ [f]) (ss ++ [s]) := by
  have hb : Below w0.heap.size w w' := Below.grownE (Below.refl _ _) h.row hg h.low.size (Nat.le_refl _)
  have hO : Only v.ownBlock w w' := Only.grown hg
  have keep : ∀ (c : List Ins) (u : Value), OwnE insE w0.heap.size 43 w u c → OwnE insE w0.heap.size 43 w' u c := fun c u hc => hc.only hO (hc.neRow h.row (by decide))
  refine ⟨by simp [h.len], ?_, fun i hi => ?_, h.low.trans hb⟩
  · rw [List.zip_append h.len.symm]; exact hrow
  · rw [List.length_append, List.length_singleton] at hi
    rcases Nat.lt_or_ge i l.length with h1 | h1
    · rw [nth_snoc_lt _ _ _ (by rw [h.len]; exact h1), nth_snoc_lt _ _ _ h1]
      exact (h.code i h1).imp id (keep _ _)
    · rw [nth_snoc_eq _ _ _ (by rw [h.len]; omega), nth_snoc_eq _ _ _ (by omega)]
      exact hc.imp id (keep _ _)
/-- The code of one function is replaced. -/
theorem QFuns.setCode {lo : Nat} {w0 w : World} {l : List Fun} {ss : List Slc} {g n cap : Nat} {s : Slc} {c : List Ins} (F : Nat) (h : QFuns lo w0 w (.slice (some ⟨g, 0, none⟩) n cap) l ss) (hF : F < l.length)
    (hc : OwnE insE w0.heap.size 43 w s.val c) : QFuns lo w0 (w.setCell ⟨g, F * 4 + 3, none⟩ s.val) (.slice (some ⟨g, 0, none⟩) n cap) (l.set F { nth l F with code := c }) (ss.set F s) := by
  have hgb : w0.heap.size ≤ g := (h.row.lt g rfl).1
  have hS : Only (some g) w (w.setCell ⟨g, F * 4 + 3, none⟩ s.val) := Only.store w g _ _
  have keep : ∀ (c : List Ins) (u : Value), OwnE insE w0.heap.size 43 w u c → OwnE insE w0.heap.size 43 (w.setCell ⟨g, F * 4 + 3, none⟩ s.val) u c := fun c u hc => hc.only hS (hc.neRow h.row (by decide))
  have hput := h.row.put F 3 s.val ({ nth l F with code := c }, s) (by rw [h.zlen]; exact hF) (by decide) (by
    rw [nth_zip l ss F hF (by rw [h.len]; exact hF)]; rfl)
  have hz : (l.zip ss).set F ({ nth l F with code := c }, s) = (l.set F { nth l F with code := c }).zip (ss.set F s) := by
    apply List.ext_getElem?
    intro i
    simp only [List.getElem?_set, List.getElem?_zip_eq_some, List.zip_eq_zipWith, List.getElem?_zipWith, List.length_zipWith, h.len]
    by_cases e : F = i
    · subst e
      simp [hF, h.len]
    · simp [e]
  rw [hz] at hput
  refine ⟨by simp [h.len], hput, fun i hi => ?_, h.low.setCell hgb _⟩
  rw [List.length_set] at hi
  by_cases e : F = i
  · subst e
    rw [nth_set_eqQ _ _ _ hF, nth_set_eqQ _ _ _ (by rw [h.len]; exact hF)]
    exact .inr (keep _ _ hc)
  · rw [nth_set_neQ _ _ _ _ e, nth_set_neQ _ _ _ _ e]
    exact (h.code i hi).imp id (keep _ _)
theorem QFuns.at {lo : Nat} {w0 w : World} {v : Value} {l : List Fun} {ss : List Slc} (h : QFuns lo w0 w v l ss) (hn : l.length ≤ 140737488355328) (hc : ∀ f ∈ l, f.code.length ≤ 140737488355328) : FuncsAt 0 w v l :=
  ⟨ss, h.len, h.row.sl (Nat.zero_le _) (by rw [h.zlen]; exact hn), fun i hi => by
    rcases h.code i hi with hx | hx
    · exact SlE.mono (hx.below h.low) (Nat.zero_le _)
    · exact hx.sl (Nat.zero_le _) (hc _ (nth_mem l i hi))⟩

section
variable {α : Type} [Inhabited α] (E : Enc α) {P : Program}
/-- append of one element onto a row of the call's own: which block has grown. -/
theorem wpList_append_G {w : World} {ops : Array Oper} {rest : List Oper} {o : Oper} {a : Act} {Q : Exit → Act → World → Prop} (hgd : o.guard = none) (s x : Operand) (t : TypeId)
    (ho : o.op = .call { callee := .builtin .append, args := #[s, x], argTypes := #[t, t] })
    (base lo : Nat) (e : TypeId) (z : Value) (bytes : Nat) (ht : P.underlying t = some (.slice e)) (hinfo : (P.info? e).map (fun i => (i.zero, i.size, i.bytes)) = some (some z, E.sz, bytes)) (hz : z.cells.size = E.sz)
    (l : List α) (y : α) (hown : OwnE E base e w (a.eval s) l) (hsrc : SlE E lo w (a.eval x) [y]) (hb : (l.length + 1) * bytes ≤ 140737488355328) (hm : l.length + 1 ≤ maxLen) (hbase : base ≤ w.heap.size)
    (hK : ∀ g cap w', OwnE E base e w' (.slice (some ⟨g, 0, none⟩) (l.length + 1) cap) (l ++ [y]) → w.grownBy w' (a.eval s).ownBlock → base ≤ g → g < w'.heap.size → Below base w w' → wpList P ops Q rest (a.put o.dst (.slice (some ⟨g, 0, none⟩) (l.length + 1) cap)) w') : wpList P ops Q (o :: rest) a w := by
  refine wpList_append_E E hgd s x t ho base lo e z bytes ht hinfo hz l [y] hown hsrc (by simpa using hb) (by simpa using hm) hbase ?_
  intro v' w' h1 h2
  obtain ⟨g, cap, rfl, hg, hl⟩ := h1.open (by simp)
  rw [List.length_append, List.length_singleton] at h1 ⊢
  exact hK g cap w' h1 h2 hg hl (Below.grownE (Below.refl _ _) hown h2 hbase (Nat.le_refl _))
end

end Go.Proofs.Ytealeofgfgbheaa

/-
  slices.Clone, walked.
-/
namespace Go.Proofs.Ytealeofgfgbheaa
set_option linter.unusedVariables false
set_option linter.unusedSimpArgs false
open Go.RowKit

theorem clnIns_info : (Try.prog.info? 43).map (fun i => (i.zero, i.size, i.bytes)) = some (some (.agg #[.int .i64 0, .int .i64 0, .int .i64 0, .int .i64 0, .int .i64 0]), insE.sz, 40) := by kernel_rfl
set_option maxRecDepth 100000 in
set_option maxHeartbeats 2000000 in
theorem clnIns_calls (lo : Nat) (v : Value) (l : List Ins) (w : World) (h : SlE insE lo w v l) (hn : l.length ≤ 1000000) :
    Calls Try.prog 65 #[v] w fun e w' => ∃ v', e = .returned v' ∧ OwnE insE w.heap.size 43 w' v' l ∧ Below w.heap.size w w' := by
  have qT : ∀ (w : World) (a : Option Addr) (n c n' c' : Nat), (binOp .eql 39 (.slice a n c) (.slice none n' c')).run Try.prog w = .ok (.bool a.isNone) w := fun w a n c n' c' => Lib.run_eql_slice_nil w _ _ a n c n' c' Try.underlying39
  have H := hid h
  obtain ⟨a, c, b, o, rfl, hnil, _⟩ := h
  cases a with
  | none =>
    obtain rfl := hnil rfl
    have hl : l = [] := by
      obtain ⟨a', c', b', o', he, _, hp, _⟩ := H.out
      obtain ⟨rfl, _, _⟩ := Value.slice.inj he
      rcases Nat.eq_zero_or_pos l.length with h | h
      · exact List.eq_nil_of_length_eq_zero h
      · have := (hp h).1; cases this
    subst hl
    go_enter Try.func65, Try.ntmps65
    go_wp2_with fail
    go_ret
    exact ⟨_, rfl, OwnE.nil _ _ _ _, Below.refl _ _⟩
  | some ad =>
    go_enter Try.func65, Try.ntmps65
    go_wp2_with (
      at_builtin
      go_loud (refine wpList_append_E insE (o := ⟨some 7, _, _, _, _, _⟩) rfl (.tmp 5) (.tmp 6) 39 rfl w.heap.size lo 43 _ 40 Try.underlying39 clnIns_info rfl [] l (OwnE.lit insE w w.heap.size 43 [] #[] w.heap.size 0 rfl (Nat.le_refl _) rfl rfl (by simp)) (SlE.below H.out ((Below.refl _ _).alloc (Nat.le_refl _) _)) (by simp; omega) (by simp only [maxLen]; simp; omega) (by simp) ?_)
      intro v7 w7 ho7 hg7
      have HO7 := hid ho7
      have HB7 := hid (Below.grownE ((Below.refl w.heap.size w).alloc (Nat.le_refl _) _) (OwnE.lit insE w w.heap.size 43 [] #[] w.heap.size 0 rfl (Nat.le_refl _) rfl rfl (by simp)) hg7 (by simp) (Nat.le_refl _))
      clear ho7 hg7)
    go_ret
    exact ⟨_, rfl, HO7.out, HB7.out⟩

theorem clnFun_info : (Try.prog.info? 41).map (fun i => (i.zero, i.size, i.bytes)) = some (some (.agg #[.string ⟨#[]⟩, .int .i64 0, .int .i64 0, .slice none 0 0]), funE.sz, 56) := by kernel_rfl
theorem clnGlob_info : (Try.prog.info? 60).map (fun i => (i.zero, i.size, i.bytes)) = some (some (.agg #[.string ⟨#[]⟩, .int .i64 0]), globE.sz, 24) := by kernel_rfl
set_option maxRecDepth 100000 in
set_option maxHeartbeats 2000000 in
theorem clnGlob_calls (lo : Nat) (v : Value) (l : List Glob) (w : World) (h : SlE globE lo w v l) (hn : l.length ≤ 1000000) :
    Calls Try.prog 56 #[v] w fun e w' => ∃ v', e = .returned v' ∧ OwnE globE w.heap.size 60 w' v' l ∧ Below w.heap.size w w' := by
  have qT : ∀ (w : World) (a : Option Addr) (n c n' c' : Nat), (binOp .eql 23 (.slice a n c) (.slice none n' c')).run Try.prog w = .ok (.bool a.isNone) w := fun w a n c n' c' => Lib.run_eql_slice_nil w _ _ a n c n' c' Try.underlying23
  have H := hid h
  obtain ⟨a, c, b, o, rfl, hnil, _⟩ := h
  cases a with
  | none =>
    obtain rfl := hnil rfl
    have hl : l = [] := by
      obtain ⟨a', c', b', o', he, _, hp, _⟩ := H.out
      obtain ⟨rfl, _, _⟩ := Value.slice.inj he
      rcases Nat.eq_zero_or_pos l.length with h | h
      · exact List.eq_nil_of_length_eq_zero h
      · have := (hp h).1; cases this
    subst hl
    go_enter Try.func56, Try.ntmps56
    go_wp2_with fail
    go_ret
    exact ⟨_, rfl, OwnE.nil _ _ _ _, Below.refl _ _⟩
  | some ad =>
    go_enter Try.func56, Try.ntmps56
    go_wp2_with (
      at_builtin
      go_loud (refine wpList_append_E globE (o := ⟨some 7, _, _, _, _, _⟩) rfl (.tmp 5) (.tmp 6) 23 rfl w.heap.size lo 60 _ 24 Try.underlying23 clnGlob_info rfl [] l (OwnE.lit globE w w.heap.size 60 [] #[] w.heap.size 0 rfl (Nat.le_refl _) rfl rfl (by simp)) (SlE.below H.out ((Below.refl _ _).alloc (Nat.le_refl _) _)) (by simp; omega) (by simp only [maxLen]; simp; omega) (by simp) ?_)
      intro v7 w7 ho7 hg7
      have HO7 := hid ho7
      have HB7 := hid (Below.grownE ((Below.refl w.heap.size w).alloc (Nat.le_refl _) _) (OwnE.lit globE w w.heap.size 60 [] #[] w.heap.size 0 rfl (Nat.le_refl _) rfl rfl (by simp)) hg7 (by simp) (Nat.le_refl _))
      clear ho7 hg7)
    go_ret
    exact ⟨_, rfl, HO7.out, HB7.out⟩

theorem clnInt_info : (Try.prog.info? 3).map (fun i => (i.zero, i.size, i.bytes)) = some (some (.int .i64 0), intE.sz, 8) := by kernel_rfl
set_option maxRecDepth 100000 in
set_option maxHeartbeats 2000000 in
theorem clnInt_calls (lo : Nat) (v : Value) (l : List Int) (w : World) (h : SlE intE lo w v l) (hn : l.length ≤ 1000000) :
    Calls Try.prog 53 #[v] w fun e w' => ∃ v', e = .returned v' ∧ OwnE intE w.heap.size 3 w' v' l ∧ Below w.heap.size w w' := by
  have qT : ∀ (w : World) (a : Option Addr) (n c n' c' : Nat), (binOp .eql 45 (.slice a n c) (.slice none n' c')).run Try.prog w = .ok (.bool a.isNone) w := fun w a n c n' c' => Lib.run_eql_slice_nil w _ _ a n c n' c' Try.underlying45
  have H := hid h
  obtain ⟨a, c, b, o, rfl, hnil, _⟩ := h
  cases a with
  | none =>
    obtain rfl := hnil rfl
    have hl : l = [] := by
      obtain ⟨a', c', b', o', he, _, hp, _⟩ := H.out
      obtain ⟨rfl, _, _⟩ := Value.slice.inj he
      rcases Nat.eq_zero_or_pos l.length with h | h
      · exact List.eq_nil_of_length_eq_zero h
      · have := (hp h).1; cases this
    subst hl
    go_enter Try.func53, Try.ntmps53
    go_wp2_with fail
    go_ret
    exact ⟨_, rfl, OwnE.nil _ _ _ _, Below.refl _ _⟩
  | some ad =>
    go_enter Try.func53, Try.ntmps53
    go_wp2_with (
      at_builtin
      go_loud (refine wpList_append_E intE (o := ⟨some 7, _, _, _, _, _⟩) rfl (.tmp 5) (.tmp 6) 45 rfl w.heap.size lo 3 _ 8 Try.underlying45 clnInt_info rfl [] l (OwnE.lit intE w w.heap.size 3 [] #[] w.heap.size 0 rfl (Nat.le_refl _) rfl rfl (by simp)) (SlE.below H.out ((Below.refl _ _).alloc (Nat.le_refl _) _)) (by simp; omega) (by simp only [maxLen]; simp; omega) (by simp) ?_)
      intro v7 w7 ho7 hg7
      have HO7 := hid ho7
      have HB7 := hid (Below.grownE ((Below.refl w.heap.size w).alloc (Nat.le_refl _) _) (OwnE.lit intE w w.heap.size 3 [] #[] w.heap.size 0 rfl (Nat.le_refl _) rfl rfl (by simp)) hg7 (by simp) (Nat.le_refl _))
      clear ho7 hg7)
    go_ret
    exact ⟨_, rfl, HO7.out, HB7.out⟩

end Go.Proofs.Ytealeofgfgbheaa
