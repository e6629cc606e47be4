/-
  Equality in plain words; the operator on structs.
-/
import Derived.Test.YtihcngjkflaelaaGreatDoorProg
import Derived.Deep.QuietTactic
import Derived.BigQuiet
import Derived.Laws.StructEq
import Derived.Test.YtihcngjkflaelaaGreatDoorShelf
import Derived.Test.YtihcngjkflaelaaGreatDoorZPAt
namespace Go.Proofs.YtihcngjkflaelaaGreatDoor
set_option linter.unusedVariables false
set_option linter.unusedSimpArgs false
open Go.RowKit

theorem eq_of_nth {α : Type} [Inhabited α] {l r : List α} (hl : l.length = r.length) (h : ∀ i, i < l.length → nth l i = nth r i) : l = r := by
  apply List.ext_getElem hl
  intro i h1 h2
  rw [← nth_eq _ _ h1, ← nth_eq _ _ h2]; exact h i h1

open Classical in
/-- Whether two values are equal. -/
noncomputable def eqC {α : Type} (a b : α) : Bool := decide (a = b)
theorem eqC_true {α : Type} {a b : α} (h : a = b) : eqC a b = true := by simp [eqC, h]
theorem eqC_false {α : Type} {a b : α} (h : ¬ a = b) : eqC a b = false := by simp [eqC, h]

theorem insFields : Tryz.prog.underlying 34 = some (.struct (Tryz.prog.fieldsOf 34)) := by kernel_rfl
theorem insStood : Tryz.prog.stoodInHeld 34 = false := by kernel_rfl
theorem insGuard : Tryz.prog.eqGuardType Tryz.prog.depth 34 = false := by kernel_rfl
def insV (u : Ins) : Value := .agg #[.int .i64 u.op, .int .i64 u.a, .int .i64 u.b, .int .i64 u.c, .int .i64 u.pos]
theorem neqIns (u v : Ins) (w : World) : (binOp .neq 34 (insV u) (insV v)).run Tryz.prog w = .ok (.bool (!eqC u v)) w := by
  unfold insV
  rw [run_neq_struct, run_equalIn_agg w 9999 _ _ _ insFields insStood]
  simp only [Program.fieldsOf, Tryz.underlying34]
  have part0 : ∀ (xs : Array Value) (k : Nat) (x : Int) (w : World), xs[k]? = some (.int .i64 x) → (part 3 xs k).run Tryz.prog w = .ok (.int .i64 x) w := by
    intro xs k x w h
    go_simp
  simp [Op.eqFields, part0, run_equalIn_int w _ 3 .i64 .i64 _ _ Tryz.underlying3]
  by_cases h : u = v
  · subst h; simp [eqC]
  · rw [eqC_false h]
    have hn : ¬ (u.op = v.op ∧ u.a = v.a ∧ u.b = v.b ∧ u.c = v.c ∧ u.pos = v.pos) := by
      rintro ⟨h1, h2, h3, h4, h5⟩
      apply h
      cases u; cases v
      simp only at h1 h2 h3 h4 h5
      subst h1 h2 h3 h4 h5
      rfl
    by_cases h1 : u.op = v.op <;> by_cases h2 : u.a = v.a <;> by_cases h3 : u.b = v.b <;> by_cases h4 : u.c = v.c <;> by_cases h5 : u.pos = v.pos <;> simp [h1, h2, h3, h4, h5]
    exact hn ⟨h1, h2, h3, h4, h5⟩

theorem globFields : Tryz.prog.underlying 45 = some (.struct (Tryz.prog.fieldsOf 45)) := by kernel_rfl
theorem globStood : Tryz.prog.stoodInHeld 45 = false := by kernel_rfl
theorem globGuard : Tryz.prog.eqGuardType Tryz.prog.depth 45 = false := by kernel_rfl
def globV (u : Glob) : Value := .agg #[.string u.name, .int .i64 u.kind]
theorem bytes_eq {a b : ByteArray} : (a.toList == b.toList) = true ↔ a = b := by
  rw [beq_iff_eq, ByteArray.toList_eq, ByteArray.toList_eq]
  exact ⟨fun h => by cases a; cases b; congr 1; exact Array.ext' h, fun h => by rw [h]⟩
theorem neqGlob (u v : Glob) (w : World) : (binOp .neq 45 (globV u) (globV v)).run Tryz.prog w = .ok (.bool (!eqC u v)) w := by
  unfold globV
  rw [run_neq_struct, run_equalIn_agg w 9999 _ _ _ globFields globStood]
  simp only [Program.fieldsOf, Tryz.underlying45]
  have part0 : ∀ (xs : Array Value) (k : Nat) (x : Int) (w : World), xs[k]? = some (.int .i64 x) → (part 3 xs k).run Tryz.prog w = .ok (.int .i64 x) w := by
    intro xs k x w h
    go_simp
  have part1 : ∀ (xs : Array Value) (k : Nat) (x : ByteArray) (w : World), xs[k]? = some (.string x) → (part 9 xs k).run Tryz.prog w = .ok (.string x) w := by
    intro xs k x w h
    go_simp
  have e2 := part1 #[.string u.name, .int .i64 u.kind] 0 u.name w rfl
  have e3 := part1 #[.string v.name, .int .i64 v.kind] 0 v.name w rfl
  have hs := fun w => run_equalIn_string (P := Tryz.prog) w 9998 9 u.name v.name Tryz.underlying9
  simp only [Nat.reduceAdd] at hs
  simp only [Op.eqFields, Sem.run_bind, ne_eq, String.reduceEq, not_false_eq_true, if_true, e2, e3, Result.andThen_ok, hs]
  cases hn : (u.name.toList == v.name.toList) with
  | false =>
    have : ¬ u = v := fun h => by rw [h] at hn; simp at hn
    simp [eqC_false this]
  | true =>
    have h1 := bytes_eq.1 hn
    simp [part0, run_equalIn_int w _ 3 .i64 .i64 _ _ Tryz.underlying3]
    by_cases h2 : u.kind = v.kind
    · have : u = v := by cases u; cases v; simp_all
      simp [h2, eqC_true this]
    · have : ¬ u = v := fun h => h2 (by rw [h])
      simp [h2, eqC_false this]

theorem fun_ext' {f g : Fun} (h1 : f.name = g.name) (h2 : f.params = g.params) (h3 : f.regs = g.regs) (h4 : f.code = g.code) : f = g := by
  cases f; cases g; simp_all

theorem prg_ext {a b : Prg} (h1 : a.funcs = b.funcs) (h2 : a.globals = b.globals) (h3 : a.layouts = b.layouts) (h4 : a.main = b.main) : a = b := by
  cases a; cases b; simp_all

end Go.Proofs.YtihcngjkflaelaaGreatDoor
