/-
  How a program of the language reads in memory.
-/
import Derived.Test.YtealeofgfgbheaaProg
import Derived.Deep.QuietTactic
import Derived.BigQuiet
import Derived.Laws.StructEq
import Derived.Test.YtealeofgfgbheaaShelf
import Derived.Test.YtealeofgfgbheaaZAppend
namespace Go.Proofs.Ytealeofgfgbheaa
set_option linter.unusedVariables false
set_option linter.unusedSimpArgs false
open Go.RowKit

structure Slc where
  a : Option Addr
  n : Nat
  c : Nat
instance : Inhabited Slc := ⟨⟨none, 0, 0⟩⟩
def Slc.val (s : Slc) : Value := .slice s.a s.n s.c

def funE : Enc (Fun × Slc) := ⟨4, fun x => [.string x.1.name, .int .i64 x.1.params, .int .i64 x.1.regs, .slice x.2.a x.2.n x.2.c], fun _ => rfl, by simp [Value.oneCell'], by decide⟩
def globE : Enc Glob := ⟨2, fun x => [.string x.name, .int .i64 x.kind], fun _ => rfl, by simp [Value.oneCell'], by decide⟩
def rowE : Enc Slc := ⟨1, fun x => [.slice x.a x.n x.c], fun _ => rfl, by simp [Value.oneCell'], by decide⟩

def FuncsAt (lo : Nat) (w : World) (v : Value) (l : List Fun) : Prop := ∃ ss : List Slc, ss.length = l.length ∧ SlE funE lo w v (l.zip ss) ∧ ∀ i, i < l.length → CodeAt lo w (nth ss i).val (nth l i).code
def GlobsAt (lo : Nat) (w : World) (v : Value) (l : List Glob) : Prop := SlE globE lo w v l
def LaysAt (lo : Nat) (w : World) (v : Value) (l : List (List Int)) : Prop := ∃ ss : List Slc, ss.length = l.length ∧ SlE rowE lo w v ss ∧ ∀ i, i < l.length → IntsAt lo w (nth ss i).val (nth l i)

theorem FuncsAt.keep {lo : Nat} {w w' : World} {v : Value} {l : List Fun} (h : FuncsAt lo w v l) (hk : Keep lo w w') : FuncsAt lo w' v l := by
  obtain ⟨ss, h1, h2, h3⟩ := h
  exact ⟨ss, h1, h2.keep hk, fun i hi => (h3 i hi).keep hk⟩
theorem GlobsAt.keep {lo : Nat} {w w' : World} {v : Value} {l : List Glob} (h : GlobsAt lo w v l) (hk : Keep lo w w') : GlobsAt lo w' v l := SlE.keep h hk
theorem LaysAt.keep {lo : Nat} {w w' : World} {v : Value} {l : List (List Int)} (h : LaysAt lo w v l) (hk : Keep lo w w') : LaysAt lo w' v l := by
  obtain ⟨ss, h1, h2, h3⟩ := h
  exact ⟨ss, h1, h2.keep hk, fun i hi => (h3 i hi).keep hk⟩
theorem FuncsAt.mono {lo lo' : Nat} {w : World} {v : Value} {l : List Fun} (h : FuncsAt lo w v l) (hk : lo' ≤ lo) : FuncsAt lo' w v l := by
  obtain ⟨ss, h1, h2, h3⟩ := h
  exact ⟨ss, h1, h2.mono hk, fun i hi => (h3 i hi).mono hk⟩
theorem GlobsAt.mono {lo lo' : Nat} {w : World} {v : Value} {l : List Glob} (h : GlobsAt lo w v l) (hk : lo' ≤ lo) : GlobsAt lo' w v l := SlE.mono h hk
theorem LaysAt.mono {lo lo' : Nat} {w : World} {v : Value} {l : List (List Int)} (h : LaysAt lo w v l) (hk : lo' ≤ lo) : LaysAt lo' w v l := by
  obtain ⟨ss, h1, h2, h3⟩ := h
  exact ⟨ss, h1, h2.mono hk, fun i hi => (h3 i hi).mono hk⟩

/-- The three slices of a program value. -/
structure ProgAt (lo : Nat) (w : World) (vf vg vl : Value) (p : Prg) : Prop where
  funcs : FuncsAt lo w vf p.funcs
  globs : GlobsAt lo w vg p.globals
  lays : LaysAt lo w vl p.layouts
theorem ProgAt.keep {lo : Nat} {w w' : World} {vf vg vl : Value} {p : Prg} (h : ProgAt lo w vf vg vl p) (hk : Keep lo w w') : ProgAt lo w' vf vg vl p := ⟨h.funcs.keep hk, h.globs.keep hk, h.lays.keep hk⟩
theorem ProgAt.below {lo : Nat} {w w' : World} {vf vg vl : Value} {p : Prg} (h : ProgAt lo w vf vg vl p) (hb : Below w.heap.size w w') : ProgAt lo w' vf vg vl p := h.keep (Keep.below hb)

theorem nth_zip {α β : Type} [Inhabited α] [Inhabited β] (l : List α) (r : List β) (i : Nat) (h : i < l.length) (h2 : i < r.length) : nth (l.zip r) i = (nth l i, nth r i) := by
  rw [nth_eq _ _ (by simp; omega), nth_eq _ _ h, nth_eq _ _ h2, List.getElem_zip]

theorem SlE.len {α : Type} [Inhabited α] {E : Enc α} {lo : Nat} {w : World} {s : Slc} {l : List α} (h : SlE E lo w s.val l) : s.n = l.length := by
  obtain ⟨a, c, b, o, he, _⟩ := h
  exact (Value.slice.inj he).2.1

theorem FuncsAt.open {lo : Nat} {w : World} {v : Value} {l : List Fun} (h : FuncsAt lo w v l) : ∃ a c b o, ∃ S : Nat → Slc, v = .slice a l.length c ∧ (0 < l.length → a = some ⟨b, o, none⟩) ∧
    (∀ i, i < l.length → w.cell? ⟨b, o + i * 4, none⟩ = some (.string (nth l i).name)) ∧ (∀ i, i < l.length → w.cell? ⟨b, o + i * 4 + 1, none⟩ = some (.int .i64 (nth l i).params)) ∧
    (∀ i, i < l.length → w.cell? ⟨b, o + i * 4 + 2, none⟩ = some (.int .i64 (nth l i).regs)) ∧ (∀ i, i < l.length → w.cell? ⟨b, o + i * 4 + 3, none⟩ = some (.slice (S i).a (nth l i).code.length (S i).c)) ∧
    (∀ i, i < l.length → CodeAt lo w (.slice (S i).a (nth l i).code.length (S i).c) (nth l i).code) ∧
    (0 < l.length → b < w.heap.size) ∧ l.length ≤ c ∧ c ≤ maxLen ∧ l.length ≤ 140737488355328 := by
  obtain ⟨ss, e1, hsl, hcode⟩ := h
  have hz : (l.zip ss).length = l.length := by simp [e1]
  have hz' : ∀ i, i < l.length → nth (l.zip ss) i = (nth l i, nth ss i) := fun i hi => nth_zip l ss i hi (by omega)
  have hlen : ∀ i, i < l.length → (nth ss i).n = (nth l i).code.length := fun i hi => SlE.len (hcode i hi)
  unfold SlE at hsl
  rw [hz] at hsl
  obtain ⟨a, c, b, o, rfl, hnil, hp, hc, h1, h2, h3⟩ := hsl
  have hc' : ∀ i k, i < l.length → k < 4 → w.cell? ⟨b, o + i * 4 + k, none⟩ = some (nth (funE.enc (nth l i, nth ss i)) k) := fun i k hi hk => by rw [← hz' i hi]; exact hc i k hi hk
  have c0 : ∀ i, i < l.length → w.cell? ⟨b, o + i * 4, none⟩ = some (.string (nth l i).name) := fun i hi => hc' i 0 hi (by omega)
  refine ⟨a, c, b, o, fun i => nth ss i, rfl, fun h0 => (hp h0).1, c0, fun i hi => hc' i 1 hi (by omega), fun i hi => hc' i 2 hi (by omega), fun i hi => ?_, fun i hi => ?_, fun h0 => World.block_lt_of_cell? _ _ (c0 0 h0), h1, h2, h3⟩
  · have := hc' i 3 hi (by omega); rw [← hlen i hi]; exact this
  · have := hcode i hi; rw [← hlen i hi]; exact this
theorem GlobsAt.open {lo : Nat} {w : World} {v : Value} {l : List Glob} (h : GlobsAt lo w v l) : ∃ a c b o, v = .slice a l.length c ∧ (0 < l.length → a = some ⟨b, o, none⟩) ∧
    (∀ i, i < l.length → w.cell? ⟨b, o + i * 2, none⟩ = some (.string (nth l i).name)) ∧ (∀ i, i < l.length → w.cell? ⟨b, o + i * 2 + 1, none⟩ = some (.int .i64 (nth l i).kind)) ∧
    (0 < l.length → b < w.heap.size) ∧ l.length ≤ c ∧ c ≤ maxLen ∧ l.length ≤ 140737488355328 := by
  obtain ⟨a, c, b, o, rfl, hnil, hp, hc, h1, h2, h3⟩ := h
  have c0 : ∀ i, i < l.length → w.cell? ⟨b, o + i * 2, none⟩ = some (.string (nth l i).name) := fun i hi => by have := hc i 0 hi (by decide); rw [Nat.add_zero] at this; exact this
  exact ⟨a, c, b, o, rfl, fun h0 => (hp h0).1, c0, fun i hi => hc i 1 hi (by decide), fun h0 => World.block_lt_of_cell? _ _ (c0 0 h0), h1, h2, h3⟩
theorem LaysAt.open {lo : Nat} {w : World} {v : Value} {l : List (List Int)} (h : LaysAt lo w v l) : ∃ a c b o, ∃ S : Nat → Slc, v = .slice a l.length c ∧ (0 < l.length → a = some ⟨b, o, none⟩) ∧
    (∀ i, i < l.length → w.cell? ⟨b, o + i, none⟩ = some (.slice (S i).a (nth l i).length (S i).c)) ∧ (∀ i, i < l.length → IntsAt lo w (.slice (S i).a (nth l i).length (S i).c) (nth l i)) ∧
    (0 < l.length → b < w.heap.size) ∧ l.length ≤ c ∧ c ≤ maxLen ∧ l.length ≤ 140737488355328 := by
  obtain ⟨ss, e1, hsl, hrow⟩ := h
  have hlen : ∀ i, i < l.length → (nth ss i).n = (nth l i).length := fun i hi => SlE.len (hrow i hi)
  unfold SlE at hsl
  rw [e1] at hsl
  obtain ⟨a, c, b, o, rfl, hnil, hp, hc, h1, h2, h3⟩ := hsl
  have c0 : ∀ i, i < l.length → w.cell? ⟨b, o + i, none⟩ = some (.slice (nth ss i).a (nth l i).length (nth ss i).c) := fun i hi => by
    have := hc i 0 hi (by decide); rw [Nat.add_zero, show rowE.sz = 1 from rfl, Nat.mul_one] at this; rw [← hlen i hi]; exact this
  exact ⟨a, c, b, o, fun i => nth ss i, rfl, fun h0 => (hp h0).1, c0, fun i hi => by have := hrow i hi; rw [← hlen i hi]; exact this, fun h0 => World.block_lt_of_cell? _ _ (c0 0 h0), h1, h2, h3⟩

end Go.Proofs.Ytealeofgfgbheaa

/-
  Equality in plain words; the operator on structs.
-/
namespace Go.Proofs.Ytealeofgfgbheaa
set_option linter.unusedVariables false
set_option linter.unusedSimpArgs false
open Go.RowKit

theorem eq_of_nth {α : Type} [Inhabited α] {l r : List α} (hl : l.length = r.length) (h : ∀ i, i < l.length → nth l i = nth r i) : l = r := by
  apply List.ext_getElem hl
  intro i h1 h2
  rw [← nth_eq _ _ h1, ← nth_eq _ _ h2]; exact h i h1

open Classical in
/-- Whether two values are equal. -/
noncomputable def eqC {α : Type} (a b : α) : Bool := decide (a = b)
theorem eqC_true {α : Type} {a b : α} (h : a = b) : eqC a b = true := by simp [eqC, h]
theorem eqC_false {α : Type} {a b : α} (h : ¬ a = b) : eqC a b = false := by simp [eqC, h]

theorem insFields : Try.prog.underlying 43 = some (.struct (Try.prog.fieldsOf 43)) := by kernel_rfl
theorem insStood : Try.prog.stoodInHeld 43 = false := by kernel_rfl
theorem insGuard : Try.prog.eqGuardType Try.prog.depth 43 = false := by kernel_rfl
def insV (u : Ins) : Value := .agg #[.int .i64 u.op, .int .i64 u.a, .int .i64 u.b, .int .i64 u.c, .int .i64 u.pos]
theorem neqIns (u v : Ins) (w : World) : (binOp .neq 43 (insV u) (insV v)).run Try.prog w = .ok (.bool (!eqC u v)) w := by
  unfold insV
  rw [run_neq_struct, run_equalIn_agg w 9999 _ _ _ insFields insStood]
  simp only [Program.fieldsOf, Try.underlying43]
  have part0 : ∀ (xs : Array Value) (k : Nat) (x : Int) (w : World), xs[k]? = some (.int .i64 x) → (part 3 xs k).run Try.prog w = .ok (.int .i64 x) w := by
    intro xs k x w h
    go_simp
  simp [Op.eqFields, part0, run_equalIn_int w _ 3 .i64 .i64 _ _ Try.underlying3]
  by_cases h : u = v
  · subst h; simp [eqC]
  · rw [eqC_false h]
    have hn : ¬ (u.op = v.op ∧ u.a = v.a ∧ u.b = v.b ∧ u.c = v.c ∧ u.pos = v.pos) := by
      rintro ⟨h1, h2, h3, h4, h5⟩
      apply h
      cases u; cases v
      simp only at h1 h2 h3 h4 h5
      subst h1 h2 h3 h4 h5
      rfl
    by_cases h1 : u.op = v.op <;> by_cases h2 : u.a = v.a <;> by_cases h3 : u.b = v.b <;> by_cases h4 : u.c = v.c <;> by_cases h5 : u.pos = v.pos <;> simp [h1, h2, h3, h4, h5]
    exact hn ⟨h1, h2, h3, h4, h5⟩

theorem globFields : Try.prog.underlying 60 = some (.struct (Try.prog.fieldsOf 60)) := by kernel_rfl
theorem globStood : Try.prog.stoodInHeld 60 = false := by kernel_rfl
theorem globGuard : Try.prog.eqGuardType Try.prog.depth 60 = false := by kernel_rfl
def globV (u : Glob) : Value := .agg #[.string u.name, .int .i64 u.kind]
theorem bytes_eq {a b : ByteArray} : (a.toList == b.toList) = true ↔ a = b := by
  rw [beq_iff_eq, ByteArray.toList_eq, ByteArray.toList_eq]
  exact ⟨fun h => by cases a; cases b; congr 1; exact Array.ext' h, fun h => by rw [h]⟩
theorem neqGlob (u v : Glob) (w : World) : (binOp .neq 60 (globV u) (globV v)).run Try.prog w = .ok (.bool (!eqC u v)) w := by
  unfold globV
  rw [run_neq_struct, run_equalIn_agg w 9999 _ _ _ globFields globStood]
  simp only [Program.fieldsOf, Try.underlying60]
  have part0 : ∀ (xs : Array Value) (k : Nat) (x : Int) (w : World), xs[k]? = some (.int .i64 x) → (part 3 xs k).run Try.prog w = .ok (.int .i64 x) w := by
    intro xs k x w h
    go_simp
  have part1 : ∀ (xs : Array Value) (k : Nat) (x : ByteArray) (w : World), xs[k]? = some (.string x) → (part 9 xs k).run Try.prog w = .ok (.string x) w := by
    intro xs k x w h
    go_simp
  have e2 := part1 #[.string u.name, .int .i64 u.kind] 0 u.name w rfl
  have e3 := part1 #[.string v.name, .int .i64 v.kind] 0 v.name w rfl
  have hs := fun w => run_equalIn_string (P := Try.prog) w 9998 9 u.name v.name Try.underlying9
  simp only [Nat.reduceAdd] at hs
  simp only [Op.eqFields, Sem.run_bind, ne_eq, String.reduceEq, not_false_eq_true, if_true, e2, e3, Result.andThen_ok, hs]
  cases hn : (u.name.toList == v.name.toList) with
  | false =>
    have : ¬ u = v := fun h => by rw [h] at hn; simp at hn
    simp [eqC_false this]
  | true =>
    have h1 := bytes_eq.1 hn
    simp [part0, run_equalIn_int w _ 3 .i64 .i64 _ _ Try.underlying3]
    by_cases h2 : u.kind = v.kind
    · have : u = v := by cases u; cases v; simp_all
      simp [h2, eqC_true this]
    · have : ¬ u = v := fun h => h2 (by rw [h])
      simp [h2, eqC_false this]

theorem fun_ext' {f g : Fun} (h1 : f.name = g.name) (h2 : f.params = g.params) (h3 : f.regs = g.regs) (h4 : f.code = g.code) : f = g := by
  cases f; cases g; simp_all

theorem prg_ext {a b : Prg} (h1 : a.funcs = b.funcs) (h2 : a.globals = b.globals) (h3 : a.layouts = b.layouts) (h4 : a.main = b.main) : a = b := by
  cases a; cases b; simp_all

end Go.Proofs.Ytealeofgfgbheaa
