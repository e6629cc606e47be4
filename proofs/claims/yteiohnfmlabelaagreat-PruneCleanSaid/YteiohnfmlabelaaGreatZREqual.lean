/-
  How a program of the language reads in memory.
-/
import Derived.Test.YteiohnfmlabelaaGreatProg
import Derived.Deep.QuietTactic
import Derived.BigQuiet
import Derived.Laws.StructEq
import Derived.Test.YteiohnfmlabelaaGreatShelf
import Derived.Laws.EntriesVeiled
import Derived.Test.YteiohnfmlabelaaGreatZAppend
import Derived.Test.YteiohnfmlabelaaGreatZRegion
namespace Go.Proofs.YteiohnfmlabelaaGreat
set_option linter.unusedVariables false
set_option linter.unusedSimpArgs false
open Go.RowKit

structure Slc where
  a : Option Addr
  n : Nat
  c : Nat
instance : Inhabited Slc := ⟨⟨none, 0, 0⟩⟩
def Slc.val (s : Slc) : Value := .slice s.a s.n s.c

def funE : Enc (Fun × Slc) := ⟨4, fun x => [.string x.1.name, .int .i64 x.1.params, .int .i64 x.1.regs, .slice x.2.a x.2.n x.2.c], fun _ => rfl, by simp [Value.oneCell'], by decide⟩
def globE : Enc Glob := ⟨2, fun x => [.string x.name, .int .i64 x.kind], fun _ => rfl, by simp [Value.oneCell'], by decide⟩
def rowE : Enc Slc := ⟨1, fun x => [.slice x.a x.n x.c], fun _ => rfl, by simp [Value.oneCell'], by decide⟩

def FuncsAt (lo : Nat) (w : World) (v : Value) (l : List Fun) : Prop := ∃ ss : List Slc, ss.length = l.length ∧ SlE funE lo w v (l.zip ss) ∧ ∀ i, i < l.length → CodeAt lo w (nth ss i).val (nth l i).code
def GlobsAt (lo : Nat) (w : World) (v : Value) (l : List Glob) : Prop := SlE globE lo w v l
def LaysAt (lo : Nat) (w : World) (v : Value) (l : List (List Int)) : Prop := ∃ ss : List Slc, ss.length = l.length ∧ SlE rowE lo w v ss ∧ ∀ i, i < l.length → IntsAt lo w (nth ss i).val (nth l i)

theorem FuncsAt.keep {lo : Nat} {w w' : World} {v : Value} {l : List Fun} (h : FuncsAt lo w v l) (hk : Keep lo w w') : FuncsAt lo w' v l := by
  obtain ⟨ss, h1, h2, h3⟩ := h
  exact ⟨ss, h1, h2.keep hk, fun i hi => (h3 i hi).keep hk⟩
theorem GlobsAt.keep {lo : Nat} {w w' : World} {v : Value} {l : List Glob} (h : GlobsAt lo w v l) (hk : Keep lo w w') : GlobsAt lo w' v l := SlE.keep h hk
theorem LaysAt.keep {lo : Nat} {w w' : World} {v : Value} {l : List (List Int)} (h : LaysAt lo w v l) (hk : Keep lo w w') : LaysAt lo w' v l := by
  obtain ⟨ss, h1, h2, h3⟩ := h
  exact ⟨ss, h1, h2.keep hk, fun i hi => (h3 i hi).keep hk⟩
theorem FuncsAt.mono {lo lo' : Nat} {w : World} {v : Value} {l : List Fun} (h : FuncsAt lo w v l) (hk : lo' ≤ lo) : FuncsAt lo' w v l := by
  obtain ⟨ss, h1, h2, h3⟩ := h
  exact ⟨ss, h1, h2.mono hk, fun i hi => (h3 i hi).mono hk⟩
theorem GlobsAt.mono {lo lo' : Nat} {w : World} {v : Value} {l : List Glob} (h : GlobsAt lo w v l) (hk : lo' ≤ lo) : GlobsAt lo' w v l := SlE.mono h hk
theorem LaysAt.mono {lo lo' : Nat} {w : World} {v : Value} {l : List (List Int)} (h : LaysAt lo w v l) (hk : lo' ≤ lo) : LaysAt lo' w v l := by
  obtain ⟨ss, h1, h2, h3⟩ := h
  exact ⟨ss, h1, h2.mono hk, fun i hi => (h3 i hi).mono hk⟩

/-- The three slices of a program value. -/
structure ProgAt (lo : Nat) (w : World) (vf vg vl : Value) (p : Prg) : Prop where
  funcs : FuncsAt lo w vf p.funcs
  globs : GlobsAt lo w vg p.globals
  lays : LaysAt lo w vl p.layouts
theorem ProgAt.keep {lo : Nat} {w w' : World} {vf vg vl : Value} {p : Prg} (h : ProgAt lo w vf vg vl p) (hk : Keep lo w w') : ProgAt lo w' vf vg vl p := ⟨h.funcs.keep hk, h.globs.keep hk, h.lays.keep hk⟩
theorem ProgAt.below {lo : Nat} {w w' : World} {vf vg vl : Value} {p : Prg} (h : ProgAt lo w vf vg vl p) (hb : Below w.heap.size w w') : ProgAt lo w' vf vg vl p := h.keep (Keep.below hb)

theorem nth_zip {α β : Type} [Inhabited α] [Inhabited β] (l : List α) (r : List β) (i : Nat) (h : i < l.length) (h2 : i < r.length) : nth (l.zip r) i = (nth l i, nth r i) := by
  rw [nth_eq _ _ (by simp; omega), nth_eq _ _ h, nth_eq _ _ h2, List.getElem_zip]

theorem SlE.len {α : Type} [Inhabited α] {E : Enc α} {lo : Nat} {w : World} {s : Slc} {l : List α} (h : SlE E lo w s.val l) : s.n = l.length := by
  obtain ⟨a, c, b, o, he, _⟩ := h
  exact (Value.slice.inj he).2.1

theorem FuncsAt.open {lo : Nat} {w : World} {v : Value} {l : List Fun} (h : FuncsAt lo w v l) : ∃ a c b o, ∃ S : Nat → Slc, v = .slice a l.length c ∧ (0 < l.length → a = some ⟨b, o, none⟩) ∧
    (∀ i, i < l.length → w.cell? ⟨b, o + i * 4, none⟩ = some (.string (nth l i).name)) ∧ (∀ i, i < l.length → w.cell? ⟨b, o + i * 4 + 1, none⟩ = some (.int .i64 (nth l i).params)) ∧
    (∀ i, i < l.length → w.cell? ⟨b, o + i * 4 + 2, none⟩ = some (.int .i64 (nth l i).regs)) ∧ (∀ i, i < l.length → w.cell? ⟨b, o + i * 4 + 3, none⟩ = some (.slice (S i).a (nth l i).code.length (S i).c)) ∧
    (∀ i, i < l.length → CodeAt lo w (.slice (S i).a (nth l i).code.length (S i).c) (nth l i).code) ∧
    (0 < l.length → b < w.heap.size) ∧ l.length ≤ c ∧ c ≤ maxLen ∧ l.length ≤ 140737488355328 := by
  obtain ⟨ss, e1, hsl, hcode⟩ := h
  have hz : (l.zip ss).length = l.length := by simp [e1]
  have hz' : ∀ i, i < l.length → nth (l.zip ss) i = (nth l i, nth ss i) := fun i hi => nth_zip l ss i hi (by omega)
  have hlen : ∀ i, i < l.length → (nth ss i).n = (nth l i).code.length := fun i hi => SlE.len (hcode i hi)
  unfold SlE at hsl
  rw [hz] at hsl
  obtain ⟨a, c, b, o, rfl, hnil, hp, hc, h1, h2, h3⟩ := hsl
  have hc' : ∀ i k, i < l.length → k < 4 → w.cell? ⟨b, o + i * 4 + k, none⟩ = some (nth (funE.enc (nth l i, nth ss i)) k) := fun i k hi hk => by rw [← hz' i hi]; exact hc i k hi hk
  have c0 : ∀ i, i < l.length → w.cell? ⟨b, o + i * 4, none⟩ = some (.string (nth l i).name) := fun i hi => hc' i 0 hi (by omega)
  refine ⟨a, c, b, o, fun i => nth ss i, rfl, fun h0 => (hp h0).1, c0, fun i hi => hc' i 1 hi (by omega), fun i hi => hc' i 2 hi (by omega), fun i hi => ?_, fun i hi => ?_, fun h0 => World.block_lt_of_cell? _ _ (c0 0 h0), h1, h2, h3⟩
  · have := hc' i 3 hi (by omega); rw [← hlen i hi]; exact this
  · have := hcode i hi; rw [← hlen i hi]; exact this
theorem GlobsAt.open {lo : Nat} {w : World} {v : Value} {l : List Glob} (h : GlobsAt lo w v l) : ∃ a c b o, v = .slice a l.length c ∧ (0 < l.length → a = some ⟨b, o, none⟩) ∧
    (∀ i, i < l.length → w.cell? ⟨b, o + i * 2, none⟩ = some (.string (nth l i).name)) ∧ (∀ i, i < l.length → w.cell? ⟨b, o + i * 2 + 1, none⟩ = some (.int .i64 (nth l i).kind)) ∧
    (0 < l.length → b < w.heap.size) ∧ l.length ≤ c ∧ c ≤ maxLen ∧ l.length ≤ 140737488355328 := by
  obtain ⟨a, c, b, o, rfl, hnil, hp, hc, h1, h2, h3⟩ := h
  have c0 : ∀ i, i < l.length → w.cell? ⟨b, o + i * 2, none⟩ = some (.string (nth l i).name) := fun i hi => by have := hc i 0 hi (by decide); rw [Nat.add_zero] at this; exact this
  exact ⟨a, c, b, o, rfl, fun h0 => (hp h0).1, c0, fun i hi => hc i 1 hi (by decide), fun h0 => World.block_lt_of_cell? _ _ (c0 0 h0), h1, h2, h3⟩
theorem LaysAt.open {lo : Nat} {w : World} {v : Value} {l : List (List Int)} (h : LaysAt lo w v l) : ∃ a c b o, ∃ S : Nat → Slc, v = .slice a l.length c ∧ (0 < l.length → a = some ⟨b, o, none⟩) ∧
    (∀ i, i < l.length → w.cell? ⟨b, o + i, none⟩ = some (.slice (S i).a (nth l i).length (S i).c)) ∧ (∀ i, i < l.length → IntsAt lo w (.slice (S i).a (nth l i).length (S i).c) (nth l i)) ∧
    (0 < l.length → b < w.heap.size) ∧ l.length ≤ c ∧ c ≤ maxLen ∧ l.length ≤ 140737488355328 := by
  obtain ⟨ss, e1, hsl, hrow⟩ := h
  have hlen : ∀ i, i < l.length → (nth ss i).n = (nth l i).length := fun i hi => SlE.len (hrow i hi)
  unfold SlE at hsl
  rw [e1] at hsl
  obtain ⟨a, c, b, o, rfl, hnil, hp, hc, h1, h2, h3⟩ := hsl
  have c0 : ∀ i, i < l.length → w.cell? ⟨b, o + i, none⟩ = some (.slice (nth ss i).a (nth l i).length (nth ss i).c) := fun i hi => by
    have := hc i 0 hi (by decide); rw [Nat.add_zero, show rowE.sz = 1 from rfl, Nat.mul_one] at this; rw [← hlen i hi]; exact this
  exact ⟨a, c, b, o, fun i => nth ss i, rfl, fun h0 => (hp h0).1, c0, fun i hi => by have := hrow i hi; rw [← hlen i hi]; exact this, fun h0 => World.block_lt_of_cell? _ _ (c0 0 h0), h1, h2, h3⟩

end Go.Proofs.YteiohnfmlabelaaGreat

/-
  A block begins with given values.
-/
namespace Go.Proofs.YteiohnfmlabelaaGreat
set_option linter.unusedVariables false
set_option linter.unusedSimpArgs false
open Go.RowKit

theorem cellNewR (w : World) (cs : Array Value) (t : TypeId) (b k : Nat) {u : Value} (hb : b = w.heap.size) (h : cs[k]? = some u) : (w.alloc (.cells cs t)).cell? ⟨b, k, none⟩ = some u := by
  subst hb
  rw [World.cell?_alloc_new]; exact h
/-- The block b begins with the values vs. -/
def RowAt (w : World) (b : Nat) (vs : List Value) : Prop := b < w.heap.size ∧ ∀ (k : Nat) (u : Value), vs[k]? = some u → w.cell? ⟨b, k, none⟩ = some u
theorem RowAt.below {w w' : World} {b : Nat} {vs : List Value} (h : RowAt w b vs) (hb : Below w.heap.size w w') : RowAt w' b vs :=
  ⟨Nat.lt_of_lt_of_le h.1 hb.size, fun k u hu => (hb.cell (p := ⟨b, k, none⟩) h.1).trans (h.2 k u hu)⟩
theorem RowAt.new (w : World) (cs : Array Value) (t : TypeId) (b : Nat) (vs : List Value) (hb : b = w.heap.size) (hv : cs.toList = vs) : RowAt (w.alloc (.cells cs t)) b vs := by
  subst hb hv
  exact ⟨by simp, fun k u hu => cellNewR w cs t _ k rfl (by simpa using hu)⟩

end Go.Proofs.YteiohnfmlabelaaGreat

/-
  Equality in plain words; the operator on structs.
-/
namespace Go.Proofs.YteiohnfmlabelaaGreat
set_option linter.unusedVariables false
set_option linter.unusedSimpArgs false
open Go.RowKit

theorem eq_of_nth {α : Type} [Inhabited α] {l r : List α} (hl : l.length = r.length) (h : ∀ i, i < l.length → nth l i = nth r i) : l = r := by
  apply List.ext_getElem hl
  intro i h1 h2
  rw [← nth_eq _ _ h1, ← nth_eq _ _ h2]; exact h i h1

open Classical in
/-- Whether two values are equal. -/
noncomputable def eqC {α : Type} (a b : α) : Bool := decide (a = b)
theorem eqC_true {α : Type} {a b : α} (h : a = b) : eqC a b = true := by simp [eqC, h]
theorem eqC_false {α : Type} {a b : α} (h : ¬ a = b) : eqC a b = false := by simp [eqC, h]

theorem insFields : Tryz.prog.underlying 39 = some (.struct (Tryz.prog.fieldsOf 39)) := by kernel_rfl
theorem insStood : Tryz.prog.stoodInHeld 39 = false := by kernel_rfl
theorem insGuard : Tryz.prog.eqGuardType Tryz.prog.depth 39 = false := by kernel_rfl
def insV (u : Ins) : Value := .agg #[.int .i64 u.op, .int .i64 u.a, .int .i64 u.b, .int .i64 u.c, .int .i64 u.pos]
theorem neqIns (u v : Ins) (w : World) : (binOp .neq 39 (insV u) (insV v)).run Tryz.prog w = .ok (.bool (!eqC u v)) w := by
  unfold insV
  rw [run_neq_struct, run_equalIn_agg w 9999 _ _ _ insFields insStood]
  simp only [Program.fieldsOf, Tryz.underlying39]
  have part0 : ∀ (xs : Array Value) (k : Nat) (x : Int) (w : World), xs[k]? = some (.int .i64 x) → (part 3 xs k).run Tryz.prog w = .ok (.int .i64 x) w := by
    intro xs k x w h
    go_simp
  simp [Op.eqFields, part0, run_equalIn_int w _ 3 .i64 .i64 _ _ Tryz.underlying3]
  by_cases h : u = v
  · subst h; simp [eqC]
  · rw [eqC_false h]
    have hn : ¬ (u.op = v.op ∧ u.a = v.a ∧ u.b = v.b ∧ u.c = v.c ∧ u.pos = v.pos) := by
      rintro ⟨h1, h2, h3, h4, h5⟩
      apply h
      cases u; cases v
      simp only at h1 h2 h3 h4 h5
      subst h1 h2 h3 h4 h5
      rfl
    by_cases h1 : u.op = v.op <;> by_cases h2 : u.a = v.a <;> by_cases h3 : u.b = v.b <;> by_cases h4 : u.c = v.c <;> by_cases h5 : u.pos = v.pos <;> simp [h1, h2, h3, h4, h5]
    exact hn ⟨h1, h2, h3, h4, h5⟩

theorem globFields : Tryz.prog.underlying 43 = some (.struct (Tryz.prog.fieldsOf 43)) := by kernel_rfl
theorem globStood : Tryz.prog.stoodInHeld 43 = false := by kernel_rfl
theorem globGuard : Tryz.prog.eqGuardType Tryz.prog.depth 43 = false := by kernel_rfl
def globV (u : Glob) : Value := .agg #[.string u.name, .int .i64 u.kind]
theorem bytes_eq {a b : ByteArray} : (a.toList == b.toList) = true ↔ a = b := by
  rw [beq_iff_eq, ByteArray.toList_eq, ByteArray.toList_eq]
  exact ⟨fun h => by cases a; cases b; congr 1; exact Array.ext' h, fun h => by rw [h]⟩
theorem neqGlob (u v : Glob) (w : World) : (binOp .neq 43 (globV u) (globV v)).run Tryz.prog w = .ok (.bool (!eqC u v)) w := by
  unfold globV
  rw [run_neq_struct, run_equalIn_agg w 9999 _ _ _ globFields globStood]
  simp only [Program.fieldsOf, Tryz.underlying43]
  have part0 : ∀ (xs : Array Value) (k : Nat) (x : Int) (w : World), xs[k]? = some (.int .i64 x) → (part 3 xs k).run Tryz.prog w = .ok (.int .i64 x) w := by
    intro xs k x w h
    go_simp
  have part1 : ∀ (xs : Array Value) (k : Nat) (x : ByteArray) (w : World), xs[k]? = some (.string x) → (part 9 xs k).run Tryz.prog w = .ok (.string x) w := by
    intro xs k x w h
    go_simp
  have e2 := part1 #[.string u.name, .int .i64 u.kind] 0 u.name w rfl
  have e3 := part1 #[.string v.name, .int .i64 v.kind] 0 v.name w rfl
  have hs := fun w => run_equalIn_string (P := Tryz.prog) w 9998 9 u.name v.name Tryz.underlying9
  simp only [Nat.reduceAdd] at hs
  simp only [Op.eqFields, Sem.run_bind, ne_eq, String.reduceEq, not_false_eq_true, if_true, e2, e3, Result.andThen_ok, hs]
  cases hn : (u.name.toList == v.name.toList) with
  | false =>
    have : ¬ u = v := fun h => by rw [h] at hn; simp at hn
    simp [eqC_false this]
  | true =>
    have h1 := bytes_eq.1 hn
    simp [part0, run_equalIn_int w _ 3 .i64 .i64 _ _ Tryz.underlying3]
    by_cases h2 : u.kind = v.kind
    · have : u = v := by cases u; cases v; simp_all
      simp [h2, eqC_true this]
    · have : ¬ u = v := fun h => h2 (by rw [h])
      simp [h2, eqC_false this]

theorem fun_ext' {f g : Fun} (h1 : f.name = g.name) (h2 : f.params = g.params) (h3 : f.regs = g.regs) (h4 : f.code = g.code) : f = g := by
  cases f; cases g; simp_all

theorem prg_ext {a b : Prg} (h1 : a.funcs = b.funcs) (h2 : a.globals = b.globals) (h3 : a.layouts = b.layouts) (h4 : a.main = b.main) : a = b := by
  cases a; cases b; simp_all

end Go.Proofs.YteiohnfmlabelaaGreat

namespace Go.Proofs.YteiohnfmlabelaaGreat
set_option linter.unusedVariables false
set_option linter.unusedSimpArgs false
open Go.RowKit

/-- Two lists of ints agree up to k. -/
def agreeTo (l r : List Int) (k : Nat) : Prop := ∀ i, i < k → nth l i = nth r i
def intsEq (l r : List Int) : Bool := decide (l = r)
theorem agree_eq (l r : List Int) (h : l.length = r.length) (hk : agreeTo l r l.length) : l = r := by
  apply List.ext_getElem h
  intro i h1 h2
  have := hk i h1
  rwa [nth_eq _ _ h1, nth_eq _ _ h2] at this

set_option maxHeartbeats 400000 in
theorem ints_calls (lo1 lo2 : Nat) (va vb : Value) (l r : List Int) (w : World) (ha : IntsAt lo1 w va l) (hb : IntsAt lo2 w vb r) :
    Calls Tryz.prog 18 #[va, vb] w fun e w' => e = .returned (.bool (intsEq l r)) ∧ Below w.heap.size w w' := by
  obtain ⟨a1, c1, b1, o1, rfl, p1, q1, k1, _, _, m1, n1⟩ := ha.open
  obtain ⟨a2, c2, b2, o2, rfl, p2, q2, k2, _, _, m2, n2⟩ := hb.open
  by_cases hl : l.length = r.length
  · have HL := hid hl
    have hne : ((l.length : Int) != (r.length : Int)) = false := by simp [hl]
    clear hl
    go_enter Tryz.func18, Tryz.ntmps18
    go_wp2
    go_loopw [5] (fun i wr => ∃ k : Nat, k ≤ l.length ∧ i = .int .i64 k ∧ agreeTo l r k ∧ Below w.heap.size w wr) (fun i _ => l.length - (intOf i).toNat)
    case atStart => exact ⟨0, Nat.zero_le _, rfl, fun i hi => by omega, Below.refl _ _⟩
    case round =>
      obtain ⟨k, hk, rfl, hag, hbl⟩ := hrel
      obtain ⟨hc, hf⟩ := bcell hbl
      by_cases hlt : k < l.length
      · have hr : k < r.length := by have := HL.out; omega
        have e1 := p1 (by omega)
        have e2 := p2 (by omega)
        subst e1 e2
        have d1 := q1 k hlt
        have d2 := q2 k hr
        have d3 := k1 (by omega)
        have d4 := k2 (by omega)
        by_cases hx : nth l k = nth r k
        · have hx' : (nth l k != nth r k) = false := by simp [hx]
          have HX := hid hx
          have HA := hid hag
          clear hx hag p1 p2 q1 q2 k1 k2
          go_wp2
          go_quiet (fail)
          go_wp2
          go_roundw
          case rel =>
            refine ⟨k + 1, by omega, by go_num, ?_, ?_⟩
            · intro i hi
              rcases Nat.lt_or_ge i k with h | h
              · exact HA.out i h
              · obtain rfl : i = k := by omega
                exact HX.out
            · exact below_drewN hbl _
          case measure => simp [intOf]; omega
        · have hx' : (nth l k != nth r k) = true := by simp [hx]
          have HX := hid hx
          clear hx hag p1 p2 q1 q2 k1 k2
          go_wp2
          go_quiet (fail)
          go_wp2
          go_ret
          refine ⟨ret_bool ?_, below_drewN hbl _⟩
          simp only [intsEq]
          symm
          rw [decide_eq_false_iff_not]
          intro h
          exact HX.out (by rw [h])
      · have HA := hid hag
        clear hag
        go_wp2
        go_ret
        refine ⟨ret_bool ?_, hbl⟩
        obtain rfl : k = l.length := by omega
        simp only [intsEq]
        symm
        rw [decide_eq_true_iff]
        exact agree_eq l r HL.out HA.out
  · have hne : ((l.length : Int) != (r.length : Int)) = true := by simp; omega
    have HL := hid hl
    clear hl
    go_enter Tryz.func18, Tryz.ntmps18
    go_wp2
    go_ret
    refine ⟨ret_bool ?_, Below.refl _ _⟩
    simp only [intsEq]
    symm
    rw [decide_eq_false_iff_not]
    intro h
    exact HL.out (by rw [h])

end Go.Proofs.YteiohnfmlabelaaGreat

/-
  Equality of programs, as the document's answer checks it.
-/
namespace Go.Proofs.YteiohnfmlabelaaGreat
set_option linter.unusedVariables false
set_option linter.unusedSimpArgs false
open Go.RowKit

theorem neqb {x y : Int} (h : x = y) : (x != y) = false := by simp [h]
theorem neqb' {x y : Int} (h : ¬ x = y) : (x != y) = true := by simp [h]

set_option maxRecDepth 100000 in
set_option maxHeartbeats 4000000 in
theorem reqFun_calls (lo1 lo2 : Nat) (vc vd : Value) (f g : Fun) (w : World) (hc : CodeAt lo1 w vc f.code) (hd : CodeAt lo2 w vd g.code) :
    Calls Tryz.prog 17 #[.agg #[.string f.name, .int .i64 f.params, .int .i64 f.regs, vc], .agg #[.string g.name, .int .i64 g.params, .int .i64 g.regs, vd]] w fun e w' => e = .returned (.bool (eqC f g)) ∧ Below w.heap.size w w' := by
  obtain ⟨a1, c1, b1, o1, rfl, p1, x0, x1, x2, x3, x4, k1, _, _, m1, n1⟩ := hc.open
  obtain ⟨a2, c2, b2, o2, rfl, p2, y0, y1, y2, y3, y4, k2, _, _, m2, n2⟩ := hd.open
  cases h1 : (f.name.toList == g.name.toList) with
  | false =>
    have g1 : (f.name.toList != g.name.toList) = true := by simp [bne, h1]
    have HR := hid (show eqC f g = false from eqC_false fun he => by rw [he] at h1; simp at h1)
    clear hc hd p1 p2 x0 x1 x2 x3 x4 y0 y1 y2 y3 y4 k1 k2
    go_enter Tryz.func17, Tryz.ntmps17
    go_wp2_with fail
    go_ret
    exact ⟨ret_bool HR.out.symm, ((Below.refl _ _).alloc (Nat.le_refl _) _).alloc (by simp) _⟩
  | true =>
    have g1 : (f.name.toList != g.name.toList) = false := by simp [bne, h1]
    have HN := hid (bytes_eq.1 h1)
    by_cases h2 : f.params = g.params
    · have g2 := neqb h2
      have HP := hid h2
      clear h2
      by_cases h3 : f.regs = g.regs
      · have g3 := neqb h3
        have HG := hid h3
        clear h3
        by_cases h4 : f.code.length = g.code.length
        · have g4 : ((f.code.length : Int) != (g.code.length : Int)) = false := by simp [h4]
          have HL := hid h4
          have HXX := hid (And.intro p1 (And.intro x0 (And.intro x1 (And.intro x2 (And.intro x3 (And.intro x4 k1))))))
          have HY := hid (And.intro p2 (And.intro y0 (And.intro y1 (And.intro y2 (And.intro y3 (And.intro y4 k2))))))
          clear h4 hc hd p1 p2 x0 x1 x2 x3 x4 y0 y1 y2 y3 y4 k1 k2
          go_enter Tryz.func17, Tryz.ntmps17
          go_wp2_with fail
          generalize hW : World.alloc _ _ = W
          have hbW : Below w.heap.size w W := by rw [← hW]; exact ((Below.refl _ _).alloc (Nat.le_refl _) _).alloc (by simp) _
          have R1 := hid (show RowAt W w.heap.size [.string f.name, .int .i64 f.params, .int .i64 f.regs, .slice a1 f.code.length c1] by
            rw [← hW]
            exact (RowAt.new w _ _ _ _ rfl rfl).below ((Below.refl _ _).alloc (Nat.le_refl _) _))
          have R2 := hid (show RowAt W (w.heap.size + 1) [.string g.name, .int .i64 g.params, .int .i64 g.regs, .slice a2 g.code.length c2] by
            rw [← hW]
            exact RowAt.new _ _ _ _ _ (by simp) rfl)
          have HBW := hid hbW
          clear hW hbW
          go_loopw [5] (fun i wr => ∃ k : Nat, k ≤ f.code.length ∧ i = .int .i64 k ∧ (∀ j, j < k → nth f.code j = nth g.code j) ∧ Below w.heap.size w wr ∧ Below W.heap.size W wr) (fun i _ => f.code.length - (intOf i).toNat)
          case atStart => exact ⟨0, Nat.zero_le _, rfl, fun j hj => by omega, HBW.out, Below.refl _ _⟩
          case round =>
            obtain ⟨k, hk, rfl, hag, hbl, hbl2⟩ := hrel
            have R1b := R1.out.below hbl2
            have R2b := R2.out.below hbl2
            have r3 := R1b.2 3 _ rfl
            have q3 := R2b.2 3 _ rfl
            have s5 := R1b.1
            have s6 := R2b.1
            have HB1 := hid hbl
            have HB2 := hid hbl2
            clear R1b R2b
            have HA := hid hag
            clear hag
            by_cases hlt : k < f.code.length
            · have hr : k < g.code.length := by have := HL.out; omega
              obtain ⟨p1, x0, x1, x2, x3, x4, k1⟩ := HXX.out
              obtain ⟨p2, y0, y1, y2, y3, y4, k2⟩ := HY.out
              have e1 := p1 (by omega)
              have e2 := p2 (by omega)
              subst e1 e2
              have s1 := k1 (by omega)
              have s2 := k2 (by omega)
              have d0 := (hbl.cell (p := ⟨b1, _, none⟩) s1).trans (x0 k hlt)
              have d1 := (hbl.cell (p := ⟨b1, _, none⟩) s1).trans (x1 k hlt)
              have d2 := (hbl.cell (p := ⟨b1, _, none⟩) s1).trans (x2 k hlt)
              have d3 := (hbl.cell (p := ⟨b1, _, none⟩) s1).trans (x3 k hlt)
              have d4 := (hbl.cell (p := ⟨b1, _, none⟩) s1).trans (x4 k hlt)
              have f0 := (hbl.cell (p := ⟨b2, _, none⟩) s2).trans (y0 k hr)
              have f1 := (hbl.cell (p := ⟨b2, _, none⟩) s2).trans (y1 k hr)
              have f2 := (hbl.cell (p := ⟨b2, _, none⟩) s2).trans (y2 k hr)
              have f3 := (hbl.cell (p := ⟨b2, _, none⟩) s2).trans (y3 k hr)
              have f4 := (hbl.cell (p := ⟨b2, _, none⟩) s2).trans (y4 k hr)
              have hz := hbl.size
              have s3 : b1 < wr.heap.size := by omega
              have s4 : b2 < wr.heap.size := by omega
              have hlt2 : (k : Int) < f.code.length := by omega
              have hr2 : (k : Int) < g.code.length := by omega
              obtain ⟨u, hu⟩ : ∃ u, nth f.code k = u := ⟨_, rfl⟩
              obtain ⟨v, hv⟩ : ∃ v, nth g.code k = v := ⟨_, rfl⟩
              have HU := hid hu
              have HV := hid hv
              rw [hu] at d0 d1 d2 d3 d4
              rw [hv] at f0 f1 f2 f3 f4
              clear p1 p2 x0 x1 x2 x3 x4 y0 y1 y2 y3 y4 k1 k2 hu hv hz hbl hbl2
              have hneq := neqIns u v
              unfold insV at hneq
              have hgd := insGuard
              cases hx : eqC u v with
              | true =>
                rw [hx] at hneq
                have HX := hid hx
                clear hx
                go_wp2_with fail
                go_quiet (fail)
                go_wp2_with fail
                go_roundw
                case rel =>
                  refine ⟨k + 1, by omega, by go_num, fun j hj => ?_, below_drewN HB1.out _, below_drewN HB2.out _⟩
                  rcases Nat.lt_or_ge j k with h5 | h5
                  · exact HA.out j h5
                  · rw [show j = k by omega, HU.out, HV.out]
                    have h9 := HX.out
                    simpa [eqC] using h9
                case measure => simp [intOf]; omega
              | false =>
                rw [hx] at hneq
                have HX := hid hx
                clear hx
                go_wp2_with fail
                go_quiet (fail)
                go_wp2_with fail
                go_ret
                refine ⟨ret_bool (eqC_false fun he => ?_).symm, below_drewN HB1.out _⟩
                have h9 := HX.out
                rw [← HU.out, ← HV.out, he] at h9
                simp [eqC] at h9
            · clear hbl hbl2
              go_wp2_with fail
              go_ret
              exact ⟨ret_bool (eqC_true (fun_ext' HN.out HP.out HG.out (eq_of_nth HL.out fun j hj => HA.out j (by omega)))).symm, HB1.out⟩
        · have g4 : ((f.code.length : Int) != (g.code.length : Int)) = true := by simp; omega
          have HR := hid (show eqC f g = false from eqC_false fun he => h4 (by rw [he]))
          clear h4 hc hd p1 p2 x0 x1 x2 x3 x4 y0 y1 y2 y3 y4 k1 k2
          go_enter Tryz.func17, Tryz.ntmps17
          go_wp2_with fail
          go_ret
          exact ⟨ret_bool HR.out.symm, ((Below.refl _ _).alloc (Nat.le_refl _) _).alloc (by simp) _⟩
      · have g3 := neqb' h3
        have HR := hid (show eqC f g = false from eqC_false fun he => h3 (by rw [he]))
        clear h3 hc hd p1 p2 x0 x1 x2 x3 x4 y0 y1 y2 y3 y4 k1 k2
        go_enter Tryz.func17, Tryz.ntmps17
        go_wp2_with fail
        go_ret
        exact ⟨ret_bool HR.out.symm, ((Below.refl _ _).alloc (Nat.le_refl _) _).alloc (by simp) _⟩
    · have g2 := neqb' h2
      have HR := hid (show eqC f g = false from eqC_false fun he => h2 (by rw [he]))
      clear h2 hc hd p1 p2 x0 x1 x2 x3 x4 y0 y1 y2 y3 y4 k1 k2
      go_enter Tryz.func17, Tryz.ntmps17
      go_wp2_with fail
      go_ret
      exact ⟨ret_bool HR.out.symm, ((Below.refl _ _).alloc (Nat.le_refl _) _).alloc (by simp) _⟩

end Go.Proofs.YteiohnfmlabelaaGreat
