/-
  Data of the program under proof as plain Lean types, and the predicates that say how a value reads in a world.
-/
import Derived.WalkKit
import Derived.WalkSpells
import Derived.WalkLawsBesides
import Derived.Lib.SlicesCompact
namespace Go.Proofs.Ytealeofgfgbheaa
set_option linter.unusedVariables false
set_option linter.unusedSimpArgs false
open Go.RowKit

theorem hid {p : Prop} (h : p) : Hid p := h

/-- The i-th element; the default beyond the end. Not unfolded by the walk. -/
def nth {α : Type} [Inhabited α] (l : List α) (i : Nat) : α := l.getD i default

theorem nth_eq {α : Type} [Inhabited α] (l : List α) (i : Nat) (h : i < l.length) : nth l i = l[i] := by simp [nth, h]
theorem nth_append_left {α : Type} [Inhabited α] (l r : List α) (i : Nat) (h : i < l.length) : nth (l ++ r) i = nth l i := by
  rw [nth_eq _ _ (by simp; omega), nth_eq _ _ h, List.getElem_append_left h]
theorem nth_mem {α : Type} [Inhabited α] (l : List α) (i : Nat) (h : i < l.length) : nth l i ∈ l := by
  rw [nth_eq _ _ h]; exact List.getElem_mem h
theorem nth_map {α β : Type} [Inhabited α] [Inhabited β] (f : α → β) (l : List α) (i : Nat) (h : i < l.length) : nth (l.map f) i = f (nth l i) := by
  rw [nth_eq _ _ (by simpa using h), nth_eq _ _ h, List.getElem_map]

theorem nth_take {α : Type} [Inhabited α] (l : List α) (i k : Nat) (h : i < k) : nth (l.take k) i = nth l i := by simp [nth, List.getElem?_take, h]
theorem nth_drop {α : Type} [Inhabited α] (l : List α) (i k : Nat) : nth (l.drop k) i = nth l (k + i) := by simp [nth]

theorem upto_succ {p : Nat → Prop} {k : Nat} (h : ∀ j, j < k → p j) (hk : p k) : ∀ j, j < k + 1 → p j := fun j hj => by
  rcases Nat.lt_or_ge j k with h1 | h1
  · exact h j h1
  · obtain rfl : j = k := by omega
    exact hk

structure Ins where
  op : Int
  a : Int
  b : Int
  c : Int
  pos : Int
instance : Inhabited Ins := ⟨⟨0, 0, 0, 0, 0⟩⟩

structure Fun where
  name : ByteArray
  params : Int
  regs : Int
  code : List Ins
instance : Inhabited Fun := ⟨⟨ByteArray.empty, 0, 0, []⟩⟩

structure Glob where
  name : ByteArray
  kind : Int
instance : Inhabited Glob := ⟨⟨ByteArray.empty, 0⟩⟩

structure Prg where
  funcs : List Fun
  globals : List Glob
  layouts : List (List Int)
  main : Int
instance : Inhabited Prg := ⟨⟨[], [], [], 0⟩⟩

/-- The range of int. Behind a name: the numerals are long. -/
def I64 (x : Int) : Prop := -9223372036854775808 ≤ x ∧ x ≤ 9223372036854775807

/-- A slice whose elements take sz cells: cell k of element i is 'cell i k'; all in blocks from lo on. -/
def SlAt (sz lo : Nat) (w : World) (v : Value) (n : Nat) (cell : Nat → Nat → Value) : Prop :=
  ∃ a c b o, v = .slice a n c ∧ (a = none → c = 0) ∧ (0 < n → a = some ⟨b, o, none⟩ ∧ lo ≤ b) ∧ (∀ i k, i < n → k < sz → w.cell? ⟨b, o + i * sz + k, none⟩ = some (cell i k)) ∧ n ≤ c ∧ c ≤ maxLen ∧ n ≤ 140737488355328

/-- The blocks from lo on are as they were. -/
def Keep (lo : Nat) (w w' : World) : Prop := ∀ k, lo ≤ k → k < w.heap.size → w'.heap[k]? = w.heap[k]?

theorem Keep.refl (lo : Nat) (w : World) : Keep lo w w := fun _ _ _ => rfl
theorem Keep.mono {lo lo' : Nat} {w w' : World} (h : Keep lo w w') (hl : lo ≤ lo') : Keep lo' w w' := fun k hk => h k (by omega)
theorem Keep.below {lo : Nat} {w w' : World} (h : Below w.heap.size w w') : Keep lo w w' := fun k _ hk => h.block k hk
theorem Keep.setCell {lo : Nat} {w : World} {p : Addr} (u : Value) (h : p.block < lo) : Keep lo w (w.setCell p u) := fun k hk _ => Below.heap_setCell _ _ _ _ (by omega)

theorem SlAt.keep {sz lo : Nat} {w w' : World} {v : Value} {n : Nat} {f : Nat → Nat → Value} (h : SlAt sz lo w v n f) (hk : Keep lo w w') : SlAt sz lo w' v n f := by
  obtain ⟨a, c, b, o, rfl, hnil, hp, hc, h1, h2, h3⟩ := h
  refine ⟨a, c, b, o, rfl, hnil, hp, fun i k hi hk' => ?_, h1, h2, h3⟩
  have hx := hc i k hi hk'
  have hlt := World.block_lt_of_cell? _ _ hx
  rw [World.cell?_of_block (w := w) (hk b (hp (by omega)).2 hlt)]
  exact hx
theorem SlAt.below {sz lo : Nat} {w w' : World} {v : Value} {n : Nat} {f : Nat → Nat → Value} (h : SlAt sz lo w v n f) (hb : Below w.heap.size w w') : SlAt sz lo w' v n f := h.keep (Keep.below hb)
theorem SlAt.mono {sz lo lo' : Nat} {w : World} {v : Value} {n : Nat} {f : Nat → Nat → Value} (h : SlAt sz lo w v n f) (hl : lo' ≤ lo) : SlAt sz lo' w v n f := by
  obtain ⟨a, c, b, o, rfl, hnil, hp, r⟩ := h
  exact ⟨a, c, b, o, rfl, hnil, fun h0 => ⟨(hp h0).1, Nat.le_trans hl (hp h0).2⟩, r⟩
theorem SlAt.congr {sz lo : Nat} {w : World} {v : Value} {n : Nat} {f g : Nat → Nat → Value} (h : SlAt sz lo w v n f) (e : ∀ i k, i < n → k < sz → f i k = g i k) : SlAt sz lo w v n g := by
  obtain ⟨a, c, b, o, rfl, hnil, hp, hc, r⟩ := h
  exact ⟨a, c, b, o, rfl, hnil, hp, fun i k hi hk => by rw [hc i k hi hk, e i k hi hk], r⟩
theorem SlAt.nil (sz lo : Nat) (w : World) (f : Nat → Nat → Value) : SlAt sz lo w (.slice none 0 0) 0 f :=
  ⟨none, 0, 0, 0, rfl, fun _ => rfl, fun h => by omega, fun i k hi => by omega, by omega, by simp [maxLen], by omega⟩

/-- What an owned row reads as. -/
theorem SlAt.ofOwn {sz base lo : Nat} {e : TypeId} {w : World} {v : Value} {n : Nat} {xs : List Value} (h : w.ownsRow base e sz v n xs) (hl : lo ≤ base) (hn : n ≤ 140737488355328) : SlAt sz lo w v n (fun i k => nth xs (i * sz + k)) := by
  rcases h.2 with ⟨rfl, rfl⟩ | ⟨g, cap, cur, rfl, hb, hg, hnc, hcm, hcs, ht⟩
  · exact SlAt.nil sz lo w _
  · refine ⟨_, _, g, 0, rfl, (fun h => by cases h), fun _ => ⟨rfl, Nat.le_trans hl hb⟩, fun i k hi hk => ?_, hnc, hcm, hn⟩
    have hj : i * sz + k < n * sz := by
      have : i * sz + sz ≤ n * sz := by rw [← Nat.succ_mul]; exact Nat.mul_le_mul_right _ hi
      omega
    have := h.cellAt (i * sz + k) hj
    rw [Nat.zero_add, this]
    show _ = some (nth xs (i * sz + k))
    rw [nth_eq _ _ (by rw [h.1]; exact hj)]
    simp [h.1, hj]

/-- How an element of a slice lies in cells: sz of them. -/
structure Enc (α : Type) where
  sz : Nat
  enc : α → List Value
  len : ∀ x, (enc x).length = sz
  one : ∀ x, ∀ u ∈ enc x, u.oneCell' = true
  pos : 0 < sz

def intE : Enc Int := ⟨1, fun x => [.int .i64 x], fun _ => rfl, by simp [Value.oneCell'], by decide⟩
def boolE : Enc Bool := ⟨1, fun x => [.bool x], fun _ => rfl, by simp [Value.oneCell'], by decide⟩
def insE : Enc Ins := ⟨5, fun x => [.int .i64 x.op, .int .i64 x.a, .int .i64 x.b, .int .i64 x.c, .int .i64 x.pos], fun _ => rfl, by simp [Value.oneCell'], by decide⟩

/-- A slice that reads as the list l; its blocks from lo on. -/
def SlE {α : Type} [Inhabited α] (E : Enc α) (lo : Nat) (w : World) (v : Value) (l : List α) : Prop := SlAt E.sz lo w v l.length (fun i k => nth (E.enc (nth l i)) k)
/-- A slice that the call owns, from block base on; e: the element type. -/
def OwnE {α : Type} (E : Enc α) (base : Nat) (e : TypeId) (w : World) (v : Value) (l : List α) : Prop := w.ownsRow base e E.sz v l.length (l.flatMap E.enc)

theorem SlE.below {α : Type} [Inhabited α] {E : Enc α} {lo : Nat} {w w' : World} {v : Value} {l : List α} (h : SlE E lo w v l) (hb : Below w.heap.size w w') : SlE E lo w' v l := SlAt.below h hb
theorem SlE.keep {α : Type} [Inhabited α] {E : Enc α} {lo : Nat} {w w' : World} {v : Value} {l : List α} (h : SlE E lo w v l) (hb : Keep lo w w') : SlE E lo w' v l := SlAt.keep h hb
theorem SlE.mono {α : Type} [Inhabited α] {E : Enc α} {lo lo' : Nat} {w : World} {v : Value} {l : List α} (h : SlE E lo w v l) (hl : lo' ≤ lo) : SlE E lo' w v l := SlAt.mono h hl
theorem SlE.nil {α : Type} [Inhabited α] (E : Enc α) (lo : Nat) (w : World) : SlE E lo w (.slice none 0 0) ([] : List α) := SlAt.nil _ _ _ _

theorem flatMap_length {α : Type} (E : Enc α) (l : List α) : (l.flatMap E.enc).length = l.length * E.sz := by
  induction l with
  | nil => simp
  | cons x l ih => simp only [List.flatMap_cons, List.length_append, E.len, ih, List.length_cons, Nat.succ_mul]; omega
theorem flatMap_nth {α : Type} [Inhabited α] (E : Enc α) (l : List α) (i k : Nat) (hi : i < l.length) (hk : k < E.sz) : nth (l.flatMap E.enc) (i * E.sz + k) = nth (E.enc (nth l i)) k := by
  induction l generalizing i with
  | nil => simp at hi
  | cons x l ih =>
    have hx := E.len x
    have hb : i * E.sz + k < ((x :: l).flatMap E.enc).length := by
      rw [flatMap_length]
      have : i * E.sz + E.sz ≤ (x :: l).length * E.sz := by rw [← Nat.succ_mul]; exact Nat.mul_le_mul_right _ hi
      omega
    cases i with
    | zero =>
      simp only [Nat.zero_mul, Nat.zero_add, List.flatMap_cons]
      rw [nth_append_left _ _ _ (by omega)]
      rfl
    | succ i =>
      simp only [List.length_cons, Nat.add_lt_add_iff_right] at hi
      have := ih i hi
      rw [show nth (x :: l) (i + 1) = nth l i from rfl, ← this]
      rw [nth_eq _ _ hb, nth_eq _ _ (by rw [flatMap_length]; have : i * E.sz + E.sz ≤ l.length * E.sz := by { rw [← Nat.succ_mul]; exact Nat.mul_le_mul_right _ hi }; omega)]
      simp only [List.flatMap_cons]
      rw [List.getElem_append_right (by rw [hx, Nat.succ_mul]; omega)]
      congr 1
      rw [hx, Nat.succ_mul]; omega

theorem OwnE.sl {α : Type} [Inhabited α] {E : Enc α} {base lo : Nat} {e : TypeId} {w : World} {v : Value} {l : List α} (h : OwnE E base e w v l) (hl : lo ≤ base) (hn : l.length ≤ 140737488355328) : SlE E lo w v l :=
  (SlAt.ofOwn h hl hn).congr fun i k hi hk => flatMap_nth E l i k hi hk
theorem OwnE.nil {α : Type} (E : Enc α) (base : Nat) (e : TypeId) (w : World) : OwnE E base e w (.slice none 0 0) ([] : List α) := World.ownsRow_nil w base e E.sz

/-- The cells of a slice, one by one. -/
theorem SlE.cells {α : Type} [Inhabited α] {E : Enc α} {lo : Nat} {w : World} {v : Value} {l : List α} (h : SlE E lo w v l) :
    ∃ ao c, v = .slice ao l.length c ∧ (ao = none → l.length = 0 ∧ c = 0) ∧ ∀ ad, ao = some ad → ∀ j u, (l.flatMap E.enc)[j]? = some u → w.cell? (ad.add j) = some u := by
  obtain ⟨a, c, b, o, rfl, hnil, hp, hc, h1, h2, h3⟩ := h
  refine ⟨a, c, rfl, fun h0 => ?_, fun ad had j u hu => ?_⟩
  · rcases Nat.eq_zero_or_pos l.length with h | h
    · exact ⟨h, hnil h0⟩
    · rw [(hp h).1] at h0; cases h0
  · have hj := (List.getElem?_eq_some_iff.1 hu).1
    rw [flatMap_length] at hj
    have hsz := E.pos
    have hi : j / E.sz < l.length := (Nat.div_lt_iff_lt_mul hsz).2 hj
    have hk : j % E.sz < E.sz := Nat.mod_lt _ hsz
    have e1 : j / E.sz * E.sz + j % E.sz = j := by rw [Nat.mul_comm]; exact Nat.div_add_mod j E.sz
    have hcc := hc _ _ hi hk
    dsimp only at hcc
    rw [← flatMap_nth E l _ _ hi hk, e1] at hcc
    rw [(hp (Nat.lt_of_le_of_lt (Nat.zero_le _) hi)).1] at had
    obtain rfl := Option.some.inj had
    rw [Addr.add_lit]
    rw [nth_eq _ _ (by rw [flatMap_length]; exact hj)] at hcc
    rw [List.getElem?_eq_getElem (by rw [flatMap_length]; exact hj)] at hu
    rw [Option.some.inj hu] at hcc
    rw [Nat.add_assoc, e1] at hcc
    exact hcc

/-- A slice of ints. -/
def IntsAt (lo : Nat) (w : World) (v : Value) (l : List Int) : Prop := SlE intE lo w v l
/-- A slice of bools. -/
def BoolsAt (lo : Nat) (w : World) (v : Value) (l : List Bool) : Prop := SlE boolE lo w v l
/-- A slice of instructions. -/
def CodeAt (lo : Nat) (w : World) (v : Value) (l : List Ins) : Prop := SlE insE lo w v l

theorem IntsAt.below {lo : Nat} {w w' : World} {v : Value} {l : List Int} (h : IntsAt lo w v l) (hb : Below w.heap.size w w') : IntsAt lo w' v l := SlE.below h hb
theorem BoolsAt.below {lo : Nat} {w w' : World} {v : Value} {l : List Bool} (h : BoolsAt lo w v l) (hb : Below w.heap.size w w') : BoolsAt lo w' v l := SlE.below h hb
theorem CodeAt.below {lo : Nat} {w w' : World} {v : Value} {l : List Ins} (h : CodeAt lo w v l) (hb : Below w.heap.size w w') : CodeAt lo w' v l := SlE.below h hb
theorem IntsAt.keep {lo : Nat} {w w' : World} {v : Value} {l : List Int} (h : IntsAt lo w v l) (hb : Keep lo w w') : IntsAt lo w' v l := SlE.keep h hb
theorem BoolsAt.keep {lo : Nat} {w w' : World} {v : Value} {l : List Bool} (h : BoolsAt lo w v l) (hb : Keep lo w w') : BoolsAt lo w' v l := SlE.keep h hb
theorem CodeAt.keep {lo : Nat} {w w' : World} {v : Value} {l : List Ins} (h : CodeAt lo w v l) (hb : Keep lo w w') : CodeAt lo w' v l := SlE.keep h hb
theorem IntsAt.mono {lo lo' : Nat} {w : World} {v : Value} {l : List Int} (h : IntsAt lo w v l) (hl : lo' ≤ lo) : IntsAt lo' w v l := SlE.mono h hl
theorem BoolsAt.mono {lo lo' : Nat} {w : World} {v : Value} {l : List Bool} (h : BoolsAt lo w v l) (hl : lo' ≤ lo) : BoolsAt lo' w v l := SlE.mono h hl
theorem CodeAt.mono {lo lo' : Nat} {w : World} {v : Value} {l : List Ins} (h : CodeAt lo w v l) (hl : lo' ≤ lo) : CodeAt lo' w v l := SlE.mono h hl

/-- A slice of ints, opened for the walk. -/
theorem IntsAt.open {lo : Nat} {w : World} {v : Value} {l : List Int} (h : IntsAt lo w v l) : ∃ a c b o, v = .slice a l.length c ∧ (0 < l.length → a = some ⟨b, o, none⟩) ∧ (∀ i, i < l.length → w.cell? ⟨b, o + i, none⟩ = some (.int .i64 (nth l i))) ∧ (0 < l.length → b < w.heap.size) ∧ (0 < l.length → lo ≤ b) ∧ l.length ≤ c ∧ c ≤ maxLen ∧ l.length ≤ 140737488355328 := by
  obtain ⟨a, c, b, o, rfl, hnil, hp, hc, h1, h2, h3⟩ := h
  have hcell : ∀ i, i < l.length → w.cell? ⟨b, o + i, none⟩ = some (.int .i64 (nth l i)) := fun i hi => by have := hc i 0 hi (by decide); rw [show intE.sz = 1 from rfl, Nat.mul_one, Nat.add_zero] at this; exact this
  exact ⟨a, c, b, o, rfl, fun h0 => (hp h0).1, hcell, fun h0 => World.block_lt_of_cell? _ _ (hcell 0 h0), fun h0 => (hp h0).2, h1, h2, h3⟩
theorem BoolsAt.open {lo : Nat} {w : World} {v : Value} {l : List Bool} (h : BoolsAt lo w v l) : ∃ a c b o, v = .slice a l.length c ∧ (0 < l.length → a = some ⟨b, o, none⟩) ∧ (∀ i, i < l.length → w.cell? ⟨b, o + i, none⟩ = some (.bool (nth l i))) ∧ (0 < l.length → b < w.heap.size) ∧ (0 < l.length → lo ≤ b) ∧ l.length ≤ c ∧ c ≤ maxLen ∧ l.length ≤ 140737488355328 := by
  obtain ⟨a, c, b, o, rfl, hnil, hp, hc, h1, h2, h3⟩ := h
  have hcell : ∀ i, i < l.length → w.cell? ⟨b, o + i, none⟩ = some (.bool (nth l i)) := fun i hi => by have := hc i 0 hi (by decide); rw [show boolE.sz = 1 from rfl, Nat.mul_one, Nat.add_zero] at this; exact this
  exact ⟨a, c, b, o, rfl, fun h0 => (hp h0).1, hcell, fun h0 => World.block_lt_of_cell? _ _ (hcell 0 h0), fun h0 => (hp h0).2, h1, h2, h3⟩
theorem CodeAt.open {lo : Nat} {w : World} {v : Value} {l : List Ins} (h : CodeAt lo w v l) : ∃ a c b o, v = .slice a l.length c ∧ (0 < l.length → a = some ⟨b, o, none⟩) ∧
    (∀ i, i < l.length → w.cell? ⟨b, o + i * 5, none⟩ = some (.int .i64 (nth l i).op)) ∧ (∀ i, i < l.length → w.cell? ⟨b, o + i * 5 + 1, none⟩ = some (.int .i64 (nth l i).a)) ∧
    (∀ i, i < l.length → w.cell? ⟨b, o + i * 5 + 2, none⟩ = some (.int .i64 (nth l i).b)) ∧ (∀ i, i < l.length → w.cell? ⟨b, o + i * 5 + 3, none⟩ = some (.int .i64 (nth l i).c)) ∧
    (∀ i, i < l.length → w.cell? ⟨b, o + i * 5 + 4, none⟩ = some (.int .i64 (nth l i).pos)) ∧
    (0 < l.length → b < w.heap.size) ∧ (0 < l.length → lo ≤ b) ∧ l.length ≤ c ∧ c ≤ maxLen ∧ l.length ≤ 140737488355328 := by
  obtain ⟨a, c, b, o, rfl, hnil, hp, hc, h1, h2, h3⟩ := h
  have c0 : ∀ i, i < l.length → w.cell? ⟨b, o + i * 5, none⟩ = some (.int .i64 (nth l i).op) := fun i hi => by have := hc i 0 hi (by decide); rw [Nat.add_zero] at this; exact this
  exact ⟨a, c, b, o, rfl, fun h0 => (hp h0).1, c0, fun i hi => hc i 1 hi (by decide), fun i hi => hc i 2 hi (by decide), fun i hi => hc i 3 hi (by decide), fun i hi => hc i 4 hi (by decide),
    fun h0 => World.block_lt_of_cell? _ _ (c0 0 h0), fun h0 => (hp h0).2, h1, h2, h3⟩

/-- Behind a contract that ends in Below: all old cells and marks read as before. -/
theorem bcell {W w1 : World} (hb : Below W.heap.size W w1) : (∀ b o, b < W.heap.size → w1.cell? ⟨b, o, none⟩ = W.cell? ⟨b, o, none⟩) ∧ (∀ b o, b < W.heap.size → w1.frozen? ⟨b, o, none⟩ = W.frozen? ⟨b, o, none⟩) :=
  ⟨fun b o h => hb.cell (p := ⟨b, o, none⟩) h, fun b o h => hb.frozen (p := ⟨b, o, none⟩) h⟩

theorem ret_int {k : IntKind} {a b : Int} (h : a = b) : Ending.returned (.int k a) = .returned (.int k b) := by rw [h]
theorem ret_bool {a b : Bool} (h : a = b) : Ending.returned (.bool a) = .returned (.bool b) := by rw [h]

end Go.Proofs.Ytealeofgfgbheaa

namespace Go.Proofs.Ytealeofgfgbheaa
set_option linter.unusedVariables false
set_option linter.unusedSimpArgs false
open Go.RowKit

abbrev wrapI (x : Int) : Int := wrap64 x

/-- Two numbers in increasing order, without repetition. -/
def pairL (a b : Int) : List Int := if a < b then [a, b] else if a = b then [a] else [b, a]

/-- The instructions that may follow an instruction. -/
def nextIns (x : Ins) (pc : Int) : List Int :=
  if x.op = 30 ∨ x.op = 51 then [] else if x.op = 16 then [x.c] else if x.op = 17 ∨ x.op = 45 then pairL (pc + 1) x.c else if x.op = 50 then [wrapI (pc + 1 + x.b)] else [pc + 1]
def nextL (code : List Ins) (pc : Int) : List Int := if 0 ≤ pc ∧ pc < code.length then nextIns (nth code pc.toNat) pc else []

theorem nextL_out (code : List Ins) (pc : Int) (h : ¬ (0 ≤ pc ∧ pc < code.length)) : nextL code pc = [] := by simp [nextL, h]
theorem nextL_in (code : List Ins) (k : Nat) (h : k < code.length) : nextL code k = nextIns (nth code k) k := by
  unfold nextL; rw [if_pos ⟨by omega, by omega⟩]; rfl

/-- An increasing list with a further number. -/
def withK (l : List Int) (n : Int) : Nat := (l.takeWhile fun x => decide (x < n)).length
def withL (l : List Int) (n : Int) : List Int := if withK l n < l.length ∧ nth l (withK l n) = n then l else l.take (withK l n) ++ n :: l.drop (withK l n)

theorem withL_two (a b : Int) : withL (withL [] a) b = pairL a b := by
  have h1 : withL [] a = [a] := rfl
  rw [h1]
  unfold withL withK pairL
  by_cases h : a < b
  · simp [h]
  · by_cases h2 : a = b
    · subst h2; simp [nth]
    · have : ¬ nth [a] 0 = b := by simpa [nth] using h2
      simp [List.takeWhile, h, h2, this]

def sortI (l : List Int) : List Int := l.mergeSort fun x y => decide (x ≤ y)
theorem sortI_length (l : List Int) : (sortI l).length = l.length := by simp [sortI]
/-- The numbers of a list in increasing order, without repetitions: as the program makes it. -/
def setL (l : List Int) : List Int := Lib.compact (sortI l)

theorem setL_two (a b : Int) : setL [a, b] = pairL a b := by
  unfold setL pairL
  by_cases h : a < b
  · have e : sortI [a, b] = [a, b] := by
      simp [sortI, List.mergeSort, List.MergeSort.Internal.splitInTwo, List.merge]; omega
    have hab : ¬ b = a := by omega
    rw [e]; simp [h, Lib.compact, Lib.compactUpTo, List.range, List.range.loop, Lib.keeps, hab]
  · by_cases h2 : a = b
    · subst h2
      have e : sortI [a, a] = [a, a] := by simp [sortI, List.mergeSort, List.MergeSort.Internal.splitInTwo, List.merge]
      rw [e]; simp [Lib.compact, Lib.compactUpTo, List.range, List.range.loop, Lib.keeps]
    · have e : sortI [a, b] = [b, a] := by
        have h3 : ¬ a ≤ b := by omega
        simp [sortI, List.mergeSort, List.MergeSort.Internal.splitInTwo, List.merge, h3]
      rw [e]; simp [h, h2, Lib.compact, Lib.compactUpTo, List.range, List.range.loop, Lib.keeps]

/-- The ops that jump. -/
def jumps (op : Int) : Prop := op = 16 ∨ op = 17 ∨ op = 45
instance (op : Int) : Decidable (jumps op) := by unfold jumps; exact inferInstance
/-- What is asked of a function's instructions. -/
structure Jok (c : List Ins) : Prop where
  pos : 0 < c.length
  le : c.length ≤ 1000
  nx : ∀ k, k < c.length → ∀ x ∈ nextL c k, 0 ≤ x ∧ x < c.length
  jump : ∀ i, i < c.length → jumps (nth c i).op → 0 ≤ (nth c i).c ∧ (nth c i).c < c.length

end Go.Proofs.Ytealeofgfgbheaa
