/-
  Data of the program under proof as plain Lean types, and the predicates that say how a value reads in a world.
-/
import Derived.WalkKit
import Derived.WalkSpells
import Derived.WalkLawsBesides
import Derived.Deep.RegionLaw
namespace Go.Proofs.Ytealeofgfgbheaa
set_option linter.unusedVariables false
set_option linter.unusedSimpArgs false
open Go.RowKit

theorem hid {p : Prop} (h : p) : Hid p := h

/-- The i-th element; the default beyond the end. Not unfolded by the walk. -/
def nth {α : Type} [Inhabited α] (l : List α) (i : Nat) : α := l.getD i default

theorem nth_eq {α : Type} [Inhabited α] (l : List α) (i : Nat) (h : i < l.length) : nth l i = l[i] := by simp [nth, h]
theorem nth_append_left {α : Type} [Inhabited α] (l r : List α) (i : Nat) (h : i < l.length) : nth (l ++ r) i = nth l i := by
  rw [nth_eq _ _ (by simp; omega), nth_eq _ _ h, List.getElem_append_left h]
theorem nth_mem {α : Type} [Inhabited α] (l : List α) (i : Nat) (h : i < l.length) : nth l i ∈ l := by
  rw [nth_eq _ _ h]; exact List.getElem_mem h
theorem nth_map {α β : Type} [Inhabited α] [Inhabited β] (f : α → β) (l : List α) (i : Nat) (h : i < l.length) : nth (l.map f) i = f (nth l i) := by
  rw [nth_eq _ _ (by simpa using h), nth_eq _ _ h, List.getElem_map]

theorem nth_take {α : Type} [Inhabited α] (l : List α) (i k : Nat) (h : i < k) : nth (l.take k) i = nth l i := by simp [nth, List.getElem?_take, h]
theorem nth_drop {α : Type} [Inhabited α] (l : List α) (i k : Nat) : nth (l.drop k) i = nth l (k + i) := by simp [nth]

theorem upto_succ {p : Nat → Prop} {k : Nat} (h : ∀ j, j < k → p j) (hk : p k) : ∀ j, j < k + 1 → p j := fun j hj => by
  rcases Nat.lt_or_ge j k with h1 | h1
  · exact h j h1
  · obtain rfl : j = k := by omega
    exact hk

structure Ins where
  op : Int
  a : Int
  b : Int
  c : Int
  pos : Int
instance : Inhabited Ins := ⟨⟨0, 0, 0, 0, 0⟩⟩

structure Fun where
  name : ByteArray
  params : Int
  regs : Int
  code : List Ins
instance : Inhabited Fun := ⟨⟨ByteArray.empty, 0, 0, []⟩⟩

structure Glob where
  name : ByteArray
  kind : Int
instance : Inhabited Glob := ⟨⟨ByteArray.empty, 0⟩⟩

structure Prg where
  funcs : List Fun
  globals : List Glob
  layouts : List (List Int)
  main : Int
instance : Inhabited Prg := ⟨⟨[], [], [], 0⟩⟩

/-- The range of int. Behind a name: the numerals are long. -/
def I64 (x : Int) : Prop := -9223372036854775808 ≤ x ∧ x ≤ 9223372036854775807

/-- A slice whose elements take sz cells: cell k of element i is 'cell i k'; all in blocks from lo on. -/
def SlAt (sz lo : Nat) (w : World) (v : Value) (n : Nat) (cell : Nat → Nat → Value) : Prop :=
  ∃ a c b o, v = .slice a n c ∧ (a = none → c = 0) ∧ (0 < n → a = some ⟨b, o, none⟩ ∧ lo ≤ b) ∧ (∀ i k, i < n → k < sz → w.cell? ⟨b, o + i * sz + k, none⟩ = some (cell i k)) ∧ n ≤ c ∧ c ≤ maxLen ∧ n ≤ 140737488355328

/-- The blocks from lo on are as they were. -/
def Keep (lo : Nat) (w w' : World) : Prop := ∀ k, lo ≤ k → k < w.heap.size → w'.heap[k]? = w.heap[k]?

theorem Keep.refl (lo : Nat) (w : World) : Keep lo w w := fun _ _ _ => rfl
theorem Keep.mono {lo lo' : Nat} {w w' : World} (h : Keep lo w w') (hl : lo ≤ lo') : Keep lo' w w' := fun k hk => h k (by omega)
theorem Keep.below {lo : Nat} {w w' : World} (h : Below w.heap.size w w') : Keep lo w w' := fun k _ hk => h.block k hk
theorem Keep.setCell {lo : Nat} {w : World} {p : Addr} (u : Value) (h : p.block < lo) : Keep lo w (w.setCell p u) := fun k hk _ => Below.heap_setCell _ _ _ _ (by omega)

theorem SlAt.keep {sz lo : Nat} {w w' : World} {v : Value} {n : Nat} {f : Nat → Nat → Value} (h : SlAt sz lo w v n f) (hk : Keep lo w w') : SlAt sz lo w' v n f := by
  obtain ⟨a, c, b, o, rfl, hnil, hp, hc, h1, h2, h3⟩ := h
  refine ⟨a, c, b, o, rfl, hnil, hp, fun i k hi hk' => ?_, h1, h2, h3⟩
  have hx := hc i k hi hk'
  have hlt := World.block_lt_of_cell? _ _ hx
  rw [World.cell?_of_block (w := w) (hk b (hp (by omega)).2 hlt)]
  exact hx
theorem SlAt.below {sz lo : Nat} {w w' : World} {v : Value} {n : Nat} {f : Nat → Nat → Value} (h : SlAt sz lo w v n f) (hb : Below w.heap.size w w') : SlAt sz lo w' v n f := h.keep (Keep.below hb)
theorem SlAt.mono {sz lo lo' : Nat} {w : World} {v : Value} {n : Nat} {f : Nat → Nat → Value} (h : SlAt sz lo w v n f) (hl : lo' ≤ lo) : SlAt sz lo' w v n f := by
  obtain ⟨a, c, b, o, rfl, hnil, hp, r⟩ := h
  exact ⟨a, c, b, o, rfl, hnil, fun h0 => ⟨(hp h0).1, Nat.le_trans hl (hp h0).2⟩, r⟩
theorem SlAt.congr {sz lo : Nat} {w : World} {v : Value} {n : Nat} {f g : Nat → Nat → Value} (h : SlAt sz lo w v n f) (e : ∀ i k, i < n → k < sz → f i k = g i k) : SlAt sz lo w v n g := by
  obtain ⟨a, c, b, o, rfl, hnil, hp, hc, r⟩ := h
  exact ⟨a, c, b, o, rfl, hnil, hp, fun i k hi hk => by rw [hc i k hi hk, e i k hi hk], r⟩
theorem SlAt.nil (sz lo : Nat) (w : World) (f : Nat → Nat → Value) : SlAt sz lo w (.slice none 0 0) 0 f :=
  ⟨none, 0, 0, 0, rfl, fun _ => rfl, fun h => by omega, fun i k hi => by omega, by omega, by simp [maxLen], by omega⟩

/-- What an owned row reads as. -/
theorem SlAt.ofOwn {sz base lo : Nat} {e : TypeId} {w : World} {v : Value} {n : Nat} {xs : List Value} (h : w.ownsRow base e sz v n xs) (hl : lo ≤ base) (hn : n ≤ 140737488355328) : SlAt sz lo w v n (fun i k => nth xs (i * sz + k)) := by
  rcases h.2 with ⟨rfl, rfl⟩ | ⟨g, cap, cur, rfl, hb, hg, hnc, hcm, hcs, ht⟩
  · exact SlAt.nil sz lo w _
  · refine ⟨_, _, g, 0, rfl, (fun h => by cases h), fun _ => ⟨rfl, Nat.le_trans hl hb⟩, fun i k hi hk => ?_, hnc, hcm, hn⟩
    have hj : i * sz + k < n * sz := by
      have : i * sz + sz ≤ n * sz := by rw [← Nat.succ_mul]; exact Nat.mul_le_mul_right _ hi
      omega
    have := h.cellAt (i * sz + k) hj
    rw [Nat.zero_add, this]
    show _ = some (nth xs (i * sz + k))
    rw [nth_eq _ _ (by rw [h.1]; exact hj)]
    simp [h.1, hj]

/-- How an element of a slice lies in cells: sz of them. -/
structure Enc (α : Type) where
  sz : Nat
  enc : α → List Value
  len : ∀ x, (enc x).length = sz
  one : ∀ x, ∀ u ∈ enc x, u.oneCell' = true
  pos : 0 < sz

def intE : Enc Int := ⟨1, fun x => [.int .i64 x], fun _ => rfl, by simp [Value.oneCell'], by decide⟩
def boolE : Enc Bool := ⟨1, fun x => [.bool x], fun _ => rfl, by simp [Value.oneCell'], by decide⟩
def insE : Enc Ins := ⟨5, fun x => [.int .i64 x.op, .int .i64 x.a, .int .i64 x.b, .int .i64 x.c, .int .i64 x.pos], fun _ => rfl, by simp [Value.oneCell'], by decide⟩

/-- A slice that reads as the list l; its blocks from lo on. -/
def SlE {α : Type} [Inhabited α] (E : Enc α) (lo : Nat) (w : World) (v : Value) (l : List α) : Prop := SlAt E.sz lo w v l.length (fun i k => nth (E.enc (nth l i)) k)
/-- A slice that the call owns, from block base on; e: the element type. -/
def OwnE {α : Type} (E : Enc α) (base : Nat) (e : TypeId) (w : World) (v : Value) (l : List α) : Prop := w.ownsRow base e E.sz v l.length (l.flatMap E.enc)

theorem SlE.below {α : Type} [Inhabited α] {E : Enc α} {lo : Nat} {w w' : World} {v : Value} {l : List α} (h : SlE E lo w v l) (hb : Below w.heap.size w w') : SlE E lo w' v l := SlAt.below h hb
theorem SlE.keep {α : Type} [Inhabited α] {E : Enc α} {lo : Nat} {w w' : World} {v : Value} {l : List α} (h : SlE E lo w v l) (hb : Keep lo w w') : SlE E lo w' v l := SlAt.keep h hb
theorem SlE.mono {α : Type} [Inhabited α] {E : Enc α} {lo lo' : Nat} {w : World} {v : Value} {l : List α} (h : SlE E lo w v l) (hl : lo' ≤ lo) : SlE E lo' w v l := SlAt.mono h hl
theorem SlE.nil {α : Type} [Inhabited α] (E : Enc α) (lo : Nat) (w : World) : SlE E lo w (.slice none 0 0) ([] : List α) := SlAt.nil _ _ _ _

theorem flatMap_length {α : Type} (E : Enc α) (l : List α) : (l.flatMap E.enc).length = l.length * E.sz := by
  induction l with
  | nil => simp
  | cons x l ih => simp only [List.flatMap_cons, List.length_append, E.len, ih, List.length_cons, Nat.succ_mul]; omega
theorem flatMap_nth {α : Type} [Inhabited α] (E : Enc α) (l : List α) (i k : Nat) (hi : i < l.length) (hk : k < E.sz) : nth (l.flatMap E.enc) (i * E.sz + k) = nth (E.enc (nth l i)) k := by
  induction l generalizing i with
  | nil => simp at hi
  | cons x l ih =>
    have hx := E.len x
    have hb : i * E.sz + k < ((x :: l).flatMap E.enc).length := by
      rw [flatMap_length]
      have : i * E.sz + E.sz ≤ (x :: l).length * E.sz := by rw [← Nat.succ_mul]; exact Nat.mul_le_mul_right _ hi
      omega
    cases i with
    | zero =>
      simp only [Nat.zero_mul, Nat.zero_add, List.flatMap_cons]
      rw [nth_append_left _ _ _ (by omega)]
      rfl
    | succ i =>
      simp only [List.length_cons, Nat.add_lt_add_iff_right] at hi
      have := ih i hi
      rw [show nth (x :: l) (i + 1) = nth l i from rfl, ← this]
      rw [nth_eq _ _ hb, nth_eq _ _ (by rw [flatMap_length]; have : i * E.sz + E.sz ≤ l.length * E.sz := by { rw [← Nat.succ_mul]; exact Nat.mul_le_mul_right _ hi }; omega)]
      simp only [List.flatMap_cons]
      rw [List.getElem_append_right (by rw [hx, Nat.succ_mul]; omega)]
      congr 1
      rw [hx, Nat.succ_mul]; omega

theorem OwnE.sl {α : Type} [Inhabited α] {E : Enc α} {base lo : Nat} {e : TypeId} {w : World} {v : Value} {l : List α} (h : OwnE E base e w v l) (hl : lo ≤ base) (hn : l.length ≤ 140737488355328) : SlE E lo w v l :=
  (SlAt.ofOwn h hl hn).congr fun i k hi hk => flatMap_nth E l i k hi hk
theorem OwnE.nil {α : Type} (E : Enc α) (base : Nat) (e : TypeId) (w : World) : OwnE E base e w (.slice none 0 0) ([] : List α) := World.ownsRow_nil w base e E.sz

/-- The cells of a slice, one by one. -/
theorem SlE.cells {α : Type} [Inhabited α] {E : Enc α} {lo : Nat} {w : World} {v : Value} {l : List α} (h : SlE E lo w v l) :
    ∃ ao c, v = .slice ao l.length c ∧ (ao = none → l.length = 0 ∧ c = 0) ∧ ∀ ad, ao = some ad → ∀ j u, (l.flatMap E.enc)[j]? = some u → w.cell? (ad.add j) = some u := by
  obtain ⟨a, c, b, o, rfl, hnil, hp, hc, h1, h2, h3⟩ := h
  refine ⟨a, c, rfl, fun h0 => ?_, fun ad had j u hu => ?_⟩
  · rcases Nat.eq_zero_or_pos l.length with h | h
    · exact ⟨h, hnil h0⟩
    · rw [(hp h).1] at h0; cases h0
  · have hj := (List.getElem?_eq_some_iff.1 hu).1
    rw [flatMap_length] at hj
    have hsz := E.pos
    have hi : j / E.sz < l.length := (Nat.div_lt_iff_lt_mul hsz).2 hj
    have hk : j % E.sz < E.sz := Nat.mod_lt _ hsz
    have e1 : j / E.sz * E.sz + j % E.sz = j := by rw [Nat.mul_comm]; exact Nat.div_add_mod j E.sz
    have hcc := hc _ _ hi hk
    dsimp only at hcc
    rw [← flatMap_nth E l _ _ hi hk, e1] at hcc
    rw [(hp (Nat.lt_of_le_of_lt (Nat.zero_le _) hi)).1] at had
    obtain rfl := Option.some.inj had
    rw [Addr.add_lit]
    rw [nth_eq _ _ (by rw [flatMap_length]; exact hj)] at hcc
    rw [List.getElem?_eq_getElem (by rw [flatMap_length]; exact hj)] at hu
    rw [Option.some.inj hu] at hcc
    rw [Nat.add_assoc, e1] at hcc
    exact hcc

/-- A slice of ints. -/
def IntsAt (lo : Nat) (w : World) (v : Value) (l : List Int) : Prop := SlE intE lo w v l
/-- A slice of bools. -/
def BoolsAt (lo : Nat) (w : World) (v : Value) (l : List Bool) : Prop := SlE boolE lo w v l
/-- A slice of instructions. -/
def CodeAt (lo : Nat) (w : World) (v : Value) (l : List Ins) : Prop := SlE insE lo w v l

theorem IntsAt.below {lo : Nat} {w w' : World} {v : Value} {l : List Int} (h : IntsAt lo w v l) (hb : Below w.heap.size w w') : IntsAt lo w' v l := SlE.below h hb
theorem BoolsAt.below {lo : Nat} {w w' : World} {v : Value} {l : List Bool} (h : BoolsAt lo w v l) (hb : Below w.heap.size w w') : BoolsAt lo w' v l := SlE.below h hb
theorem CodeAt.below {lo : Nat} {w w' : World} {v : Value} {l : List Ins} (h : CodeAt lo w v l) (hb : Below w.heap.size w w') : CodeAt lo w' v l := SlE.below h hb
theorem IntsAt.keep {lo : Nat} {w w' : World} {v : Value} {l : List Int} (h : IntsAt lo w v l) (hb : Keep lo w w') : IntsAt lo w' v l := SlE.keep h hb
theorem BoolsAt.keep {lo : Nat} {w w' : World} {v : Value} {l : List Bool} (h : BoolsAt lo w v l) (hb : Keep lo w w') : BoolsAt lo w' v l := SlE.keep h hb
theorem CodeAt.keep {lo : Nat} {w w' : World} {v : Value} {l : List Ins} (h : CodeAt lo w v l) (hb : Keep lo w w') : CodeAt lo w' v l := SlE.keep h hb
theorem IntsAt.mono {lo lo' : Nat} {w : World} {v : Value} {l : List Int} (h : IntsAt lo w v l) (hl : lo' ≤ lo) : IntsAt lo' w v l := SlE.mono h hl
theorem BoolsAt.mono {lo lo' : Nat} {w : World} {v : Value} {l : List Bool} (h : BoolsAt lo w v l) (hl : lo' ≤ lo) : BoolsAt lo' w v l := SlE.mono h hl
theorem CodeAt.mono {lo lo' : Nat} {w : World} {v : Value} {l : List Ins} (h : CodeAt lo w v l) (hl : lo' ≤ lo) : CodeAt lo' w v l := SlE.mono h hl

/-- A slice of ints, opened for the walk. -/
theorem IntsAt.open {lo : Nat} {w : World} {v : Value} {l : List Int} (h : IntsAt lo w v l) : ∃ a c b o, v = .slice a l.length c ∧ (0 < l.length → a = some ⟨b, o, none⟩) ∧ (∀ i, i < l.length → w.cell? ⟨b, o + i, none⟩ = some (.int .i64 (nth l i))) ∧ (0 < l.length → b < w.heap.size) ∧ (0 < l.length → lo ≤ b) ∧ l.length ≤ c ∧ c ≤ maxLen ∧ l.length ≤ 140737488355328 := by
  obtain ⟨a, c, b, o, rfl, hnil, hp, hc, h1, h2, h3⟩ := h
  have hcell : ∀ i, i < l.length → w.cell? ⟨b, o + i, none⟩ = some (.int .i64 (nth l i)) := fun i hi => by have := hc i 0 hi (by decide); rw [show intE.sz = 1 from rfl, Nat.mul_one, Nat.add_zero] at this; exact this
  exact ⟨a, c, b, o, rfl, fun h0 => (hp h0).1, hcell, fun h0 => World.block_lt_of_cell? _ _ (hcell 0 h0), fun h0 => (hp h0).2, h1, h2, h3⟩
theorem BoolsAt.open {lo : Nat} {w : World} {v : Value} {l : List Bool} (h : BoolsAt lo w v l) : ∃ a c b o, v = .slice a l.length c ∧ (0 < l.length → a = some ⟨b, o, none⟩) ∧ (∀ i, i < l.length → w.cell? ⟨b, o + i, none⟩ = some (.bool (nth l i))) ∧ (0 < l.length → b < w.heap.size) ∧ (0 < l.length → lo ≤ b) ∧ l.length ≤ c ∧ c ≤ maxLen ∧ l.length ≤ 140737488355328 := by
  obtain ⟨a, c, b, o, rfl, hnil, hp, hc, h1, h2, h3⟩ := h
  have hcell : ∀ i, i < l.length → w.cell? ⟨b, o + i, none⟩ = some (.bool (nth l i)) := fun i hi => by have := hc i 0 hi (by decide); rw [show boolE.sz = 1 from rfl, Nat.mul_one, Nat.add_zero] at this; exact this
  exact ⟨a, c, b, o, rfl, fun h0 => (hp h0).1, hcell, fun h0 => World.block_lt_of_cell? _ _ (hcell 0 h0), fun h0 => (hp h0).2, h1, h2, h3⟩
theorem CodeAt.open {lo : Nat} {w : World} {v : Value} {l : List Ins} (h : CodeAt lo w v l) : ∃ a c b o, v = .slice a l.length c ∧ (0 < l.length → a = some ⟨b, o, none⟩) ∧
    (∀ i, i < l.length → w.cell? ⟨b, o + i * 5, none⟩ = some (.int .i64 (nth l i).op)) ∧ (∀ i, i < l.length → w.cell? ⟨b, o + i * 5 + 1, none⟩ = some (.int .i64 (nth l i).a)) ∧
    (∀ i, i < l.length → w.cell? ⟨b, o + i * 5 + 2, none⟩ = some (.int .i64 (nth l i).b)) ∧ (∀ i, i < l.length → w.cell? ⟨b, o + i * 5 + 3, none⟩ = some (.int .i64 (nth l i).c)) ∧
    (∀ i, i < l.length → w.cell? ⟨b, o + i * 5 + 4, none⟩ = some (.int .i64 (nth l i).pos)) ∧
    (0 < l.length → b < w.heap.size) ∧ (0 < l.length → lo ≤ b) ∧ l.length ≤ c ∧ c ≤ maxLen ∧ l.length ≤ 140737488355328 := by
  obtain ⟨a, c, b, o, rfl, hnil, hp, hc, h1, h2, h3⟩ := h
  have c0 : ∀ i, i < l.length → w.cell? ⟨b, o + i * 5, none⟩ = some (.int .i64 (nth l i).op) := fun i hi => by have := hc i 0 hi (by decide); rw [Nat.add_zero] at this; exact this
  exact ⟨a, c, b, o, rfl, fun h0 => (hp h0).1, c0, fun i hi => hc i 1 hi (by decide), fun i hi => hc i 2 hi (by decide), fun i hi => hc i 3 hi (by decide), fun i hi => hc i 4 hi (by decide),
    fun h0 => World.block_lt_of_cell? _ _ (c0 0 h0), fun h0 => (hp h0).2, h1, h2, h3⟩

/-- Behind a contract that ends in Below: all old cells and marks read as before. -/
theorem bcell {W w1 : World} (hb : Below W.heap.size W w1) : (∀ b o, b < W.heap.size → w1.cell? ⟨b, o, none⟩ = W.cell? ⟨b, o, none⟩) ∧ (∀ b o, b < W.heap.size → w1.frozen? ⟨b, o, none⟩ = W.frozen? ⟨b, o, none⟩) :=
  ⟨fun b o h => hb.cell (p := ⟨b, o, none⟩) h, fun b o h => hb.frozen (p := ⟨b, o, none⟩) h⟩

theorem ret_int {k : IntKind} {a b : Int} (h : a = b) : Ending.returned (.int k a) = .returned (.int k b) := by rw [h]
theorem ret_bool {a b : Bool} (h : a = b) : Ending.returned (.bool a) = .returned (.bool b) := by rw [h]

end Go.Proofs.Ytealeofgfgbheaa

namespace Go.Proofs.Ytealeofgfgbheaa
set_option linter.unusedVariables false
set_option linter.unusedSimpArgs false
open Go.RowKit

section
variable {α : Type} [Inhabited α] (E : Enc α) {P : Program}

/-- append of a slice that reads as r onto a row of the call's own. -/
theorem run_append_E (w : World) (base lo : Nat) (t ty e : TypeId) (z : Value) (bytes : Nat) (ht : P.underlying t = some (.slice e)) (hinfo : (P.info? e).map (fun i => (i.zero, i.size, i.bytes)) = some (some z, E.sz, bytes)) (hz : z.cells.size = E.sz)
    (v : Value) (l : List α) (hown : OwnE E base e w v l) (vx : Value) (r : List α) (hsrc : SlE E lo w vx r) (hb : (l.length + r.length) * bytes ≤ 140737488355328) (hm : l.length + r.length ≤ maxLen) (hbase : base ≤ w.heap.size) :
    ∃ v' w', (Builtin.append_ #[t, t] ty #[v, vx]).run P w = .ok v' w' ∧ OwnE E base e w' v' (l ++ r) ∧ w.grownBy w' v.ownBlock ∧ ∀ k, v'.ownBlock = some k → v.ownBlock = some k ∨ w.heap.size ≤ k := by
  obtain ⟨i, hi, hz0, hz1, hz2⟩ := info_parts hinfo
  obtain ⟨ao, c, rfl, hnone, hc⟩ := hsrc.cells
  cases ao with
  | none =>
    obtain ⟨h0, rfl⟩ := hnone rfl
    have hr : r = [] := List.eq_nil_of_length_eq_zero h0
    subst hr
    exact ⟨v, w, run_append_owned_none (P := P) w base t ty e i E.sz ht hi v l.length _ hown, by simpa using hown, World.grownBy.refl _ _, fun k hk => .inl hk⟩
  | some ad =>
    obtain ⟨v', w', h1, h2, h3, h4⟩ := run_append_own (P := P) w base t ty e i z E.sz bytes ht hi hz0 hz1 hz2 hz E.pos v l.length _ hown ad r.length c (r.flatMap E.enc) (flatMap_length E r) (hc ad rfl)
      (fun u hu => by obtain ⟨x, _, hx⟩ := List.mem_flatMap.1 hu; exact E.one x u hx) hm hb hbase
    refine ⟨v', w', h1, by unfold OwnE; simpa using h2, h3, fun k hk => ?_⟩
    have hcells := hc ad rfl
    have h63 : ((l.length + r.length : Nat) : Int) ≤ 9223372036854775807 := by simp only [maxLen] at hm; omega
    subst hz2
    rcases hown.2 with ⟨rfl, hn0⟩ | ⟨g, cap, cur, rfl, hbg, hg, hnc, hcm, hcs, htake⟩
    · rcases Nat.eq_zero_or_pos r.length with hr | hr
      · rw [h4.2 ⟨rfl, hr⟩] at hk; cases hk
      · have hrun := run_append_nil (P := P) w t ty e i z ht hi hz0 ad r.length c (r.flatMap E.enc) (by rw [hz1]; exact flatMap_length E r) hcells hr (by omega) (by rw [hn0, Nat.zero_add] at hb; omega)
        rw [h1] at hrun
        injection hrun with e1 e2
        rw [e1] at hk
        simp only [Value.ownBlock, Option.some.injEq] at hk
        exact .inr (by omega)
    · by_cases hroom : l.length + r.length ≤ cap
      · obtain ⟨w2, hrun, _, _⟩ := run_append_fits (P := P) w base t ty e i E.sz ht hi hz1 g l.length cap _ hown ad r.length c (r.flatMap E.enc) (flatMap_length E r) hcells (fun u hu => by obtain ⟨x, _, hx⟩ := List.mem_flatMap.1 hu; exact E.one x u hx) hroom
        rw [h1] at hrun
        injection hrun with e1 e2
        rw [e1] at hk
        exact .inl hk
      · have hrun := run_append_grow (P := P) w t ty e i z ht hi hz0 ⟨g, 0, none⟩ l.length cap (l.flatMap E.enc) (by rw [hz1]; exact hown.1) (World.ownsRow.cells hown (g := g) rfl) ad r.length c (r.flatMap E.enc) (by rw [hz1]; exact flatMap_length E r) hcells (by omega) (by omega) (growslice_fits (by omega) hb)
        rw [h1] at hrun
        injection hrun with e1 e2
        rw [e1] at hk
        simp only [Value.ownBlock, Option.some.injEq] at hk
        exact .inr (by omega)

theorem wpList_append_E {w : World} {ops : Array Oper} {rest : List Oper} {o : Oper} {a : Act} {Q : Exit → Act → World → Prop} (hgd : o.guard = none) (s x : Operand) (t : TypeId)
    (ho : o.op = .call { callee := .builtin .append, args := #[s, x], argTypes := #[t, t] })
    (base lo : Nat) (e : TypeId) (z : Value) (bytes : Nat) (ht : P.underlying t = some (.slice e)) (hinfo : (P.info? e).map (fun i => (i.zero, i.size, i.bytes)) = some (some z, E.sz, bytes)) (hz : z.cells.size = E.sz)
    (l r : List α) (hown : OwnE E base e w (a.eval s) l) (hsrc : SlE E lo w (a.eval x) r) (hb : (l.length + r.length) * bytes ≤ 140737488355328) (hm : l.length + r.length ≤ maxLen) (hbase : base ≤ w.heap.size)
    (hK : ∀ v' w', OwnE E base e w' v' (l ++ r) → w.grownBy w' (a.eval s).ownBlock → wpList P ops Q rest (a.put o.dst v') w') : wpList P ops Q (o :: rest) a w := by
  refine wpList_plain hgd fun K hK' => ?_
  obtain ⟨v', w', h1, h2, h3, _⟩ := run_append_E (P := P) E w base lo t o.type e z bytes ht hinfo hz _ l hown _ r hsrc hb hm hbase
  unfold Oper.wp
  simp [execOp, ho, resolve, invoke, builtin, h1, Result.andThen]
  exact hK' _ _ (hK v' w' h2 h3)

/-- The same as one step of a region that draws its order. -/
theorem step_append_E {w : World} {ops : Array Oper} {o : Oper} {a : Act} {K : Act → World → Prop} {Q : Exit → Act → World → Prop} {F : Prop} (hgd : o.guard = none) (s x : Operand) (t : TypeId)
    (ho : o.op = .call { callee := .builtin .append, args := #[s, x], argTypes := #[t, t] })
    (base lo : Nat) (e : TypeId) (z : Value) (bytes : Nat) (ht : P.underlying t = some (.slice e)) (hinfo : (P.info? e).map (fun i => (i.zero, i.size, i.bytes)) = some (some z, E.sz, bytes)) (hz : z.cells.size = E.sz)
    (l r : List α) (hown : OwnE E base e w (a.eval s) l) (hsrc : SlE E lo w (a.eval x) r) (hb : (l.length + r.length) * bytes ≤ 140737488355328) (hm : l.length + r.length ≤ maxLen) (hbase : base ≤ w.heap.size)
    (hK : ∀ v' w', OwnE E base e w' v' (l ++ r) → w.grownBy w' (a.eval s).ownBlock → K (a.put o.dst v') w') :
    if Region.wanted o (yielded ops a.tmps) = true then Oper.wp P o a w K Q else F := by
  have hw : Region.wanted o (yielded ops a.tmps) = true := by simp [Region.wanted, hgd]
  rw [if_pos hw]
  obtain ⟨v', w', h1, h2, h3, _⟩ := run_append_E (P := P) E w base lo t o.type e z bytes ht hinfo hz _ l hown _ r hsrc hb hm hbase
  unfold Oper.wp
  simp [execOp, ho, resolve, invoke, builtin, h1, Result.andThen]
  exact hK v' w' h2 h3
end

theorem OwnE.kept {α : Type} {E : Enc α} {base : Nat} {e : TypeId} {w w' : World} {row : Option Nat} {v : Value} {l : List α} (h : OwnE E base e w v l) (hg : w.grownBy w' row) (hne : v.ownBlock = none ∨ v.ownBlock ≠ row) : OwnE E base e w' v l := World.ownsRow.kept h hg hne
theorem OwnE.alloc {α : Type} {E : Enc α} {base : Nat} {e : TypeId} {w : World} {v : Value} {l : List α} (h : OwnE E base e w v l) (o : Obj) : OwnE E base e (w.alloc o) v l := World.ownsRow.alloc h o
theorem OwnE.lt {α : Type} {E : Enc α} {base : Nat} {e : TypeId} {w : World} {v : Value} {l : List α} (h : OwnE E base e w v l) : ∀ k, v.ownBlock = some k → base ≤ k ∧ k < w.heap.size := World.ownsRow.lt h
theorem Below.grownE {α : Type} {E : Enc α} {base B : Nat} {e : TypeId} {w0 w w' : World} {v : Value} {l : List α} (h : Below B w0 w) (ho : OwnE E base e w v l) (hg : w.grownBy w' v.ownBlock) (hB : B ≤ w.heap.size) (hb : B ≤ base) : Below B w0 w' :=
  h.grown hg hB fun k hk => Nat.le_trans hb (ho.lt k hk).1

theorem OwnE.mono {α : Type} {E : Enc α} {base base' : Nat} {e : TypeId} {w : World} {v : Value} {l : List α} (h : OwnE E base e w v l) (hb : base' ≤ base) : OwnE E base' e w v l := by
  refine ⟨h.1, ?_⟩
  rcases h.2 with h0 | ⟨g, cap, cur, hv, hg, r⟩
  · exact .inl h0
  · exact .inr ⟨g, cap, cur, hv, Nat.le_trans hb hg, r⟩
theorem OwnE.drew {α : Type} {E : Enc α} {base : Nat} {e : TypeId} {w : World} {v : Value} {l : List α} (h : OwnE E base e w v l) : OwnE E base e w.drew v l := h
/-- A slice literal: n elements in the new block g. -/
theorem OwnE.lit {α : Type} (E : Enc α) (w : World) (base : Nat) (e : TypeId) (l : List α) (cs : Array Value) (g n : Nat) (hg : w.heap.size = g) (hb : base ≤ g) (hn : n = l.length) (hc : cs.toList = l.flatMap E.enc) (hs : l.length ≤ 1000) : OwnE E base e (w.alloc (.cells cs e)) (.slice (some ⟨g, 0, none⟩) n n) l := by
  subst hg hn
  have hsz : cs.size = l.length * E.sz := by rw [← flatMap_length E l, ← hc]; simp
  have := World.ownsRow_lit (base := base) (e := e) (size := E.sz) w cs l.length hb (by simp only [maxLen]; omega) hsz
  rw [hc] at this
  exact this

/-- A slice cut at its end. -/
theorem SlE.take {α : Type} [Inhabited α] {E : Enc α} {lo : Nat} {w : World} {a : Option Addr} {n c : Nat} {l : List α} (h : SlE E lo w (.slice a n c) l) (k : Nat) (hk : k ≤ l.length) : SlE E lo w (.slice a k c) (l.take k) := by
  obtain ⟨a', c', b, o, he, hnil, hp, hc, h1, h2, h3⟩ := h
  obtain ⟨rfl, rfl, rfl⟩ := Value.slice.inj he
  have hl : (l.take k).length = k := by simp; omega
  unfold SlE
  rw [hl]
  refine ⟨_, _, b, o, rfl, hnil, fun h0 => hp (by omega), fun i j hi hj => ?_, by omega, h2, by omega⟩
  have := hc i j (by omega) hj
  dsimp only at this ⊢
  rw [this, nth_take _ _ _ hi]
/-- A slice cut at its head; ao: its address, whatever its spelling. -/
theorem SlE.drop {α : Type} [Inhabited α] {E : Enc α} {lo : Nat} {w : World} {a ao : Option Addr} {n c c' m : Nat} {l : List α} (h : SlE E lo w (.slice a n c) l) (k : Nat) (hk : k ≤ l.length) (hm : m = l.length - k) (hc' : c' = c - k) (hao : ao = if c = k then a else a.map (·.add (k * E.sz))) : SlE E lo w (.slice ao m c') (l.drop k) := by
  obtain ⟨a', c2, b, o, he, hnil, hp, hc, h1, h2, h3⟩ := h
  obtain ⟨rfl, rfl, rfl⟩ := Value.slice.inj he
  subst hc' hm
  have hl : (l.drop k).length = l.length - k := by simp
  unfold SlE
  rw [← hl]
  refine ⟨_, _, b, o + k * E.sz, rfl, fun h0 => ?_, fun h0 => ?_, fun i j hi hj => ?_, by rw [hl]; omega, by omega, by rw [hl]; omega⟩
  · subst hao
    split at h0
    · have := hnil h0; omega
    · have := hnil (by simpa using h0); omega
  · subst hao
    have hne : ¬ c = k := by omega
    rw [if_neg hne, (hp (by omega)).1]
    exact ⟨by simp [Addr.add_lit], (hp (by omega)).2⟩
  · have := hc (k + i) j (by omega) hj
    dsimp only at this ⊢
    rw [nth_drop, ← this]
    congr 2
    rw [Nat.add_mul]; omega

end Go.Proofs.Ytealeofgfgbheaa
