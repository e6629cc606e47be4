/-
  A block of the call's own that holds a struct or a variable: all its cells are known.
-/
import Derived.IntWalk
import Derived.OpenShut
import Derived.Test.YteiohnfmlabelaaGreatProg
import Derived.Test.YteiohnfmlabelaaGreatZAt
import Derived.Test.YteiohnfmlabelaaGreatZREqual
namespace Go.Proofs.YteiohnfmlabelaaGreat
set_option linter.unusedVariables false
set_option linter.unusedSimpArgs false
open Go.RowKit

def BoxAt (w : World) (b : Nat) (t : TypeId) (vs : List Value) : Prop := w.heap[b]? = some (.cells vs.toArray t (0, 0))

theorem BoxAt.new (w : World) (cs : Array Value) (t : TypeId) (b : Nat) (vs : List Value) (hb : b = w.heap.size) (hv : cs.toList = vs) : BoxAt (w.alloc (.cells cs t)) b t vs := by
  subst hb hv
  show (w.heap.push _)[w.heap.size]? = _
  simp
theorem BoxAt.lt {w : World} {b : Nat} {t : TypeId} {vs : List Value} (h : BoxAt w b t vs) : b < w.heap.size := (Array.getElem?_eq_some_iff.1 h).1
theorem BoxAt.cell {w : World} {b : Nat} {t : TypeId} {vs : List Value} (h : BoxAt w b t vs) (k : Nat) (u : Value) (hk : vs[k]? = some u) : w.cell? ⟨b, k, none⟩ = some u := by
  unfold BoxAt at h
  simp [World.cell?, h, hk]
theorem BoxAt.frozen {w : World} {b : Nat} {t : TypeId} {vs : List Value} (h : BoxAt w b t vs) (k : Nat) : w.frozen? ⟨b, k, none⟩ = false := by
  unfold BoxAt at h
  simp [World.frozen?, h]
theorem BoxAt.ofBlock {w w' : World} {b : Nat} {t : TypeId} {vs : List Value} (h : BoxAt w b t vs) (hb : w'.heap[b]? = w.heap[b]?) : BoxAt w' b t vs := by
  unfold BoxAt; rw [hb]; exact h
theorem BoxAt.below {w w' : World} {b : Nat} {t : TypeId} {vs : List Value} (h : BoxAt w b t vs) (hb : Below w.heap.size w w') : BoxAt w' b t vs := h.ofBlock (hb.block _ h.lt)
theorem BoxAt.alloc {w : World} {b : Nat} {t : TypeId} {vs : List Value} (h : BoxAt w b t vs) (o : Obj) : BoxAt (w.alloc o) b t vs := h.below ((Below.refl _ _).alloc (Nat.le_refl _) _)
theorem BoxAt.other {w : World} {b : Nat} {t : TypeId} {vs : List Value} (h : BoxAt w b t vs) (a : Addr) (u : Value) (ha : b ≠ a.block) : BoxAt (w.setCell a u) b t vs := h.ofBlock (Below.heap_setCell _ _ _ _ ha)
theorem BoxAt.set {w : World} {b : Nat} {t : TypeId} {vs : List Value} (h : BoxAt w b t vs) (k : Nat) (u : Value) : BoxAt (w.setCell ⟨b, k, none⟩ u) b t (vs.set k u) := by
  unfold BoxAt at h ⊢
  simp [World.setCell, Array.getElem?_modify, h]
theorem BoxAt.drewN {w : World} {b : Nat} {t : TypeId} {vs : List Value} (h : BoxAt w b t vs) (n : Nat) : BoxAt (w.drewN n) b t vs := h
theorem BoxAt.drew {w : World} {b : Nat} {t : TypeId} {vs : List Value} (h : BoxAt w b t vs) : BoxAt w.drew b t vs := h
theorem BoxAt.row {w : World} {b : Nat} {t : TypeId} {vs : List Value} (h : BoxAt w b t vs) : b < w.heap.size ∧ ∀ (k : Nat) (u : Value), vs[k]? = some u → w.cell? ⟨b, k, none⟩ = some u := ⟨h.lt, h.cell⟩

/-- All blocks but perhaps one are as they were. -/
def Only (row : Option Nat) (w w' : World) : Prop := w.heap.size ≤ w'.heap.size ∧ ∀ k, k < w.heap.size → some k ≠ row → w'.heap[k]? = w.heap[k]?
theorem Only.refl (row : Option Nat) (w : World) : Only row w w := ⟨Nat.le_refl _, fun _ _ _ => rfl⟩
theorem Only.trans {row : Option Nat} {a b c : World} (h : Only row a b) (k : Only row b c) : Only row a c :=
  ⟨Nat.le_trans h.1 k.1, fun q hq hr => (k.2 q (Nat.lt_of_lt_of_le hq h.1) hr).trans (h.2 q hq hr)⟩
theorem Only.weak {row : Option Nat} {a b : World} (h : Only none a b) : Only row a b := ⟨h.1, fun k hk _ => h.2 k hk (by simp)⟩
theorem Only.below {w w' : World} (h : Below w.heap.size w w') (row : Option Nat) : Only row w w' := ⟨h.size, fun k hk _ => h.block k hk⟩
theorem Only.alloc (row : Option Nat) (w : World) (o : Obj) : Only row w (w.alloc o) := Only.below ((Below.refl _ _).alloc (Nat.le_refl _) _) _
theorem Only.store (w : World) (b k : Nat) (u : Value) : Only (some b) w (w.setCell ⟨b, k, none⟩ u) :=
  ⟨by simp [World.setCell], fun q _ hr => Below.heap_setCell _ _ _ _ (fun h => hr (by rw [h]))⟩
theorem Only.grown {row : Option Nat} {w w' : World} (h : w.grownBy w' row) : Only row w w' := ⟨h.size, fun k hk hr => h.block k hk hr⟩
theorem BoxAt.only {w w' : World} {b : Nat} {t : TypeId} {vs : List Value} {row : Option Nat} (h : BoxAt w b t vs) (ho : Only row w w') (hr : some b ≠ row) : BoxAt w' b t vs := h.ofBlock (ho.2 b h.lt hr)
theorem OwnE.only {α : Type} {E : Enc α} {base : Nat} {e : TypeId} {w w' : World} {v : Value} {l : List α} {row : Option Nat} (h : OwnE E base e w v l) (ho : Only row w w') (hr : ∀ k, v.ownBlock = some k → some k ≠ row) : OwnE E base e w' v l := by
  refine ⟨h.1, ?_⟩
  rcases h.2 with h0 | ⟨g, cap, cur, hv, hb, hg, r⟩
  · exact .inl h0
  · refine .inr ⟨g, cap, cur, hv, hb, ?_, r⟩
    rw [ho.2 g (Array.getElem?_eq_some_iff.1 hg).1 (hr g (by rw [hv]; rfl))]
    exact hg
/-- A row's block is one of its elements' type. -/
theorem OwnE.typed {α : Type} {E : Enc α} {base : Nat} {e : TypeId} {w : World} {v : Value} {l : List α} (h : OwnE E base e w v l) (k : Nat) (hk : v.ownBlock = some k) : ∃ cur, w.heap[k]? = some (.cells cur e (0, 0)) := by
  rcases h.2 with ⟨rfl, _⟩ | ⟨g, cap, cur, rfl, hb, hg, r⟩
  · cases hk
  · obtain rfl : g = k := by simpa [Value.ownBlock] using hk
    exact ⟨cur, hg⟩
theorem OwnE.neBox {α : Type} {E : Enc α} {base : Nat} {e : TypeId} {w : World} {v : Value} {l : List α} {b : Nat} {t : TypeId} {vs : List Value} (h : OwnE E base e w v l) (hb : BoxAt w b t vs) (hne : e ≠ t) : ∀ k, v.ownBlock = some k → some k ≠ some b := by
  intro k hk he
  cases he
  obtain ⟨cur, hc⟩ := h.typed b hk
  unfold BoxAt at hb
  rw [hc] at hb
  simp at hb
  exact hne hb.2
theorem OwnE.neRow {α β : Type} {E : Enc α} {E' : Enc β} {base base' : Nat} {e e' : TypeId} {w : World} {v v' : Value} {l : List α} {l' : List β} (h : OwnE E base e w v l) (h' : OwnE E' base' e' w v' l') (hne : e ≠ e') : ∀ k, v.ownBlock = some k → some k ≠ v'.ownBlock := by
  intro k hk he
  obtain ⟨cur, hc⟩ := h.typed k hk
  obtain ⟨cur', hc'⟩ := h'.typed k he.symm
  rw [hc] at hc'
  simp at hc'
  exact hne hc'.2
theorem BoxAt.neRow {α : Type} {E : Enc α} {base : Nat} {e : TypeId} {w : World} {v : Value} {l : List α} {b : Nat} {t : TypeId} {vs : List Value} (hb : BoxAt w b t vs) (h : OwnE E base e w v l) (hne : e ≠ t) : some b ≠ v.ownBlock := fun he => h.neBox hb hne b he.symm rfl
theorem BoxAt.neBox {w : World} {b b' : Nat} {t t' : TypeId} {vs vs' : List Value} (h : BoxAt w b t vs) (h' : BoxAt w b' t' vs') (hne : t ≠ t') : some b ≠ some b' := by
  intro he
  cases he
  unfold BoxAt at h h'
  rw [h] at h'
  simp at h'
  exact hne h'.2

end Go.Proofs.YteiohnfmlabelaaGreat

/-
  What is known of the numbers and sizes of a program that is handed in: integers fit 64 bits, rows fit the memory.
-/
namespace Go.Proofs.YteiohnfmlabelaaGreat
set_option linter.unusedVariables false
set_option linter.unusedSimpArgs false
open Go.RowKit

structure InsWf (x : Ins) : Prop where
  op : I64 x.op
  a : I64 x.a
  b : I64 x.b
  c : I64 x.c
  pos : I64 x.pos

structure FunWf (f : Fun) : Prop where
  name : f.name.size ≤ 140737488355328
  params : I64 f.params
  regs : I64 f.regs
  code : f.code.length * 40 ≤ 140737488351232
  ins : ∀ x ∈ f.code, InsWf x

structure PrgWf (p : Prg) : Prop where
  funcs : p.funcs.length * 56 ≤ 140737488351232
  func : ∀ f ∈ p.funcs, FunWf f
  globs : p.globals.length * 24 ≤ 140737488351232
  glob : ∀ g ∈ p.globals, g.name.size ≤ 140737488355328 ∧ I64 g.kind
  lays : p.layouts.length * 24 ≤ 140737488351232
  lay : ∀ r ∈ p.layouts, r.length * 8 ≤ 140737488351232 ∧ ∀ x ∈ r, I64 x
  main : I64 p.main

theorem forall_nth {α : Type} [Inhabited α] {l : List α} {G : α → Prop} (h : ∀ i, i < l.length → G (nth l i)) : ∀ x ∈ l, G x := by
  intro x hx
  obtain ⟨i, hi, rfl⟩ := List.mem_iff_getElem.1 hx
  rw [← nth_eq l i hi]; exact h i hi

end Go.Proofs.YteiohnfmlabelaaGreat

/-
  A program that lies in rows of the call's own.
-/
namespace Go.Proofs.YteiohnfmlabelaaGreat
set_option linter.unusedVariables false
set_option linter.unusedSimpArgs false
open Go.RowKit

/-- A row of functions, each with a row of instructions in a block of its own. -/
structure OwnFuns (base : Nat) (w : World) (v : Value) (l : List Fun) (ss : List Slc) : Prop where
  len : ss.length = l.length
  row : OwnE funE base 33 w v (l.zip ss)
  code : ∀ i, i < l.length → OwnE insE base 39 w (nth ss i).val (nth l i).code
  apart : ∀ i j, i < j → j < l.length → ∀ a b, (nth ss i).val.ownBlock = some a → (nth ss j).val.ownBlock = some b → a < b

structure OwnLays (base : Nat) (w : World) (v : Value) (l : List (List Int)) (ss : List Slc) : Prop where
  len : ss.length = l.length
  row : OwnE rowE base 36 w v ss
  each : ∀ i, i < l.length → OwnE intE base 3 w (nth ss i).val (nth l i)

theorem OwnFuns.only {base : Nat} {w w' : World} {v : Value} {l : List Fun} {ss : List Slc} {row : Option Nat} (h : OwnFuns base w v l ss) (ho : Only row w w')
    (h1 : ∀ k, v.ownBlock = some k → some k ≠ row) (h2 : ∀ i, i < l.length → ∀ k, (nth ss i).val.ownBlock = some k → some k ≠ row) : OwnFuns base w' v l ss :=
  ⟨h.len, h.row.only ho h1, fun i hi => (h.code i hi).only ho (h2 i hi), h.apart⟩
theorem OwnLays.only {base : Nat} {w w' : World} {v : Value} {l : List (List Int)} {ss : List Slc} {row : Option Nat} (h : OwnLays base w v l ss) (ho : Only row w w')
    (h1 : ∀ k, v.ownBlock = some k → some k ≠ row) (h2 : ∀ i, i < l.length → ∀ k, (nth ss i).val.ownBlock = some k → some k ≠ row) : OwnLays base w' v l ss :=
  ⟨h.len, h.row.only ho h1, fun i hi => (h.each i hi).only ho (h2 i hi)⟩
theorem OwnFuns.onlyBox {base : Nat} {w w' : World} {v : Value} {l : List Fun} {ss : List Slc} {b : Nat} {t : TypeId} {vs : List Value} (h : OwnFuns base w v l ss) (ho : Only (some b) w w') (hb : BoxAt w b t vs)
    (h1 : 33 ≠ t) (h2 : 39 ≠ t) : OwnFuns base w' v l ss :=
  h.only ho (h.row.neBox hb h1) (fun i hi => (h.code i hi).neBox hb h2)
theorem OwnLays.onlyBox {base : Nat} {w w' : World} {v : Value} {l : List (List Int)} {ss : List Slc} {b : Nat} {t : TypeId} {vs : List Value} (h : OwnLays base w v l ss) (ho : Only (some b) w w') (hb : BoxAt w b t vs)
    (h1 : 36 ≠ t) (h2 : 3 ≠ t) : OwnLays base w' v l ss :=
  h.only ho (h.row.neBox hb h1) (fun i hi => (h.each i hi).neBox hb h2)
theorem OwnFuns.fresh {base : Nat} {w w' : World} {v : Value} {l : List Fun} {ss : List Slc} (h : OwnFuns base w v l ss) (ho : Only none w w') : OwnFuns base w' v l ss := h.only ho (by simp) (by simp)
theorem OwnLays.fresh {base : Nat} {w w' : World} {v : Value} {l : List (List Int)} {ss : List Slc} (h : OwnLays base w v l ss) (ho : Only none w w') : OwnLays base w' v l ss := h.only ho (by simp) (by simp)
theorem OwnE.fresh {α : Type} {E : Enc α} {base : Nat} {e : TypeId} {w w' : World} {v : Value} {l : List α} (h : OwnE E base e w v l) (ho : Only none w w') : OwnE E base e w' v l := h.only ho (by simp)
theorem BoxAt.fresh {w w' : World} {b : Nat} {t : TypeId} {vs : List Value} (h : BoxAt w b t vs) (ho : Only none w w') : BoxAt w' b t vs := h.only ho (by simp)

theorem nth_snoc_lt {α : Type} [Inhabited α] (l : List α) (x : α) (i : Nat) (h : i < l.length) : nth (l ++ [x]) i = nth l i := nth_append_left l [x] i h
theorem nth_snoc_eq {α : Type} [Inhabited α] (l : List α) (x : α) (i : Nat) (h : i = l.length) : nth (l ++ [x]) i = x := by subst h; simp [nth]

theorem OwnFuns.nil (base : Nat) (w : World) : OwnFuns base w (.slice none 0 0) [] [] := ⟨rfl, OwnE.nil _ _ _ _, fun i hi => by simp at hi, fun i j _ hj => by simp at hj⟩
theorem OwnLays.nil (base : Nat) (w : World) : OwnLays base w (.slice none 0 0) [] [] := ⟨rfl, OwnE.nil _ _ _ _, fun i hi => by simp at hi⟩

theorem OwnFuns.snoc {base m : Nat} {w w' : World} {v v' : Value} {l : List Fun} {ss : List Slc} {f : Fun} {s : Slc} (h : OwnFuns base w v l ss) (hold : ∀ i, i < l.length → ∀ k, (nth ss i).val.ownBlock = some k → k < m)
    (hrow : OwnE funE base 33 w' v' (l.zip ss ++ [(f, s)])) (hkeep : ∀ i, i < l.length → OwnE insE base 39 w' (nth ss i).val (nth l i).code) (hnew : OwnE insE m 39 w' s.val f.code) (hm : base ≤ m) : OwnFuns base w' v' (l ++ [f]) (ss ++ [s]) := by
  refine ⟨by simp [h.len], ?_, fun i hi => ?_, fun i j hij hj a b ha hb => ?_⟩
  · rw [List.zip_append h.len.symm]; exact hrow
  · rw [List.length_append, List.length_singleton] at hi
    rcases Nat.lt_or_ge i l.length with h1 | h1
    · rw [nth_snoc_lt _ _ _ (by rw [h.len]; exact h1), nth_snoc_lt _ _ _ h1]; exact hkeep i h1
    · rw [nth_snoc_eq _ _ _ (by rw [h.len]; omega), nth_snoc_eq _ _ _ (by omega)]; exact hnew.mono hm
  · rw [List.length_append, List.length_singleton] at hj
    have hi : i < l.length := by omega
    rw [nth_snoc_lt _ _ _ (by rw [h.len]; exact hi)] at ha
    rcases Nat.lt_or_ge j l.length with h1 | h1
    · rw [nth_snoc_lt _ _ _ (by rw [h.len]; exact h1)] at hb
      exact h.apart i j hij h1 a b ha hb
    · rw [nth_snoc_eq _ _ _ (by rw [h.len]; omega)] at hb
      have h2 := hold i hi a ha
      have h3 := (hnew.lt b hb).1
      omega
theorem OwnLays.snoc {base : Nat} {w w' : World} {v v' : Value} {l : List (List Int)} {ss : List Slc} {r : List Int} {s : Slc} (h : OwnLays base w v l ss)
    (hrow : OwnE rowE base 36 w' v' (ss ++ [s])) (hkeep : ∀ i, i < l.length → OwnE intE base 3 w' (nth ss i).val (nth l i)) (hnew : OwnE intE base 3 w' s.val r) : OwnLays base w' v' (l ++ [r]) (ss ++ [s]) := by
  refine ⟨by simp [h.len], hrow, fun i hi => ?_⟩
  rw [List.length_append, List.length_singleton] at hi
  rcases Nat.lt_or_ge i l.length with h1 | h1
  · rw [nth_snoc_lt _ _ _ (by rw [h.len]; exact h1), nth_snoc_lt _ _ _ h1]; exact hkeep i h1
  · rw [nth_snoc_eq _ _ _ (by rw [h.len]; omega), nth_snoc_eq _ _ _ (by omega)]; exact hnew

/-- A whole program in rows of the call's own. -/
structure OwnPrg (base : Nat) (w : World) (vf vg vl : Value) (p : Prg) : Prop where
  funcs : ∃ ss, OwnFuns base w vf p.funcs ss
  globs : OwnE globE base 43 w vg p.globals
  lays : ∃ rs, OwnLays base w vl p.layouts rs

theorem OwnFuns.at {base lo : Nat} {w : World} {v : Value} {l : List Fun} {ss : List Slc} (h : OwnFuns base w v l ss) (hl : lo ≤ base) (hn : l.length ≤ 140737488355328) (hc : ∀ f ∈ l, f.code.length ≤ 140737488355328) : FuncsAt lo w v l :=
  ⟨ss, h.len, h.row.sl hl (by simp [h.len]; exact hn), fun i hi => (h.code i hi).sl hl (hc _ (nth_mem l i hi))⟩
theorem OwnLays.at {base lo : Nat} {w : World} {v : Value} {l : List (List Int)} {ss : List Slc} (h : OwnLays base w v l ss) (hl : lo ≤ base) (hn : l.length ≤ 140737488355328) (hc : ∀ f ∈ l, f.length ≤ 140737488355328) : LaysAt lo w v l :=
  ⟨ss, h.len, h.row.sl hl (by rw [h.len]; exact hn), fun i hi => (h.each i hi).sl hl (hc _ (nth_mem l i hi))⟩
theorem OwnPrg.at {base lo : Nat} {w : World} {vf vg vl : Value} {p : Prg} (h : OwnPrg base w vf vg vl p) (hl : lo ≤ base) (hp : PrgWf p) : ProgAt lo w vf vg vl p := by
  obtain ⟨ss, hs⟩ := h.funcs
  obtain ⟨rs, hr⟩ := h.lays
  have h1 := hp.funcs
  have h2 := hp.globs
  have h3 := hp.lays
  exact ⟨hs.at hl (by omega) fun f hf => by have := (hp.func f hf).code; omega, h.globs.sl hl (by omega), hr.at hl (by omega) fun r hr' => by have := (hp.lay r hr').1; omega⟩

end Go.Proofs.YteiohnfmlabelaaGreat

/-
  Sets of registers as bits.
-/
namespace Go.Proofs.YteiohnfmlabelaaGreat
set_option linter.unusedVariables false
set_option linter.unusedSimpArgs false
open Go.RowKit

theorem wrapU (n : Nat) (h : n < 2 ^ 64) : IntKind.u64.wrap (n : Int) = (n : Int) := by
  refine IntWalk.u64_in _ ?_
  simp only [Nat.reducePow] at h
  omega
theorem wrapB (a : BitVec 64) : IntKind.u64.wrap (a.toNat : Int) = (a.toNat : Int) := wrapU _ a.isLt
theorem ofIntB (a : BitVec 64) : BitVec.ofInt 64 (a.toNat : Int) = a := by
  rw [BitVec.ofInt_natCast, BitVec.ofNat_toNat, BitVec.setWidth_eq]
theorem bits_or (a b : BitVec 64) : bits .or .u64 (a.toNat : Int) (b.toNat : Int) = ((a ||| b).toNat : Int) := by
  show IntKind.u64.wrap (((BitVec.ofInt 64 (a.toNat : Int)) ||| (BitVec.ofInt 64 (b.toNat : Int))).toNat : Int) = _
  rw [ofIntB, ofIntB, wrapB]
theorem bits_and (a b : BitVec 64) : bits .and .u64 (a.toNat : Int) (b.toNat : Int) = ((a &&& b).toNat : Int) := by
  show IntKind.u64.wrap (((BitVec.ofInt 64 (a.toNat : Int)) &&& (BitVec.ofInt 64 (b.toNat : Int))).toNat : Int) = _
  rw [ofIntB, ofIntB, wrapB]
theorem bits_andNot (a b : BitVec 64) : bits .andNot .u64 (a.toNat : Int) (b.toNat : Int) = ((a &&& ~~~b).toNat : Int) := by
  show IntKind.u64.wrap (((BitVec.ofInt 64 (a.toNat : Int)) &&& ~~~(BitVec.ofInt 64 (b.toNat : Int))).toNat : Int) = _
  rw [ofIntB, ofIntB, wrapB]
/-- One register's bit, and a shift: behind names, so that the walk leaves them. -/
def bitB (r : Int) : BitVec 64 := BitVec.twoPow 64 r.toNat
def shrB (m : BitVec 64) (k : Nat) : BitVec 64 := m >>> k
theorem bits_bit (r : Int) (h0 : 0 ≤ r) (h1 : r < 64) : IntKind.u64.wrap (2 ^ r.toNat) = ((bitB r).toNat : Int) := by
  have hr : r.toNat < 64 := by omega
  have hp : 2 ^ r.toNat < 2 ^ 64 := Nat.pow_lt_pow_right (by decide) hr
  unfold bitB
  rw [BitVec.toNat_twoPow, Nat.mod_eq_of_lt hp]
  have := wrapU (2 ^ r.toNat) hp
  simpa using this
theorem bits_shl (r : Int) (h0 : 0 ≤ r) (h1 : r < 64) : IntKind.u64.wrap (2 ^ r.toNat) = ((BitVec.twoPow 64 r.toNat).toNat : Int) := by
  have hr : r.toNat < 64 := by omega
  have hp : 2 ^ r.toNat < 2 ^ 64 := Nat.pow_lt_pow_right (by decide) hr
  rw [BitVec.toNat_twoPow, Nat.mod_eq_of_lt hp]
  have := wrapU (2 ^ r.toNat) hp
  simpa using this
theorem bits_shl' (r : Int) (h0 : 0 ≤ r) (h1 : r < 64) : (2 : Int) ^ r.toNat % 18446744073709551616 = ((BitVec.twoPow 64 r.toNat).toNat : Int) := by
  rw [BitVec.toNat_twoPow]
  simp
theorem bits_shr (m : BitVec 64) (k : Nat) : (m.toNat : Int) / 2 ^ k = ((m >>> k).toNat : Int) := by
  rw [BitVec.toNat_ushiftRight, Nat.shiftRight_eq_div_pow]
  simp
theorem bits_shr' (m : BitVec 64) (k : Nat) : (m.toNat : Int) >>> k = ((m >>> k).toNat : Int) := by
  rw [Int.shiftRight_eq_div_pow, ← bits_shr]
  simp
theorem bits_one (m : BitVec 64) (k : Nat) : (bits .and .u64 ((m >>> k).toNat : Int) 1 == 1) = m.getLsbD k := by
  have h1 : (1 : Int) = ((1#64).toNat : Int) := rfl
  rw [h1, bits_and]
  have h2 : (m >>> k &&& 1#64) = if m.getLsbD k then 1#64 else 0#64 := by
    ext i hi
    by_cases e : i = 0
    · subst e
      cases h : m.getLsbD k <;> simp [h]
    · cases h : m.getLsbD k <;> simp [BitVec.getElem_one, e]
  rw [h2]
  cases m.getLsbD k <;> rfl

theorem bits_shrB (m : BitVec 64) (k : Nat) : (m.toNat : Int) / 2 ^ k = ((shrB m k).toNat : Int) := bits_shr m k
theorem bits_oneB (m : BitVec 64) (k : Nat) : (bits .and .u64 ((shrB m k).toNat : Int) 1 == 1) = m.getLsbD k := bits_one m k

/-- The registers of a list, as bits. -/
def setB (l : List Int) : BitVec 64 := l.foldl (fun m r => m ||| BitVec.twoPow 64 r.toNat) 0#64
theorem setB_snoc (l : List Int) (r : Int) : setB (l ++ [r]) = setB l ||| bitB r := by unfold setB; rw [List.foldl_append]; rfl
theorem foldB_bit (l : List Int) : ∀ (m : BitVec 64) (i : Nat), i < 64 → (∀ r ∈ l, 0 ≤ r ∧ r < 64) → ((l.foldl (fun m r => m ||| BitVec.twoPow 64 r.toNat) m).getLsbD i = true ↔ m.getLsbD i = true ∨ (i : Int) ∈ l) := by
  induction l with
  | nil => intro m i _ _; simp
  | cons x l ih =>
    intro m i hi h
    rw [List.foldl_cons, ih _ i hi fun r hr => h r (by simp [hr])]
    have hx := h x (by simp)
    rw [BitVec.getLsbD_or, BitVec.getLsbD_twoPow]
    simp only [Bool.or_eq_true, Bool.and_eq_true, decide_eq_true_eq, List.mem_cons]
    constructor
    · rintro ((h1 | ⟨_, h1⟩) | h1)
      · exact .inl h1
      · exact .inr (.inl (by omega))
      · exact .inr (.inr h1)
    · rintro (h1 | h1 | h1)
      · exact .inl (.inl h1)
      · exact .inl (.inr ⟨by omega, by omega⟩)
      · exact .inr h1
theorem setB_bit (l : List Int) (i : Nat) (hi : i < 64) (h : ∀ r ∈ l, 0 ≤ r ∧ r < 64) : (setB l).getLsbD i = true ↔ (i : Int) ∈ l := by
  unfold setB
  rw [foldB_bit l _ i hi h]
  simp
theorem setB_ext {l l' : List Int} (h : ∀ r ∈ l, 0 ≤ r ∧ r < 64) (h' : ∀ r ∈ l', 0 ≤ r ∧ r < 64) : setB l = setB l' ↔ ∀ r, r ∈ l ↔ r ∈ l' := by
  constructor
  · intro e r
    constructor
    · intro hr
      have hb := h r hr
      have h1 := (setB_bit l r.toNat (by omega) h).2 (by rw [show ((r.toNat : Nat) : Int) = r by omega]; exact hr)
      rw [e] at h1
      have := (setB_bit l' r.toNat (by omega) h').1 h1
      rw [show ((r.toNat : Nat) : Int) = r by omega] at this
      exact this
    · intro hr
      have hb := h' r hr
      have h1 := (setB_bit l' r.toNat (by omega) h').2 (by rw [show ((r.toNat : Nat) : Int) = r by omega]; exact hr)
      rw [← e] at h1
      have := (setB_bit l r.toNat (by omega) h).1 h1
      rw [show ((r.toNat : Nat) : Int) = r by omega] at this
      exact this
  · intro e
    apply BitVec.eq_of_getLsbD_eq
    intro i hi
    rw [Bool.eq_iff_iff, setB_bit l i hi h, setB_bit l' i hi h', e]
theorem setB_nil : setB [] = 0#64 := rfl
theorem setB_or {l a b : List Int} (hl : ∀ r ∈ l, 0 ≤ r ∧ r < 64) (ha : ∀ r ∈ a, 0 ≤ r ∧ r < 64) (hb : ∀ r ∈ b, 0 ≤ r ∧ r < 64) (h : ∀ r, r ∈ l ↔ r ∈ a ∨ r ∈ b) : setB l = setB a ||| setB b := by
  apply BitVec.eq_of_getLsbD_eq
  intro i hi
  rw [BitVec.getLsbD_or, Bool.eq_iff_iff, setB_bit l i hi hl, Bool.or_eq_true, setB_bit a i hi ha, setB_bit b i hi hb, h]
theorem setB_diff {l a b : List Int} (hl : ∀ r ∈ l, 0 ≤ r ∧ r < 64) (ha : ∀ r ∈ a, 0 ≤ r ∧ r < 64) (hb : ∀ r ∈ b, 0 ≤ r ∧ r < 64) (h : ∀ r, r ∈ l ↔ r ∈ a ∧ r ∉ b) : setB l = setB a &&& ~~~setB b := by
  apply BitVec.eq_of_getLsbD_eq
  intro i hi
  rw [BitVec.getLsbD_and, BitVec.getLsbD_not, Bool.eq_iff_iff, setB_bit l i hi hl, Bool.and_eq_true, setB_bit a i hi ha, h]
  have := setB_bit b i hi hb
  cases hq : (setB b).getLsbD i with
  | true => simp [hi, this.1 hq]
  | false =>
    have : (i : Int) ∉ b := fun hm => by rw [this.2 hm] at hq; cases hq
    simp [hi, this]

/-- The registers of a set in increasing order. -/
def listB (m : BitVec 64) (k : Nat) : List Int := ((List.range k).filter fun i => m.getLsbD i).map fun i : Nat => (i : Int)
theorem listB_succ (m : BitVec 64) (k : Nat) : listB m (k + 1) = listB m k ++ if m.getLsbD k then [(k : Int)] else [] := by
  unfold listB
  rw [List.range_succ, List.filter_append, List.map_append]
  cases h : m.getLsbD k <;> simp [List.filter_cons, h]
theorem listB_len (m : BitVec 64) (k : Nat) : (listB m k).length ≤ k := by
  unfold listB
  rw [List.length_map]
  exact Nat.le_trans (List.length_filter_le _ _) (by simp)
theorem listB_setB {l : List Int} (hi : Inc l) (h : ∀ r ∈ l, 0 ≤ r ∧ r < 64) : listB (setB l) 64 = l := by
  refine inc_ext _ _ ?_ hi fun x => ?_
  · unfold listB
    refine List.pairwise_map.2 ?_
    exact (List.Pairwise.filter _ List.pairwise_lt_range).imp (fun h => by omega)
  · unfold listB
    simp only [List.mem_map, List.mem_filter, List.mem_range]
    constructor
    · rintro ⟨i, ⟨h1, h2⟩, rfl⟩
      exact (setB_bit l i h1 h).1 h2
    · intro hx
      have := h x hx
      exact ⟨x.toNat, ⟨by omega, (setB_bit l _ (by omega) h).2 (by rw [show ((x.toNat : Nat) : Int) = x by omega]; exact hx)⟩, by omega⟩

end Go.Proofs.YteiohnfmlabelaaGreat

/-
  Package live's sets: from lists to bits and back.
-/
namespace Go.Proofs.YteiohnfmlabelaaGreat
set_option linter.unusedVariables false
set_option linter.unusedSimpArgs false
open Go.RowKit

set_option maxHeartbeats 1000000 in
theorem of_calls (lo : Nat) (v : Value) (l : List Int) (w : World) (hl : IntsAt lo w v l) (hr : ∀ r ∈ l, 0 ≤ r ∧ r < 64) :
    Calls Tryz.prog 79 #[v] w fun e w' => e = .returned (.int .u64 (setB l).toNat) ∧ w = w' := by
  obtain ⟨a, c, b, o, rfl, p1, q1, k1, _, _, m1, n1⟩ := hl.open
  have HR := hid hr
  have HQ := hid (And.intro p1 (And.intro q1 k1))
  clear p1 q1 k1 hr hl
  go_enter Tryz.func79, Tryz.ntmps79
  go_wp2_with fail
  go_loop [3, 8] (fun s i => ∃ k : Nat, k ≤ l.length ∧ i = .int .i64 k ∧ s = .int .u64 (setB (l.take k)).toNat) (fun _ i => l.length - (intOf i).toNat)
  case atStart => exact ⟨0, Nat.zero_le _, rfl, rfl⟩
  case round =>
    obtain ⟨k, hk, rfl, rfl⟩ := hrel
    by_cases hlt : k < l.length
    · obtain ⟨p1, q1, k1⟩ := HQ.out
      have e1 := p1 (by omega)
      subst e1
      have d0 := q1 k hlt
      have z1 := k1 (by omega)
      have hlt2 : (k : Int) < l.length := by omega
      have hm := HR.out _ (nth_mem l k hlt)
      have HSN := hid (show setB (l.take (k + 1)) = setB (l.take k) ||| bitB (nth l k) by
        rw [List.take_add_one, List.getElem?_eq_getElem hlt, nth_eq _ _ hlt]
        exact setB_snoc _ _)
      obtain ⟨r, hre⟩ : ∃ r, nth l k = r := ⟨_, rfl⟩
      rw [hre] at d0 hm HSN
      have hr0 : 0 ≤ r := hm.1
      have hr1 : r ≤ 64 := by omega
      have hr2 : r < 64 := hm.2
      have hsh := bits_bit r hr0 hr2
      clear p1 q1 k1 hm hre
      go_wp2_with fail
      go_round
      case rel => exact ⟨k + 1, by omega, by go_num, by rw [HSN.out, ← bits_or]⟩
      case measure => simp [intOf] <;> omega
    · go_wp2_with fail
      go_ret
      exact ⟨by rw [List.take_of_length_le (by omega)]; rfl, rfl⟩

theorem infoI14 : (Tryz.prog.info? 3).map (fun i => (i.zero, i.size, i.bytes)) = some (some (.int .i64 0), intE.sz, 8) := by kernel_rfl

end Go.Proofs.YteiohnfmlabelaaGreat
