/-
  A block of the call's own that holds a struct or a variable: all its cells are known.
-/
import Derived.Test.YtihcngjkflaelaaGreatDoorZRow
namespace Go.Proofs.YtihcngjkflaelaaGreatDoor
set_option linter.unusedVariables false
set_option linter.unusedSimpArgs false
open Go.RowKit

def BoxAt (w : World) (b : Nat) (t : TypeId) (vs : List Value) : Prop := w.heap[b]? = some (.cells vs.toArray t (0, 0))

theorem BoxAt.new (w : World) (cs : Array Value) (t : TypeId) (b : Nat) (vs : List Value) (hb : b = w.heap.size) (hv : cs.toList = vs) : BoxAt (w.alloc (.cells cs t)) b t vs := by
  subst hb hv
  show (w.heap.push _)[w.heap.size]? = _
  simp
theorem BoxAt.lt {w : World} {b : Nat} {t : TypeId} {vs : List Value} (h : BoxAt w b t vs) : b < w.heap.size := (Array.getElem?_eq_some_iff.1 h).1
theorem BoxAt.cell {w : World} {b : Nat} {t : TypeId} {vs : List Value} (h : BoxAt w b t vs) (k : Nat) (u : Value) (hk : vs[k]? = some u) : w.cell? ⟨b, k, none⟩ = some u := by
  unfold BoxAt at h
  simp [World.cell?, h, hk]
theorem BoxAt.frozen {w : World} {b : Nat} {t : TypeId} {vs : List Value} (h : BoxAt w b t vs) (k : Nat) : w.frozen? ⟨b, k, none⟩ = false := by
  unfold BoxAt at h
  simp [World.frozen?, h]
theorem BoxAt.ofBlock {w w' : World} {b : Nat} {t : TypeId} {vs : List Value} (h : BoxAt w b t vs) (hb : w'.heap[b]? = w.heap[b]?) : BoxAt w' b t vs := by
  unfold BoxAt; rw [hb]; exact h
theorem BoxAt.below {w w' : World} {b : Nat} {t : TypeId} {vs : List Value} (h : BoxAt w b t vs) (hb : Below w.heap.size w w') : BoxAt w' b t vs := h.ofBlock (hb.block _ h.lt)
theorem BoxAt.alloc {w : World} {b : Nat} {t : TypeId} {vs : List Value} (h : BoxAt w b t vs) (o : Obj) : BoxAt (w.alloc o) b t vs := h.below ((Below.refl _ _).alloc (Nat.le_refl _) _)
theorem BoxAt.other {w : World} {b : Nat} {t : TypeId} {vs : List Value} (h : BoxAt w b t vs) (a : Addr) (u : Value) (ha : b ≠ a.block) : BoxAt (w.setCell a u) b t vs := h.ofBlock (Below.heap_setCell _ _ _ _ ha)
theorem BoxAt.set {w : World} {b : Nat} {t : TypeId} {vs : List Value} (h : BoxAt w b t vs) (k : Nat) (u : Value) : BoxAt (w.setCell ⟨b, k, none⟩ u) b t (vs.set k u) := by
  unfold BoxAt at h ⊢
  simp [World.setCell, Array.getElem?_modify, h]
theorem BoxAt.drewN {w : World} {b : Nat} {t : TypeId} {vs : List Value} (h : BoxAt w b t vs) (n : Nat) : BoxAt (w.drewN n) b t vs := h
theorem BoxAt.drew {w : World} {b : Nat} {t : TypeId} {vs : List Value} (h : BoxAt w b t vs) : BoxAt w.drew b t vs := h
theorem BoxAt.row {w : World} {b : Nat} {t : TypeId} {vs : List Value} (h : BoxAt w b t vs) : b < w.heap.size ∧ ∀ (k : Nat) (u : Value), vs[k]? = some u → w.cell? ⟨b, k, none⟩ = some u := ⟨h.lt, h.cell⟩

/-- All blocks but perhaps one are as they were. -/
def Only (row : Option Nat) (w w' : World) : Prop := w.heap.size ≤ w'.heap.size ∧ ∀ k, k < w.heap.size → some k ≠ row → w'.heap[k]? = w.heap[k]?
theorem Only.refl (row : Option Nat) (w : World) : Only row w w := ⟨Nat.le_refl _, fun _ _ _ => rfl⟩
theorem Only.trans {row : Option Nat} {a b c : World} (h : Only row a b) (k : Only row b c) : Only row a c :=
  ⟨Nat.le_trans h.1 k.1, fun q hq hr => (k.2 q (Nat.lt_of_lt_of_le hq h.1) hr).trans (h.2 q hq hr)⟩
theorem Only.weak {row : Option Nat} {a b : World} (h : Only none a b) : Only row a b := ⟨h.1, fun k hk _ => h.2 k hk (by simp)⟩
theorem Only.below {w w' : World} (h : Below w.heap.size w w') (row : Option Nat) : Only row w w' := ⟨h.size, fun k hk _ => h.block k hk⟩
theorem Only.alloc (row : Option Nat) (w : World) (o : Obj) : Only row w (w.alloc o) := Only.below ((Below.refl _ _).alloc (Nat.le_refl _) _) _
theorem Only.store (w : World) (b k : Nat) (u : Value) : Only (some b) w (w.setCell ⟨b, k, none⟩ u) :=
  ⟨by simp [World.setCell], fun q _ hr => Below.heap_setCell _ _ _ _ (fun h => hr (by rw [h]))⟩
theorem Only.grown {row : Option Nat} {w w' : World} (h : w.grownBy w' row) : Only row w w' := ⟨h.size, fun k hk hr => h.block k hk hr⟩
theorem BoxAt.only {w w' : World} {b : Nat} {t : TypeId} {vs : List Value} {row : Option Nat} (h : BoxAt w b t vs) (ho : Only row w w') (hr : some b ≠ row) : BoxAt w' b t vs := h.ofBlock (ho.2 b h.lt hr)
theorem OwnE.only {α : Type} {E : Enc α} {base : Nat} {e : TypeId} {w w' : World} {v : Value} {l : List α} {row : Option Nat} (h : OwnE E base e w v l) (ho : Only row w w') (hr : ∀ k, v.ownBlock = some k → some k ≠ row) : OwnE E base e w' v l := by
  refine ⟨h.1, ?_⟩
  rcases h.2 with h0 | ⟨g, cap, cur, hv, hb, hg, r⟩
  · exact .inl h0
  · refine .inr ⟨g, cap, cur, hv, hb, ?_, r⟩
    rw [ho.2 g (Array.getElem?_eq_some_iff.1 hg).1 (hr g (by rw [hv]; rfl))]
    exact hg
/-- A row's block is one of its elements' type. -/
theorem OwnE.typed {α : Type} {E : Enc α} {base : Nat} {e : TypeId} {w : World} {v : Value} {l : List α} (h : OwnE E base e w v l) (k : Nat) (hk : v.ownBlock = some k) : ∃ cur, w.heap[k]? = some (.cells cur e (0, 0)) := by
  rcases h.2 with ⟨rfl, _⟩ | ⟨g, cap, cur, rfl, hb, hg, r⟩
  · cases hk
  · obtain rfl : g = k := by simpa [Value.ownBlock] using hk
    exact ⟨cur, hg⟩
theorem OwnE.neBox {α : Type} {E : Enc α} {base : Nat} {e : TypeId} {w : World} {v : Value} {l : List α} {b : Nat} {t : TypeId} {vs : List Value} (h : OwnE E base e w v l) (hb : BoxAt w b t vs) (hne : e ≠ t) : ∀ k, v.ownBlock = some k → some k ≠ some b := by
  intro k hk he
  cases he
  obtain ⟨cur, hc⟩ := h.typed b hk
  unfold BoxAt at hb
  rw [hc] at hb
  simp at hb
  exact hne hb.2
theorem OwnE.neRow {α β : Type} {E : Enc α} {E' : Enc β} {base base' : Nat} {e e' : TypeId} {w : World} {v v' : Value} {l : List α} {l' : List β} (h : OwnE E base e w v l) (h' : OwnE E' base' e' w v' l') (hne : e ≠ e') : ∀ k, v.ownBlock = some k → some k ≠ v'.ownBlock := by
  intro k hk he
  obtain ⟨cur, hc⟩ := h.typed k hk
  obtain ⟨cur', hc'⟩ := h'.typed k he.symm
  rw [hc] at hc'
  simp at hc'
  exact hne hc'.2
theorem BoxAt.neRow {α : Type} {E : Enc α} {base : Nat} {e : TypeId} {w : World} {v : Value} {l : List α} {b : Nat} {t : TypeId} {vs : List Value} (hb : BoxAt w b t vs) (h : OwnE E base e w v l) (hne : e ≠ t) : some b ≠ v.ownBlock := fun he => h.neBox hb hne b he.symm rfl
theorem BoxAt.neBox {w : World} {b b' : Nat} {t t' : TypeId} {vs vs' : List Value} (h : BoxAt w b t vs) (h' : BoxAt w b' t' vs') (hne : t ≠ t') : some b ≠ some b' := by
  intro he
  cases he
  unfold BoxAt at h h'
  rw [h] at h'
  simp at h'
  exact hne h'.2

end Go.Proofs.YtihcngjkflaelaaGreatDoor
