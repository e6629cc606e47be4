/-
  A block of the call's own that holds a struct or a variable: all its cells are known.
-/
import Derived.Test.YtealeofgfgbheaaZRow
import Derived.Test.YtealeofgfgbheaaZRegS
namespace Go.Proofs.Ytealeofgfgbheaa
set_option linter.unusedVariables false
set_option linter.unusedSimpArgs false
open Go.RowKit

def BoxAt (w : World) (b : Nat) (t : TypeId) (vs : List Value) : Prop := w.heap[b]? = some (.cells vs.toArray t (0, 0))

theorem BoxAt.new (w : World) (cs : Array Value) (t : TypeId) (b : Nat) (vs : List Value) (hb : b = w.heap.size) (hv : cs.toList = vs) : BoxAt (w.alloc (.cells cs t)) b t vs := by
  subst hb hv
  show (w.heap.push _)[w.heap.size]? = _
  simp
theorem BoxAt.lt {w : World} {b : Nat} {t : TypeId} {vs : List Value} (h : BoxAt w b t vs) : b < w.heap.size := (Array.getElem?_eq_some_iff.1 h).1
theorem BoxAt.cell {w : World} {b : Nat} {t : TypeId} {vs : List Value} (h : BoxAt w b t vs) (k : Nat) (u : Value) (hk : vs[k]? = some u) : w.cell? ⟨b, k, none⟩ = some u := by
  unfold BoxAt at h
  simp [World.cell?, h, hk]
theorem BoxAt.frozen {w : World} {b : Nat} {t : TypeId} {vs : List Value} (h : BoxAt w b t vs) (k : Nat) : w.frozen? ⟨b, k, none⟩ = false := by
  unfold BoxAt at h
  simp [World.frozen?, h]
theorem BoxAt.ofBlock {w w' : World} {b : Nat} {t : TypeId} {vs : List Value} (h : BoxAt w b t vs) (hb : w'.heap[b]? = w.heap[b]?) : BoxAt w' b t vs := by
  unfold BoxAt; rw [hb]; exact h
theorem BoxAt.below {w w' : World} {b : Nat} {t : TypeId} {vs : List Value} (h : BoxAt w b t vs) (hb : Below w.heap.size w w') : BoxAt w' b t vs := h.ofBlock (hb.block _ h.lt)
theorem BoxAt.alloc {w : World} {b : Nat} {t : TypeId} {vs : List Value} (h : BoxAt w b t vs) (o : Obj) : BoxAt (w.alloc o) b t vs := h.below ((Below.refl _ _).alloc (Nat.le_refl _) _)
theorem BoxAt.other {w : World} {b : Nat} {t : TypeId} {vs : List Value} (h : BoxAt w b t vs) (a : Addr) (u : Value) (ha : b ≠ a.block) : BoxAt (w.setCell a u) b t vs := h.ofBlock (Below.heap_setCell _ _ _ _ ha)
theorem BoxAt.set {w : World} {b : Nat} {t : TypeId} {vs : List Value} (h : BoxAt w b t vs) (k : Nat) (u : Value) : BoxAt (w.setCell ⟨b, k, none⟩ u) b t (vs.set k u) := by
  unfold BoxAt at h ⊢
  simp [World.setCell, Array.getElem?_modify, h]
theorem BoxAt.drewN {w : World} {b : Nat} {t : TypeId} {vs : List Value} (h : BoxAt w b t vs) (n : Nat) : BoxAt (w.drewN n) b t vs := h
theorem BoxAt.drew {w : World} {b : Nat} {t : TypeId} {vs : List Value} (h : BoxAt w b t vs) : BoxAt w.drew b t vs := h
theorem BoxAt.row {w : World} {b : Nat} {t : TypeId} {vs : List Value} (h : BoxAt w b t vs) : b < w.heap.size ∧ ∀ (k : Nat) (u : Value), vs[k]? = some u → w.cell? ⟨b, k, none⟩ = some u := ⟨h.lt, h.cell⟩

/-- All blocks but perhaps one are as they were. -/
def Only (row : Option Nat) (w w' : World) : Prop := w.heap.size ≤ w'.heap.size ∧ ∀ k, k < w.heap.size → some k ≠ row → w'.heap[k]? = w.heap[k]?
theorem Only.refl (row : Option Nat) (w : World) : Only row w w := ⟨Nat.le_refl _, fun _ _ _ => rfl⟩
theorem Only.trans {row : Option Nat} {a b c : World} (h : Only row a b) (k : Only row b c) : Only row a c :=
  ⟨Nat.le_trans h.1 k.1, fun q hq hr => (k.2 q (Nat.lt_of_lt_of_le hq h.1) hr).trans (h.2 q hq hr)⟩
theorem Only.weak {row : Option Nat} {a b : World} (h : Only none a b) : Only row a b := ⟨h.1, fun k hk _ => h.2 k hk (by simp)⟩
theorem Only.below {w w' : World} (h : Below w.heap.size w w') (row : Option Nat) : Only row w w' := ⟨h.size, fun k hk _ => h.block k hk⟩
theorem Only.alloc (row : Option Nat) (w : World) (o : Obj) : Only row w (w.alloc o) := Only.below ((Below.refl _ _).alloc (Nat.le_refl _) _) _
theorem Only.store (w : World) (b k : Nat) (u : Value) : Only (some b) w (w.setCell ⟨b, k, none⟩ u) :=
  ⟨by simp [World.setCell], fun q _ hr => Below.heap_setCell _ _ _ _ (fun h => hr (by rw [h]))⟩
theorem Only.grown {row : Option Nat} {w w' : World} (h : w.grownBy w' row) : Only row w w' := ⟨h.size, fun k hk hr => h.block k hk hr⟩
theorem BoxAt.only {w w' : World} {b : Nat} {t : TypeId} {vs : List Value} {row : Option Nat} (h : BoxAt w b t vs) (ho : Only row w w') (hr : some b ≠ row) : BoxAt w' b t vs := h.ofBlock (ho.2 b h.lt hr)
theorem OwnE.only {α : Type} {E : Enc α} {base : Nat} {e : TypeId} {w w' : World} {v : Value} {l : List α} {row : Option Nat} (h : OwnE E base e w v l) (ho : Only row w w') (hr : ∀ k, v.ownBlock = some k → some k ≠ row) : OwnE E base e w' v l := by
  refine ⟨h.1, ?_⟩
  rcases h.2 with h0 | ⟨g, cap, cur, hv, hb, hg, r⟩
  · exact .inl h0
  · refine .inr ⟨g, cap, cur, hv, hb, ?_, r⟩
    rw [ho.2 g (Array.getElem?_eq_some_iff.1 hg).1 (hr g (by rw [hv]; rfl))]
    exact hg
/-- A row's block is one of its elements' type. -/
theorem OwnE.typed {α : Type} {E : Enc α} {base : Nat} {e : TypeId} {w : World} {v : Value} {l : List α} (h : OwnE E base e w v l) (k : Nat) (hk : v.ownBlock = some k) : ∃ cur, w.heap[k]? = some (.cells cur e (0, 0)) := by
  rcases h.2 with ⟨rfl, _⟩ | ⟨g, cap, cur, rfl, hb, hg, r⟩
  · cases hk
  · obtain rfl : g = k := by simpa [Value.ownBlock] using hk
    exact ⟨cur, hg⟩
theorem OwnE.neBox {α : Type} {E : Enc α} {base : Nat} {e : TypeId} {w : World} {v : Value} {l : List α} {b : Nat} {t : TypeId} {vs : List Value} (h : OwnE E base e w v l) (hb : BoxAt w b t vs) (hne : e ≠ t) : ∀ k, v.ownBlock = some k → some k ≠ some b := by
  intro k hk he
  cases he
  obtain ⟨cur, hc⟩ := h.typed b hk
  unfold BoxAt at hb
  rw [hc] at hb
  simp at hb
  exact hne hb.2
theorem OwnE.neRow {α β : Type} {E : Enc α} {E' : Enc β} {base base' : Nat} {e e' : TypeId} {w : World} {v v' : Value} {l : List α} {l' : List β} (h : OwnE E base e w v l) (h' : OwnE E' base' e' w v' l') (hne : e ≠ e') : ∀ k, v.ownBlock = some k → some k ≠ v'.ownBlock := by
  intro k hk he
  obtain ⟨cur, hc⟩ := h.typed k hk
  obtain ⟨cur', hc'⟩ := h'.typed k he.symm
  rw [hc] at hc'
  simp at hc'
  exact hne hc'.2
theorem BoxAt.neRow {α : Type} {E : Enc α} {base : Nat} {e : TypeId} {w : World} {v : Value} {l : List α} {b : Nat} {t : TypeId} {vs : List Value} (hb : BoxAt w b t vs) (h : OwnE E base e w v l) (hne : e ≠ t) : some b ≠ v.ownBlock := fun he => h.neBox hb hne b he.symm rfl
theorem BoxAt.neBox {w : World} {b b' : Nat} {t t' : TypeId} {vs vs' : List Value} (h : BoxAt w b t vs) (h' : BoxAt w b' t' vs') (hne : t ≠ t') : some b ≠ some b' := by
  intro he
  cases he
  unfold BoxAt at h h'
  rw [h] at h'
  simp at h'
  exact hne h'.2

end Go.Proofs.Ytealeofgfgbheaa

/-
  Short forms for worlds that follow one another.
-/
namespace Go.Proofs.Ytealeofgfgbheaa
set_option linter.unusedVariables false
set_option linter.unusedSimpArgs false
open Go.RowKit

theorem bvia {w W w' : World} (h : Below w.heap.size w W) (h' : Below W.heap.size W w') : Below w.heap.size w w' := h.trans (h'.mono h.size)
theorem bdraw {w w' : World} (h : Below w.heap.size w w') (n : Nat) : Below w.heap.size w (w'.drewN n) := h.trans ⟨rfl, rfl, rfl, Nat.le_refl _, fun _ _ => rfl⟩
theorem bone {w w' : World} (h : Below w.heap.size w w') (o : Obj) : Below w.heap.size w (w'.alloc o) := h.alloc h.size o
theorem bstore {w w' : World} (h : Below w.heap.size w w') (b k : Nat) (u : Value) (hb : w.heap.size ≤ b) : Below w.heap.size w (w'.setCell ⟨b, k, none⟩ u) := h.setCell hb u

end Go.Proofs.Ytealeofgfgbheaa

/-
  Steps of a region with stores of its own: a call whose value has a form, a variable, a program laid into it.
-/
namespace Go.Proofs.Ytealeofgfgbheaa
set_option linter.unusedVariables false
set_option linter.unusedSimpArgs false
open Go.RowKit

/-- What a call has made, with the form of its value. -/
def shapeF (B : Nat) (q : Value → Prop) (ne : ∃ v, q v) (D : Nat → World → Value → Prop) : FactT where
  q := q
  ne := ne
  p v F w := ∃ lo w1, B ≤ lo ∧ (∀ k, F k ↔ (lo ≤ k ∧ k < w1.heap.size)) ∧ Keep lo w1 w ∧ D lo w1 v
  st v F w w' h hk := by
    obtain ⟨lo, w1, hB, hF, hK, hD⟩ := h
    exact ⟨lo, w1, hB, hF, fun k h1 h2 => (hk k ((hF k).2 ⟨h1, h2⟩)).trans (hK k h1 h2), hD⟩
/-- A variable that the region makes. -/
def varF (B : Nat) (t : TypeId) (vs : List Value) : FactT where
  q v := ∃ b, v = .pointer (some ⟨b, 0, none⟩)
  ne := ⟨_, 0, rfl⟩
  p v F w := ∃ b, v = .pointer (some ⟨b, 0, none⟩) ∧ B ≤ b ∧ BoxAt w b t vs ∧ ∀ k, F k ↔ k = b
  st v F w w' h hk := by
    obtain ⟨b, h1, h2, h3, h4⟩ := h
    exact ⟨b, h1, h2, h3.ofBlock (hk b ((h4 b).2 rfl)), h4⟩
/-- A struct of four cells laid into a variable that the region has made. -/
def layF (t : TypeId) : FactT where
  q v := ∃ b x y z m, v = .tuple #[.pointer (some ⟨b, 0, none⟩), .agg #[x, y, z, m]]
  ne := ⟨_, 0, undef, undef, undef, undef, rfl⟩
  p v F w := ∃ b x y z m, v = .tuple #[.pointer (some ⟨b, 0, none⟩), .agg #[x, y, z, m]] ∧ BoxAt w b t [x, y, z, m] ∧ ∀ k, F k ↔ k = b
  st v F w w' h hk := by
    obtain ⟨b, x, y, z, m, h1, h2, h3⟩ := h
    exact ⟨b, x, y, z, m, h1, h2.ofBlock (hk b ((h3 b).2 rfl)), h3⟩

namespace RegS.Plan
set_option linter.unusedVariables false
set_option linter.unusedSimpArgs false
variable {R : RegS.Plan} {P : Program} {Q : Exit → Act → World → Prop} {B : Nat} {w0 : World} {fs : List (Nat × FactT)} {i : Nat} {o : Oper} {l : List Oper} {a : Act} {vals : Nat → Value}

theorem runs_shape (f : FuncId) (args : Array Value) (q : Value → Prop) (ne : ∃ v, q v) (D : Nat → World → Value → Prop) (hk : R.kinds i = .new) (hw : Region.wanted o (yielded R.ops a.tmps) = true) (d : Tmp) (hd1 : o.dst = some d) (hd2 : Nat.ble (d + 1) a.tmps.size = true)
    (hrun : ∀ F w, Below B w0 w → R.FactsF fs i vals F w → (execOp a.eval o).run P w = .ok (.enter f args) w)
    (hi : phi fs i = shapeF B q ne D) (hB : B ≤ w0.heap.size)
    (hcall : ∀ F w, Below B w0 w → R.FactsF fs i vals F w → Calls P f args w fun e w' => ∃ v, e = .returned v ∧ q v ∧ D w.heap.size w' v ∧ Below w.heap.size w w')
    (h : ∀ v, q v → R.RunsF P Q B w0 fs (i + 1) l (a.put o.dst v) (put vals i v)) : R.RunsF P Q B w0 fs i (o :: l) a vals := by
  refine runs_new hk hw d hd1 hd2 (fun F w h1 h2 K hK => ?_) (fun v hv => h v (by rw [hi] at hv; exact hv))
  unfold Oper.wp
  rw [hrun F w h1 h2]
  refine Calls.mono (hcall F w h1 h2) ?_
  rintro e w' ⟨v, rfl, hq, hD, hb⟩
  refine hK v w' (fun k => w.heap.size ≤ k ∧ k < w'.heap.size) (by rw [hi]; exact hq) hb ?_ (fun k hk => .inr hk)
  rw [hi]
  exact ⟨_, w', Nat.le_trans hB h1.size, fun k => Iff.rfl, Keep.refl _ _, hD⟩
theorem runs_alloc (t : TypeId) (vs : List Value) (hk : R.kinds i = .new) (hw : Region.wanted o (yielded R.ops a.tmps) = true) (d : Tmp) (hd1 : o.dst = some d) (hd2 : Nat.ble (d + 1) a.tmps.size = true)
    (hrun : ∀ w, (execOp a.eval o).run P w = .ok (.value (.pointer (some ⟨w.heap.size, 0, none⟩))) (w.alloc (.cells vs.toArray t)))
    (hi : phi fs i = varF B t vs) (hB : B ≤ w0.heap.size)
    (h : ∀ b, R.RunsF P Q B w0 fs (i + 1) l (a.put o.dst (.pointer (some ⟨b, 0, none⟩))) (put vals i (.pointer (some ⟨b, 0, none⟩)))) : R.RunsF P Q B w0 fs i (o :: l) a vals := by
  refine runs_new hk hw d hd1 hd2 (fun F w h1 h2 K hK => ?_) (fun v hv => ?_)
  · unfold Oper.wp
    rw [hrun w]
    refine hK _ _ (fun k => k = w.heap.size) (by rw [hi]; exact ⟨_, rfl⟩) ((Below.refl _ _).alloc (Nat.le_refl _) _) ?_ (fun k hk => .inr (by subst hk; simp))
    rw [hi]
    exact ⟨_, rfl, Nat.le_trans hB h1.size, BoxAt.new _ _ _ _ _ rfl (by simp), fun k => Iff.rfl⟩
  · rw [hi] at hv
    obtain ⟨b, rfl⟩ := hv
    exact h b
theorem runs_put4 {c : Nat} (t : TypeId) (b : Nat) (x y z m o0 o1 o2 o3 : Value) (hk : R.kinds i = .st c) (hw : Region.wanted o (yielded R.ops a.tmps) = true) (hd : o.dst = none)
    (hl : R.linkV vals i = .tuple #[.pointer (some ⟨b, 0, none⟩), .agg #[x, y, z, m]]) (hc : phi fs c = varF B t [o0, o1, o2, o3]) (hcv : vals c = .pointer (some ⟨b, 0, none⟩)) (hcd : (R.deps i).contains c = true) (hcn : (R.kinds c).isNew = true) (hcc : R.cons c = some i) (hi : phi fs i = layF t)
    (hrun : ∀ w, BoxAt w b t [o0, o1, o2, o3] → (execOp a.eval o).run P w = .ok .skip ((((w.setCell ⟨b, 0, none⟩ x).setCell ⟨b, 1, none⟩ y).setCell ⟨b, 2, none⟩ z).setCell ⟨b, 3, none⟩ m))
    (h : R.RunsF P Q B w0 fs (i + 1) l a (put vals i (.tuple #[.pointer (some ⟨b, 0, none⟩), .agg #[x, y, z, m]]))) : R.RunsF P Q B w0 fs i (o :: l) a vals := by
  refine runs_st hk hw hd (by rw [hl, hi]; exact ⟨_, _, _, _, _, rfl⟩) (fun F w h1 h2 K hK => ?_) (by rw [hl]; exact h)
  have hf := h2 c hcd hcn (.inr hcc)
  dsimp only at hf
  rw [hc, hcv] at hf
  obtain ⟨b', e1, hBb, hx, hF⟩ := hf
  obtain rfl : b = b' := by simpa using e1
  have hx1 := (((hx.set 0 x).set 1 y).set 2 z).set 3 m
  have hO : ∀ (u : Value) (k : Nat) (x : World), Only (some b) x (x.setCell ⟨b, k, none⟩ u) := fun u k x => Only.store x _ k u
  have hB0 : ∀ (u : Value) (k : Nat) (x : World), Below B x (x.setCell ⟨b, k, none⟩ u) := fun u k x => (Below.refl B x).setCell (p := ⟨b, k, none⟩) hBb u
  have hOO := (((hO x 0 w).trans (hO y 1 _)).trans (hO z 2 _)).trans (hO m 3 _)
  have hkey : ∀ k, some k = some b → F c k ∧ B ≤ k := fun k e => by
    obtain rfl : k = b := by simpa using e
    exact ⟨(hF k).2 rfl, hBb⟩
  unfold Oper.wp
  rw [hrun w hx]
  have hpa : a.put o.dst undef = a := by rw [hd]; rfl
  show K (a.put o.dst undef) _
  rw [hpa]
  refine hK _ (fun k => k = b) ((((hB0 x 0 w).trans (hB0 y 1 _)).trans (hB0 z 2 _)).trans (hB0 m 3 _)) (fun k hk hn => hOO.2 k hk (fun e => hn (hkey k e))) ?_ (fun k hk => .inr (.inl ((hF k).2 hk)))
  rw [hl, hi]
  exact ⟨b, x, y, z, m, rfl, hx1, fun k => Iff.rfl⟩
theorem rest_fact {f : FactT} {F : Nat → Nat → Prop} {w : World} (h : R.Rest B (fun j => (phi fs j).p) vals F w) (c : Nat) (hc : phi fs c = f) (hcd : Nat.ble (c + 1) R.ops.size = true) (hcn : (R.kinds c).isNew = true) (hcc : R.cons c = none) : f.p (vals c) (F c) w := by
  have hf := h.1 c (Nat.le_of_ble_eq_true hcd) hcn hcc
  dsimp only at hf
  rw [hc] at hf
  exact hf
end RegS.Plan

end Go.Proofs.Ytealeofgfgbheaa
