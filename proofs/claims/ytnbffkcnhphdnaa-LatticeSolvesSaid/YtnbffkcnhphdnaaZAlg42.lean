/-
  The iteration over waiting nodes: what holds of it, in plain words.
-/
import Derived.Test.YtnbffkcnhphdnaaZState42
namespace Go.Proofs.Ytnbffkcnhphdnaa
set_option linter.unusedVariables false
set_option linter.unusedSimpArgs false
open Go.RowKit

section
variable {α : Type} [Inhabited α] {n : Nat} {E : List Edg} {join : α → α → α} {tr : Nat → α → α} {Ok : α → Prop} {s0 : List α} {μ : List α → Nat}

def Sat (E : List Edg) (join : α → α → α) (tr : Nat → α → α) (u : List α) (i : Nat) : Prop := join (nth u (nth E i).dst.toNat) (tr i (nth u (nth E i).src.toNat)) = nth u (nth E i).dst.toNat
structure Alg (n : Nat) (E : List Edg) (join : α → α → α) (tr : Nat → α → α) (Ok : α → Prop) (s0 : List α) (μ : List α → Nat) : Prop where
  jok : ∀ a b, Ok a → Ok b → Ok (join a b)
  tok : ∀ i a, i < E.length → Ok a → Ok (tr i a)
  absorb : ∀ a t y, Ok a → Ok t → Ok y → join a t = a → join (join a y) t = join a y
  idem : ∀ a y, Ok a → Ok y → join (join a y) y = join a y
  len0 : s0.length = n
  ok0 : ∀ i, i < n → Ok (nth s0 i)
  drop : ∀ u i, Steps n E join tr s0 u → i < E.length → insideB n (nth E i) = true → ¬ Sat E join tr u i → μ (u.set (nth E i).dst.toNat (join (nth u (nth E i).dst.toNat) (tr i (nth u (nth E i).src.toNat)))) < μ u

theorem Alg.steps (h : Alg n E join tr Ok s0 μ) {u : List α} (hs : Steps n E join tr s0 u) : u.length = n ∧ ∀ i, i < n → Ok (nth u i) := by
  induction hs with
  | refl => exact ⟨h.len0, h.ok0⟩
  | step i _ hi hin ih =>
    have hb := (insideB_iff n _).1 hin
    have hok := fun j hj => ih.2 j hj
    refine ⟨by simpa using ih.1, fun j hj => ?_⟩
    rw [nth_setV _ _ _ _ (by rw [ih.1]; omega)]
    split
    · exact h.jok _ _ (hok _ (by omega)) (h.tok _ _ hi (hok _ (by omega)))
    · exact hok j hj

/-- The edges of the nodes that don't wait are satisfied. -/
def Cl (n : Nat) (E : List Edg) (join : α → α → α) (tr : Nat → α → α) (u : List α) (l : List Int) : Prop := ∀ j, j < E.length → insideB n (nth E j) = true → (nth E j).src ∉ l → Sat E join tr u j
/-- .. while the edges of node A are gone through. -/
def Cb (n : Nat) (E : List Edg) (join : α → α → α) (tr : Nat → α → α) (u : List α) (l : List Int) (A q : Nat) : Prop :=
  (∀ j, j < E.length → insideB n (nth E j) = true → (nth E j).src ≠ A → (nth E j).src ∉ l → Sat E join tr u j) ∧ ((A : Int) ∈ l ∨ ∀ p, p < q → Sat E join tr u (nth (outE E n E.length A) p).toNat)

theorem Cl.start {u : List α} {A : Nat} {l : List Int} (h : Cl n E join tr u ((A : Int) :: l)) : Cb n E join tr u l A 0 :=
  ⟨fun j hj hin hne hnl => h j hj hin (by simp [hne, hnl]), .inr fun p hp => by omega⟩
theorem Cb.end {u : List α} {A : Nat} {l : List Int} (h : Cb n E join tr u l A (outE E n E.length A).length) : Cl n E join tr u l := by
  intro j hj hin hnl
  by_cases e : (nth E j).src = A
  · rcases h.2 with h2 | h2
    · rw [e] at hnl; exact absurd h2 hnl
    · have hm : (j : Int) ∈ outE E n E.length A := (outE_mem _ _ _ _ _).2 ⟨j, rfl, hj, hin, e⟩
      obtain ⟨p, hp, he⟩ := List.mem_iff_getElem.1 hm
      have := h2 p hp
      rw [nth_eq _ _ hp, he, Int.toNat_natCast] at this
      exact this
  · exact h.1 j hj hin e hnl
theorem outE_at (A p : Nat) (hp : p < (outE E n E.length A).length) : ∃ X : Nat, nth (outE E n E.length A) p = X ∧ X < E.length ∧ insideB n (nth E X) = true ∧ (nth E X).src = A := by
  obtain ⟨j, h1, h2, h3, h4⟩ := (outE_mem _ _ _ _ _).1 (nth_mem _ p hp)
  exact ⟨j, h1, h2, h3, h4⟩
theorem Cb.stay {u : List α} {A q X : Nat} {l : List Int} (h : Cb n E join tr u l A q) (hX : nth (outE E n E.length A) q = X) (hs : Sat E join tr u X) : Cb n E join tr u l A (q + 1) := by
  refine ⟨h.1, h.2.imp id fun h2 p hp => ?_⟩
  rcases Nat.lt_succ_iff_lt_or_eq.1 hp with e | e
  · exact h2 p e
  · subst e; rw [hX, Int.toNat_natCast]; exact hs

theorem Alg.sat_set (h : Alg n E join tr Ok s0 μ) {u : List α} (hs : Steps n E join tr s0 u) {i j : Nat} (hi : i < E.length) (hin : insideB n (nth E i) = true) (hj : j < E.length) (hjn : insideB n (nth E j) = true) (hne : (nth E j).src ≠ (nth E i).dst) (hsat : Sat E join tr u j) :
    Sat E join tr (u.set (nth E i).dst.toNat (join (nth u (nth E i).dst.toNat) (tr i (nth u (nth E i).src.toNat)))) j := by
  obtain ⟨hl, hok⟩ := h.steps hs
  have hb := (insideB_iff n _).1 hin
  have hc := (insideB_iff n _).1 hjn
  unfold Sat at *
  rw [nth_setV _ _ _ _ (by rw [hl]; omega), nth_setV _ _ _ _ (by rw [hl]; omega), if_neg (show (nth E i).dst.toNat ≠ (nth E j).src.toNat by omega)]
  split
  · rename_i e
    rw [← e] at hsat
    exact h.absorb _ _ _ (hok _ (by omega)) (h.tok _ _ hj (hok _ (by omega))) (h.tok _ _ hi (hok _ (by omega))) hsat
  · exact hsat
theorem Alg.sat_self (h : Alg n E join tr Ok s0 μ) {u : List α} (hs : Steps n E join tr s0 u) {i : Nat} (hi : i < E.length) (hin : insideB n (nth E i) = true) (hne : (nth E i).src ≠ (nth E i).dst) :
    Sat E join tr (u.set (nth E i).dst.toNat (join (nth u (nth E i).dst.toNat) (tr i (nth u (nth E i).src.toNat)))) i := by
  obtain ⟨hl, hok⟩ := h.steps hs
  have hb := (insideB_iff n _).1 hin
  unfold Sat
  rw [nth_setV _ _ _ _ (by rw [hl]; omega), if_pos rfl, nth_setV _ _ _ _ (by rw [hl]; omega), if_neg (show (nth E i).dst.toNat ≠ (nth E i).src.toNat by omega)]
  exact h.idem _ _ (hok _ (by omega)) (h.tok _ _ hi (hok _ (by omega)))
/-- One edge has changed its node's value; the node waits. -/
theorem Alg.change (h : Alg n E join tr Ok s0 μ) {u : List α} (hs : Steps n E join tr s0 u) {A q X : Nat} {l l2 : List Int} (hcb : Cb n E join tr u l A q) (hX : nth (outE E n E.length A) q = X) (hXE : X < E.length) (hin : insideB n (nth E X) = true) (hsrc : (nth E X).src = A)
    (hq : q < (outE E n E.length A).length) (hl2 : ∀ x, x ∈ l → x ∈ l2) (hd : (nth E X).dst ∈ l2) :
    Cb n E join tr (u.set (nth E X).dst.toNat (join (nth u (nth E X).dst.toNat) (tr X (nth u (nth E X).src.toNat)))) l2 A (q + 1) := by
  refine ⟨fun j hj hjn hne hnl => h.sat_set hs hXE hin hj hjn (fun e => hnl (by rw [e]; exact hd)) (hcb.1 j hj hjn hne fun hm => hnl (hl2 _ hm)), ?_⟩
  by_cases e : (nth E X).dst = A
  · left; rw [← e]; exact hd
  · rcases hcb.2 with h2 | h2
    · exact .inl (hl2 _ h2)
    · right
      intro p hp
      rcases Nat.lt_succ_iff_lt_or_eq.1 hp with e2 | e2
      · obtain ⟨Y, hY, hYE, hYin, hYs⟩ := outE_at (E := E) (n := n) A p (by omega)
        have := h2 p e2
        rw [hY, Int.toNat_natCast] at this ⊢
        exact h.sat_set hs hXE hin hYE hYin (by rw [hYs]; exact fun e3 => e e3.symm) this
      · subst e2
        rw [hX, Int.toNat_natCast]
        exact h.sat_self hs hXE hin (by rw [hsrc]; exact fun e3 => e e3.symm)
theorem Cl.closed {u : List α} (h : Cl n E join tr u []) : ClosedV n E join tr u := fun j hj hin => h j hj hin (by simp)
theorem Cl.all (u : List α) (hE : True) : Cl n E join tr u (iotaL n) := fun j hj hin hno => by
  exfalso
  have hb := (insideB_iff n _).1 hin
  exact hno ((iotaL_mem _ _).2 ⟨(nth E j).src.toNat, by omega, by omega⟩)
end

end Go.Proofs.Ytnbffkcnhphdnaa
