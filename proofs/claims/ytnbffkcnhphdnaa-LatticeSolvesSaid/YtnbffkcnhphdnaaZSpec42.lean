/-
  Sets and data-flow equations: the operations, both systems of equations, their least and greatest solutions, and what a list of waiting nodes comes to.
-/
import Derived.Test.YtnbffkcnhphdnaaZRow
namespace Go.Proofs.Ytnbffkcnhphdnaa
set_option linter.unusedVariables false
set_option linter.unusedSimpArgs false
open Go.RowKit

structure Edg where
  src : Int
  dst : Int
  kill : List Int
  gen : List Int
instance : Inhabited Edg := ⟨⟨0, 0, [], []⟩⟩

def meetL (a b : List Int) : List Int := a.filter fun x => decide (x ∈ b)
def minusL (a b : List Int) : List Int := a.filter fun x => !decide (x ∈ b)
def unionL (a b : List Int) : List Int := setL (a ++ b)
def thru (e : Edg) (x : List Int) : List Int := unionL (minusL x e.kill) (setL e.gen)
def insideB (n : Nat) (e : Edg) : Bool := decide (0 ≤ e.src) && (decide (e.src < n) && (decide (0 ≤ e.dst) && decide (e.dst < n)))

theorem meetL_mem (a b : List Int) (x : Int) : x ∈ meetL a b ↔ x ∈ a ∧ x ∈ b := by unfold meetL; rw [List.mem_filter]; simp
theorem minusL_mem (a b : List Int) (x : Int) : x ∈ minusL a b ↔ x ∈ a ∧ x ∉ b := by unfold minusL; rw [List.mem_filter]; simp
theorem unionL_mem (a b : List Int) (x : Int) : x ∈ unionL a b ↔ x ∈ a ∨ x ∈ b := by unfold unionL; rw [setL_mem, List.mem_append]
theorem meetL_inc {a : List Int} (b : List Int) (h : Inc a) : Inc (meetL a b) := h.filter _
theorem minusL_inc {a : List Int} (b : List Int) (h : Inc a) : Inc (minusL a b) := h.filter _
theorem unionL_inc (a b : List Int) : Inc (unionL a b) := setL_inc _
theorem thru_inc (e : Edg) (x : List Int) : Inc (thru e x) := setL_inc _
theorem thru_mem (e : Edg) (x : List Int) (y : Int) : y ∈ thru e x ↔ (y ∈ x ∧ y ∉ e.kill) ∨ y ∈ e.gen := by unfold thru; rw [unionL_mem, minusL_mem, setL_mem]
theorem thru_mono (e : Edg) {x x' : List Int} (h : ∀ r ∈ x, r ∈ x') (r : Int) (hr : r ∈ thru e x) : r ∈ thru e x' := by
  rw [thru_mem] at *
  exact hr.imp (fun ⟨a, b⟩ => ⟨h r a, b⟩) id
theorem minusL_set (a b : List Int) : minusL a (setL b) = minusL a b := by
  unfold minusL
  refine List.filter_congr fun x _ => ?_
  simp only [setL_mem]
theorem meetL_set (a b : List Int) : meetL a (setL b) = meetL a b := by
  unfold meetL
  refine List.filter_congr fun x _ => ?_
  simp only [setL_mem]
theorem insideB_iff (n : Nat) (e : Edg) : insideB n e = true ↔ 0 ≤ e.src ∧ e.src < n ∧ 0 ≤ e.dst ∧ e.dst < n := by
  unfold insideB
  simp only [Bool.and_eq_true, decide_eq_true_eq]
theorem setL_id {l : List Int} (h : Inc l) : setL l = l := inc_ext _ _ (setL_inc l) h fun x => setL_mem l x

/-- The right sides. -/
def mayAcc (n : Nat) (x : List (List Int)) (i : Nat) (acc : List Int) (e : Edg) : List Int := if insideB n e = true ∧ e.dst = i then unionL acc (thru e (nth x e.src.toNat)) else acc
def mustAcc (n : Nat) (x : List (List Int)) (i : Nat) (acc : List Int) (e : Edg) : List Int := if insideB n e = true ∧ e.dst = i then meetL acc (thru e (nth x e.src.toNat)) else acc
def may0 (S : List (List Int)) (i : Nat) : List Int := if i < S.length then setL (nth S i) else []
def must0 (S : List (List Int)) (all : List Int) (i : Nat) : List Int := if i < S.length then meetL (setL all) (nth S i) else setL all
def mayAt (n : Nat) (E : List Edg) (S x : List (List Int)) (i : Nat) : List Int := E.foldl (mayAcc n x i) (may0 S i)
def mustAt (n : Nat) (E : List Edg) (S : List (List Int)) (all : List Int) (x : List (List Int)) (i : Nat) : List Int := E.foldl (mustAcc n x i) (must0 S all i)
def mayStep (n : Nat) (E : List Edg) (S x : List (List Int)) : List (List Int) := (List.range n).map (mayAt n E S x)
def mustStep (n : Nat) (E : List Edg) (S : List (List Int)) (all : List Int) (x : List (List Int)) : List (List Int) := (List.range n).map (mustAt n E S all x)

theorem mayFold_mem (n : Nat) (x : List (List Int)) (i : Nat) (r : Int) : ∀ (E : List Edg) (acc : List Int), r ∈ E.foldl (mayAcc n x i) acc ↔ r ∈ acc ∨ ∃ e ∈ E, (insideB n e = true ∧ e.dst = i) ∧ r ∈ thru e (nth x e.src.toNat)
  | [], acc => by simp
  | e :: E, acc => by
    rw [List.foldl_cons, mayFold_mem n x i r E]
    unfold mayAcc
    by_cases h : insideB n e = true ∧ e.dst = i
    · rw [if_pos h, unionL_mem]
      simp [h, or_assoc]
    · rw [if_neg h]
      simp [h]
theorem mustFold_mem (n : Nat) (x : List (List Int)) (i : Nat) (r : Int) : ∀ (E : List Edg) (acc : List Int), r ∈ E.foldl (mustAcc n x i) acc ↔ r ∈ acc ∧ ∀ e ∈ E, (insideB n e = true ∧ e.dst = i) → r ∈ thru e (nth x e.src.toNat)
  | [], acc => by simp
  | e :: E, acc => by
    rw [List.foldl_cons, mustFold_mem n x i r E]
    unfold mustAcc
    by_cases h : insideB n e = true ∧ e.dst = i
    · rw [if_pos h, meetL_mem]
      constructor
      · rintro ⟨⟨h1, h2⟩, h3⟩
        refine ⟨h1, fun e' he' hh => ?_⟩
        rcases List.mem_cons.1 he' with rfl | he'
        · exact h2
        · exact h3 e' he' hh
      · rintro ⟨h1, h2⟩
        exact ⟨⟨h1, h2 e (by simp) h⟩, fun e' he' hh => h2 e' (by simp [he']) hh⟩
    · rw [if_neg h]
      constructor
      · rintro ⟨h1, h3⟩
        refine ⟨h1, fun e' he' hh => ?_⟩
        rcases List.mem_cons.1 he' with rfl | he'
        · exact absurd hh h
        · exact h3 e' he' hh
      · rintro ⟨h1, h2⟩
        exact ⟨h1, fun e' he' hh => h2 e' (by simp [he']) hh⟩
theorem mayFold_inc (n : Nat) (x : List (List Int)) (i : Nat) : ∀ (E : List Edg) (acc : List Int), Inc acc → Inc (E.foldl (mayAcc n x i) acc)
  | [], _, h => h
  | e :: E, acc, h => by
    rw [List.foldl_cons]
    refine mayFold_inc n x i E _ ?_
    unfold mayAcc
    split
    · exact unionL_inc _ _
    · exact h
theorem mustFold_inc (n : Nat) (x : List (List Int)) (i : Nat) : ∀ (E : List Edg) (acc : List Int), Inc acc → Inc (E.foldl (mustAcc n x i) acc)
  | [], _, h => h
  | e :: E, acc, h => by
    rw [List.foldl_cons]
    refine mustFold_inc n x i E _ ?_
    unfold mustAcc
    split
    · exact meetL_inc _ h
    · exact h
theorem may0_inc (S : List (List Int)) (i : Nat) : Inc (may0 S i) := by
  unfold may0
  split
  · exact setL_inc _
  · exact List.Pairwise.nil
theorem must0_inc (S : List (List Int)) (all : List Int) (i : Nat) : Inc (must0 S all i) := by
  unfold must0
  split
  · exact meetL_inc _ (setL_inc _)
  · exact setL_inc _
theorem mayAt_inc (n : Nat) (E : List Edg) (S x : List (List Int)) (i : Nat) : Inc (mayAt n E S x i) := mayFold_inc _ _ _ _ _ (may0_inc S i)
theorem mustAt_inc (n : Nat) (E : List Edg) (S : List (List Int)) (all : List Int) (x : List (List Int)) (i : Nat) : Inc (mustAt n E S all x i) := mustFold_inc _ _ _ _ _ (must0_inc S all i)

theorem nthR_out {α : Type} [Inhabited α] (l : List α) (i : Nat) (h : l.length ≤ i) : nth l i = default := by unfold nth; simp [h]
theorem nth_rmap {α : Type} [Inhabited α] (f : Nat → α) (n i : Nat) (h : i < n) : nth ((List.range n).map f) i = f i := by
  rw [nth_eq _ _ (by simpa using h)]; simp
theorem nth_setV {α : Type} [Inhabited α] (l : List α) (i j : Nat) (x : α) (h : i < l.length) : nth (l.set i x) j = if i = j then x else nth l j := by
  by_cases e : i = j
  · subst e; unfold nth; simp [h]
  · unfold nth; simp [e]
theorem ext_nth {α : Type} [Inhabited α] (l r : List α) (h : l.length = r.length) (hn : ∀ i, i < l.length → nth l i = nth r i) : l = r := by
  apply List.ext_getElem h
  intro i h1 h2
  have := hn i h1
  rwa [nth_eq _ _ h1, nth_eq _ _ h2] at this

/-- Every set of s lies in the one of t. -/
def SubV (s t : List (List Int)) : Prop := ∀ i r, r ∈ nth s i → r ∈ nth t i
theorem SubV.refl (s : List (List Int)) : SubV s s := fun _ _ h => h
theorem SubV.trans {s t u : List (List Int)} (h : SubV s t) (k : SubV t u) : SubV s u := fun i r x => k i r (h i r x)
def IncV (s : List (List Int)) : Prop := ∀ i, Inc (nth s i)
theorem SubV.antisymm {s t : List (List Int)} (hl : s.length = t.length) (hs : IncV s) (ht : IncV t) (h : SubV s t) (k : SubV t s) : s = t :=
  ext_nth _ _ hl fun i _ => inc_ext _ _ (hs i) (ht i) fun x => ⟨h i x, k i x⟩

theorem mayAt_mono {n : Nat} {E : List Edg} {S x x' : List (List Int)} (h : SubV x x') (i : Nat) (r : Int) (hr : r ∈ mayAt n E S x i) : r ∈ mayAt n E S x' i := by
  unfold mayAt at *
  rw [mayFold_mem] at *
  exact hr.imp id fun ⟨e, he, h1, h2⟩ => ⟨e, he, h1, thru_mono e (h _) r h2⟩
theorem mustAt_mono {n : Nat} {E : List Edg} {S : List (List Int)} {all : List Int} {x x' : List (List Int)} (h : SubV x x') (i : Nat) (r : Int) (hr : r ∈ mustAt n E S all x i) : r ∈ mustAt n E S all x' i := by
  unfold mustAt at *
  rw [mustFold_mem] at *
  exact ⟨hr.1, fun e he h1 => thru_mono e (h _) r (hr.2 e he h1)⟩
theorem mayStep_len (n : Nat) (E : List Edg) (S x : List (List Int)) : (mayStep n E S x).length = n := by simp [mayStep]
theorem mustStep_len (n : Nat) (E : List Edg) (S : List (List Int)) (all : List Int) (x : List (List Int)) : (mustStep n E S all x).length = n := by simp [mustStep]
theorem mayStep_nth (n : Nat) (E : List Edg) (S x : List (List Int)) (i : Nat) : nth (mayStep n E S x) i = if i < n then mayAt n E S x i else [] := by
  split
  · rename_i h; exact nth_rmap _ _ _ h
  · rename_i h; rw [nthR_out _ _ (by rw [mayStep_len]; omega)]; rfl
theorem mustStep_nth (n : Nat) (E : List Edg) (S : List (List Int)) (all : List Int) (x : List (List Int)) (i : Nat) : nth (mustStep n E S all x) i = if i < n then mustAt n E S all x i else [] := by
  split
  · rename_i h; exact nth_rmap _ _ _ h
  · rename_i h; rw [nthR_out _ _ (by rw [mustStep_len]; omega)]; rfl
theorem mayStep_mono {n : Nat} {E : List Edg} {S x x' : List (List Int)} (h : SubV x x') : SubV (mayStep n E S x) (mayStep n E S x') := by
  intro i r hr
  rw [mayStep_nth] at *
  split at hr
  · rename_i hi; rw [if_pos hi]; exact mayAt_mono h i r hr
  · cases hr
theorem mustStep_mono {n : Nat} {E : List Edg} {S : List (List Int)} {all : List Int} {x x' : List (List Int)} (h : SubV x x') : SubV (mustStep n E S all x) (mustStep n E S all x') := by
  intro i r hr
  rw [mustStep_nth] at *
  split at hr
  · rename_i hi; rw [if_pos hi]; exact mustAt_mono h i r hr
  · cases hr
theorem mayStep_inc (n : Nat) (E : List Edg) (S x : List (List Int)) : IncV (mayStep n E S x) := by
  intro i
  rw [mayStep_nth]
  split
  · exact mayAt_inc _ _ _ _ _
  · exact List.Pairwise.nil
theorem mustStep_inc (n : Nat) (E : List Edg) (S : List (List Int)) (all : List Int) (x : List (List Int)) : IncV (mustStep n E S all x) := by
  intro i
  rw [mustStep_nth]
  split
  · exact mustAt_inc _ _ _ _ _ _
  · exact List.Pairwise.nil

def mayIter (n : Nat) (E : List Edg) (S : List (List Int)) : Nat → List (List Int)
  | 0 => List.replicate n []
  | k + 1 => mayStep n E S (mayIter n E S k)
def mustIter (n : Nat) (E : List Edg) (S : List (List Int)) (all : List Int) : Nat → List (List Int)
  | 0 => List.replicate n (setL all)
  | k + 1 => mustStep n E S all (mustIter n E S all k)
def IsMay (n : Nat) (E : List Edg) (S X : List (List Int)) : Prop := (∃ k, X = mayIter n E S k) ∧ mayStep n E S X = X
def IsMust (n : Nat) (E : List Edg) (S : List (List Int)) (all : List Int) (X : List (List Int)) : Prop := (∃ k, X = mustIter n E S all k) ∧ mustStep n E S all X = X

theorem nth_replV {α : Type} [Inhabited α] (n i : Nat) (x : α) : nth (List.replicate n x) i = if i < n then x else default := by
  split
  · rename_i h; rw [nth_eq _ _ (by simpa using h)]; simp
  · rename_i h; exact nthR_out _ _ (by simp; omega)
theorem mayIter_len (n : Nat) (E : List Edg) (S : List (List Int)) : ∀ k, (mayIter n E S k).length = n
  | 0 => by simp [mayIter]
  | k + 1 => mayStep_len _ _ _ _
theorem mustIter_len (n : Nat) (E : List Edg) (S : List (List Int)) (all : List Int) : ∀ k, (mustIter n E S all k).length = n
  | 0 => by simp [mustIter]
  | k + 1 => mustStep_len _ _ _ _ _
theorem mayIter_inc (n : Nat) (E : List Edg) (S : List (List Int)) : ∀ k, IncV (mayIter n E S k)
  | 0 => fun i => by
    rw [mayIter, nth_replV]
    split <;> exact List.Pairwise.nil
  | k + 1 => mayStep_inc _ _ _ _
theorem mustIter_inc (n : Nat) (E : List Edg) (S : List (List Int)) (all : List Int) : ∀ k, IncV (mustIter n E S all k)
  | 0 => fun i => by
    rw [mustIter, nth_replV]
    split
    · exact setL_inc _
    · exact List.Pairwise.nil
  | k + 1 => mustStep_inc _ _ _ _ _
theorem mayIter_up (n : Nat) (E : List Edg) (S : List (List Int)) : ∀ k, SubV (mayIter n E S k) (mayIter n E S (k + 1))
  | 0 => fun i r hr => by
    rw [mayIter, nth_replV] at hr
    split at hr <;> cases hr
  | k + 1 => mayStep_mono (mayIter_up n E S k)
theorem mustAt_all {n : Nat} {E : List Edg} {S : List (List Int)} {all : List Int} {x : List (List Int)} {i : Nat} {r : Int} (h : r ∈ mustAt n E S all x i) : r ∈ all := by
  unfold mustAt at h
  rw [mustFold_mem] at h
  have := h.1
  unfold must0 at this
  split at this
  · rw [meetL_mem, setL_mem] at this; exact this.1
  · rwa [setL_mem] at this
theorem mustIter_down (n : Nat) (E : List Edg) (S : List (List Int)) (all : List Int) : ∀ k, SubV (mustIter n E S all (k + 1)) (mustIter n E S all k)
  | 0 => fun i r hr => by
    rw [mustIter, mustStep_nth] at hr
    rw [mustIter, nth_replV]
    split at hr
    · rename_i hi
      rw [if_pos hi, setL_mem]
      exact mustAt_all hr
    · cases hr
  | k + 1 => mustStep_mono (mustIter_down n E S all k)

/-- The least solution, and the greatest one. -/
theorem IsMay.least {n : Nat} {E : List Edg} {S X Y : List (List Int)} (h : IsMay n E S X) (hy : SubV (mayStep n E S Y) Y) : SubV X Y := by
  obtain ⟨⟨k, rfl⟩, hh⟩ := h
  clear hh
  induction k with
  | zero =>
    intro i r hr
    rw [mayIter, nth_replV] at hr
    split at hr <;> cases hr
  | succ k ih => exact (mayStep_mono ih).trans hy
theorem IsMust.greatest {n : Nat} {E : List Edg} {S : List (List Int)} {all : List Int} {X Y : List (List Int)} (h : IsMust n E S all X) (hy : SubV Y (mustStep n E S all Y)) : SubV Y X := by
  obtain ⟨⟨k, rfl⟩, hh⟩ := h
  clear hh
  induction k with
  | zero =>
    intro i r hr
    have h1 := hy i r hr
    rw [mustStep_nth] at h1
    rw [mustIter, nth_replV]
    split at h1
    · rename_i hi
      rw [if_pos hi, setL_mem]
      exact mustAt_all h1
    · cases h1
  | succ k ih => exact hy.trans (mustStep_mono ih)
theorem IsMay.len {n : Nat} {E : List Edg} {S X : List (List Int)} (h : IsMay n E S X) : X.length = n := by obtain ⟨⟨k, rfl⟩, _⟩ := h; exact mayIter_len _ _ _ _
theorem IsMust.len {n : Nat} {E : List Edg} {S : List (List Int)} {all : List Int} {X : List (List Int)} (h : IsMust n E S all X) : X.length = n := by obtain ⟨⟨k, rfl⟩, _⟩ := h; exact mustIter_len _ _ _ _ _
theorem IsMay.inc {n : Nat} {E : List Edg} {S X : List (List Int)} (h : IsMay n E S X) : IncV X := by obtain ⟨⟨k, rfl⟩, _⟩ := h; exact mayIter_inc _ _ _ _
theorem IsMust.inc {n : Nat} {E : List Edg} {S : List (List Int)} {all : List Int} {X : List (List Int)} (h : IsMust n E S all X) : IncV X := by obtain ⟨⟨k, rfl⟩, _⟩ := h; exact mustIter_inc _ _ _ _ _
theorem IsMay.unique {n : Nat} {E : List Edg} {S X Y : List (List Int)} (h : IsMay n E S X) (k : IsMay n E S Y) : X = Y :=
  SubV.antisymm (by rw [h.len, k.len]) h.inc k.inc (h.least (by rw [k.2]; exact SubV.refl _)) (k.least (by rw [h.2]; exact SubV.refl _))
theorem IsMust.unique {n : Nat} {E : List Edg} {S : List (List Int)} {all : List Int} {X Y : List (List Int)} (h : IsMust n E S all X) (k : IsMust n E S all Y) : X = Y :=
  SubV.antisymm (by rw [h.len, k.len]) h.inc k.inc (k.greatest (by rw [h.2]; exact SubV.refl _)) (h.greatest (by rw [k.2]; exact SubV.refl _))

/-- What a list of waiting nodes comes to. -/
inductive Steps {α : Type} [Inhabited α] (n : Nat) (E : List Edg) (join : α → α → α) (tr : Nat → α → α) : List α → List α → Prop
  | refl (v : List α) : Steps n E join tr v v
  | step {v u : List α} (i : Nat) : Steps n E join tr v u → i < E.length → insideB n (nth E i) = true → Steps n E join tr v (u.set (nth E i).dst.toNat (join (nth u (nth E i).dst.toNat) (tr i (nth u (nth E i).src.toNat))))
def ClosedV {α : Type} [Inhabited α] (n : Nat) (E : List Edg) (join : α → α → α) (tr : Nat → α → α) (u : List α) : Prop := ∀ i, i < E.length → insideB n (nth E i) = true → join (nth u (nth E i).dst.toNat) (tr i (nth u (nth E i).src.toNat)) = nth u (nth E i).dst.toNat
theorem Steps.len {α : Type} [Inhabited α] {n : Nat} {E : List Edg} {join : α → α → α} {tr : Nat → α → α} {v u : List α} (h : Steps n E join tr v u) : u.length = v.length := by
  induction h with
  | refl => rfl
  | step i _ _ _ ih => rw [List.length_set]; exact ih

theorem may_solved {n : Nat} {E : List Edg} {S X V : List (List Int)} (hX : IsMay n E S X) (hs : Steps n E unionL (fun i x => thru (nth E i) x) ((List.range n).map (may0 S)) V) (hc : ClosedV n E unionL (fun i x => thru (nth E i) x) V) : V = X := by
  have hlen : V.length = n := by rw [hs.len]; simp
  have hinc : IncV V := by
    have key : ∀ u, Steps n E unionL (fun i x => thru (nth E i) x) ((List.range n).map (may0 S)) u → IncV u ∧ u.length = n := by
      intro u hu
      induction hu with
      | refl =>
        refine ⟨fun i => ?_, by simp⟩
        by_cases hi : i < n
        · rw [nth_rmap _ _ _ hi]; exact may0_inc S i
        · rw [nthR_out _ _ (by simp; omega)]; exact List.Pairwise.nil
      | step i _ _ hin ih =>
        refine ⟨fun j => ?_, by simpa using ih.2⟩
        have := (insideB_iff n _).1 hin
        rw [nth_setV _ _ _ _ (by rw [ih.2]; omega)]
        split
        · exact unionL_inc _ _
        · exact ih.1 j
    exact (key V hs).1
  have hle : SubV V X := by
    have key : ∀ u, Steps n E unionL (fun i x => thru (nth E i) x) ((List.range n).map (may0 S)) u → SubV u X ∧ u.length = n := by
      intro u hu
      induction hu with
      | refl =>
        refine ⟨fun i r hr => ?_, by simp⟩
        by_cases hi : i < n
        · rw [nth_rmap _ _ _ hi] at hr
          rw [← hX.2, mayStep_nth, if_pos hi]
          unfold mayAt
          rw [mayFold_mem]
          exact .inl hr
        · rw [nthR_out _ _ (by simp; omega)] at hr; cases hr
      | step i _ hi hin ih =>
        refine ⟨fun j r hr => ?_, by simpa using ih.2⟩
        have hb := (insideB_iff n _).1 hin
        rw [nth_setV _ _ _ _ (by rw [ih.2]; omega)] at hr
        split at hr
        · rename_i e
          subst e
          rw [unionL_mem] at hr
          rcases hr with hr | hr
          · exact ih.1 _ r hr
          · rw [← hX.2, mayStep_nth, if_pos (by omega)]
            unfold mayAt
            rw [mayFold_mem]
            exact .inr ⟨nth E i, nth_mem E i hi, ⟨hin, by omega⟩, thru_mono _ (ih.1 _) r hr⟩
        · exact ih.1 j r hr
    exact (key V hs).1
  have hge0 : ∀ i, i < n → ∀ r, r ∈ may0 S i → r ∈ nth V i := by
    have key : ∀ u, Steps n E unionL (fun i x => thru (nth E i) x) ((List.range n).map (may0 S)) u → (∀ i, i < n → ∀ r, r ∈ may0 S i → r ∈ nth u i) ∧ u.length = n := by
      intro u hu
      induction hu with
      | refl => exact ⟨fun i hi r hr => by rw [nth_rmap _ _ _ hi]; exact hr, by simp⟩
      | step i _ hi hin ih =>
        refine ⟨fun j hj r hr => ?_, by simpa using ih.2⟩
        have hb := (insideB_iff n _).1 hin
        rw [nth_setV _ _ _ _ (by rw [ih.2]; omega)]
        split
        · rename_i e; subst e; rw [unionL_mem]; exact .inl (ih.1 _ hj r hr)
        · exact ih.1 j hj r hr
    exact (key V hs).1
  refine SubV.antisymm (by rw [hlen, hX.len]) hinc hX.inc hle (hX.least ?_)
  intro i r hr
  rw [mayStep_nth] at hr
  split at hr
  · rename_i hi
    unfold mayAt at hr
    rw [mayFold_mem] at hr
    rcases hr with hr | ⟨e, he, ⟨h1, h2⟩, h3⟩
    · exact hge0 i hi r hr
    · obtain ⟨q, hq, rfl⟩ := List.mem_iff_getElem.1 he
      rw [← nth_eq _ _ hq] at h1 h2 h3
      have := hc q hq h1
      rw [h2, Int.toNat_natCast] at this
      rw [← this, unionL_mem]
      exact .inr h3
  · cases hr

theorem must_solved {n : Nat} {E : List Edg} {S : List (List Int)} {all : List Int} {X V : List (List Int)} (hX : IsMust n E S all X) (hs : Steps n E meetL (fun i x => thru (nth E i) x) ((List.range n).map (must0 S all)) V) (hc : ClosedV n E meetL (fun i x => thru (nth E i) x) V) : V = X := by
  have hlen : V.length = n := by rw [hs.len]; simp
  have key : ∀ u, Steps n E meetL (fun i x => thru (nth E i) x) ((List.range n).map (must0 S all)) u → (IncV u ∧ SubV X u ∧ ∀ i, i < n → ∀ r, r ∈ nth u i → r ∈ must0 S all i) ∧ u.length = n := by
    intro u hu
    induction hu with
    | refl =>
      refine ⟨⟨fun i => ?_, fun i r hr => ?_, fun i hi r hr => by rwa [nth_rmap _ _ _ hi] at hr⟩, by simp⟩
      · by_cases hi : i < n
        · rw [nth_rmap _ _ _ hi]; exact must0_inc S all i
        · rw [nthR_out _ _ (by simp; omega)]; exact List.Pairwise.nil
      · rw [← hX.2, mustStep_nth] at hr
        split at hr
        · rename_i hi
          rw [nth_rmap _ _ _ hi]
          unfold mustAt at hr
          rw [mustFold_mem] at hr
          exact hr.1
        · cases hr
    | step i _ hi hin ih =>
      have hb := (insideB_iff n _).1 hin
      have hl : ((nth E i).dst.toNat) < n := by omega
      obtain ⟨⟨k1, k2, k3⟩, k4⟩ := ih
      refine ⟨⟨fun j => ?_, fun j r hr => ?_, fun j hj r hr => ?_⟩, by simpa using k4⟩
      · rw [nth_setV _ _ _ _ (by rw [k4]; exact hl)]
        split
        · exact meetL_inc _ (k1 _)
        · exact k1 j
      · rw [nth_setV _ _ _ _ (by rw [k4]; exact hl)]
        split
        · rename_i e
          subst e
          rw [meetL_mem]
          refine ⟨k2 _ r hr, ?_⟩
          rw [← hX.2, mustStep_nth, if_pos hl] at hr
          unfold mustAt at hr
          rw [mustFold_mem] at hr
          exact thru_mono _ (k2 _) r (hr.2 (nth E i) (nth_mem E i hi) ⟨hin, by omega⟩)
        · exact k2 j r hr
      · rw [nth_setV _ _ _ _ (by rw [k4]; exact hl)] at hr
        split at hr
        · rename_i e
          subst e
          rw [meetL_mem] at hr
          exact k3 _ hj r hr.1
        · exact k3 j hj r hr
  obtain ⟨⟨k1, k2, k3⟩, _⟩ := key V hs
  refine SubV.antisymm (by rw [hlen, hX.len]) k1 hX.inc (hX.greatest ?_) k2
  intro i r hr
  have hi : i < n := by
    rcases Nat.lt_or_ge i n with h | h
    · exact h
    · rw [nthR_out _ _ (by omega)] at hr; cases hr
  rw [mustStep_nth, if_pos hi]
  unfold mustAt
  rw [mustFold_mem]
  refine ⟨k3 i hi r hr, fun e he ⟨h1, h2⟩ => ?_⟩
  obtain ⟨q, hq, rfl⟩ := List.mem_iff_getElem.1 he
  rw [← nth_eq _ _ hq] at h1 h2 ⊢
  have := hc q hq h1
  rw [h2, Int.toNat_natCast] at this
  rw [← this, meetL_mem] at hr
  exact hr.2

end Go.Proofs.Ytnbffkcnhphdnaa
