/-
  Liveness of registers: one pass over a function, its repetition, what it comes to.
-/
import Derived.Test.YteiohnfmlabelaaZBelow
import Derived.Test.YteiohnfmlabelaaZPrFin
namespace Go.Proofs.Yteiohnfmlabelaa
set_option linter.unusedVariables false
set_option linter.unusedSimpArgs false
open Go.RowKit

/-- The registers that are live after instruction i, given those before each. -/
def afterL (p : Prg) (fn : Nat) (s : List (List Int)) (i : Nat) : List Int := setL ((nextL (nth p.funcs fn).code i).flatMap fun t => nth s t.toNat)
/-- Those before it. -/
def beforeL (p : Prg) (fn : Nat) (s : List (List Int)) (i : Nat) : List Int := setL (usesC p fn i ++ (afterL p fn s i).filter fun r => !(defsC p fn i).contains r)
def passAt (p : Prg) (fn : Nat) (s : List (List Int)) (i : Nat) : List (List Int) := s.set i (beforeL p fn s i)
/-- From the last instruction on, d instructions. -/
def stepsL (p : Prg) (fn n : Nat) (s : List (List Int)) : Nat → List (List Int)
  | 0 => s
  | d + 1 => passAt p fn (stepsL p fn n s d) (n - 1 - d)
def passL (p : Prg) (fn n : Nat) (s : List (List Int)) : List (List Int) := stepsL p fn n s n
def iterL (p : Prg) (fn n : Nat) : Nat → List (List Int)
  | 0 => List.replicate n []
  | k + 1 => passL p fn n (iterL p fn n k)
/-- What the repetition comes to. -/
def IsLive (p : Prg) (fn n : Nat) (L : List (List Int)) : Prop := (∃ k, L = iterL p fn n k) ∧ passL p fn n L = L

theorem iterL_stay (p : Prg) (fn n k : Nat) (h : passL p fn n (iterL p fn n k) = iterL p fn n k) : ∀ j, iterL p fn n (k + j) = iterL p fn n k
  | 0 => rfl
  | j + 1 => by
    rw [← Nat.add_assoc, iterL, iterL_stay p fn n k h j, h]
theorem IsLive.unique {p : Prg} {fn n : Nat} {L L' : List (List Int)} (h : IsLive p fn n L) (h' : IsLive p fn n L') : L = L' := by
  obtain ⟨⟨k, rfl⟩, e⟩ := h
  obtain ⟨⟨k', rfl⟩, e'⟩ := h'
  rcases Nat.le_total k k' with hk | hk
  · obtain ⟨j, rfl⟩ := Nat.exists_eq_add_of_le hk
    exact (iterL_stay p fn n k e j).symm
  · obtain ⟨j, rfl⟩ := Nat.exists_eq_add_of_le hk
    exact iterL_stay p fn n k' e' j

/-- Every set of s lies in the one of t. -/
def SubS (s t : List (List Int)) : Prop := ∀ i r, r ∈ nth s i → r ∈ nth t i
theorem SubS.refl (s : List (List Int)) : SubS s s := fun _ _ h => h
theorem SubS.trans {s t u : List (List Int)} (h : SubS s t) (k : SubS t u) : SubS s u := fun i r x => k i r (h i r x)

theorem after_mono {p : Prg} {fn : Nat} {s t : List (List Int)} (h : SubS s t) (i : Nat) (r : Int) (hr : r ∈ afterL p fn s i) : r ∈ afterL p fn t i := by
  unfold afterL at *
  rw [setL_mem, List.mem_flatMap] at *
  obtain ⟨x, hx, hm⟩ := hr
  exact ⟨x, hx, h _ _ hm⟩
theorem before_mem {p : Prg} {fn : Nat} {s : List (List Int)} (i : Nat) (r : Int) : r ∈ beforeL p fn s i ↔ r ∈ usesC p fn i ∨ (r ∈ afterL p fn s i ∧ r ∉ defsC p fn i) := by
  unfold beforeL
  rw [setL_mem, List.mem_append, List.mem_filter]
  simp
theorem before_mono {p : Prg} {fn : Nat} {s t : List (List Int)} (h : SubS s t) (i : Nat) (r : Int) (hr : r ∈ beforeL p fn s i) : r ∈ beforeL p fn t i := by
  rw [before_mem] at *
  exact hr.imp id fun ⟨h1, h2⟩ => ⟨after_mono h i r h1, h2⟩

/-- The sets of s are increasing lists of numbers from 0 to 63, one for each instruction, and grow with each step. -/
structure Fine (p : Prg) (fn n : Nat) (s : List (List Int)) : Prop where
  len : s.length = n
  inc : ∀ i, Inc (nth s i)
  reg : ∀ i r, r ∈ nth s i → 0 ≤ r ∧ r < 64
  grow : ∀ i r, i < n → r ∈ nth s i → r ∈ beforeL p fn s i

theorem nth_out {α : Type} [Inhabited α] (l : List α) (i : Nat) (h : l.length ≤ i) : nth l i = default := by unfold nth; simp [h]
theorem nth_repl (n i : Nat) : nth (List.replicate n ([] : List Int)) i = [] := by
  unfold nth
  by_cases h : i < n
  · simp [h]
  · simp [List.getElem?_eq_none (show (List.replicate n ([] : List Int)).length ≤ i by simp; omega)]; rfl
theorem Fine.start (p : Prg) (fn n : Nat) : Fine p fn n (List.replicate n []) :=
  ⟨by simp, fun i => by rw [nth_repl]; exact List.Pairwise.nil, fun i r h => by rw [nth_repl] at h; simp at h, fun i r _ h => by rw [nth_repl] at h; simp at h⟩

theorem nth_setS {α : Type} [Inhabited α] (l : List α) (i j : Nat) (x : α) (h : i < l.length) : nth (l.set i x) j = if i = j then x else nth l j := by
  by_cases e : i = j
  · subst e; rw [nth_set_eq _ _ _ h, if_pos rfl]
  · rw [nth_set_ne _ _ _ _ e, if_neg e]

theorem after_reg {p : Prg} {fn : Nat} (hv : validB p = true) (hfn : fn < p.funcs.length) {s : List (List Int)} (h : ∀ i r, r ∈ nth s i → 0 ≤ r ∧ r < 64) (i : Nat) (r : Int) (hr : r ∈ afterL p fn s i) : 0 ≤ r ∧ r < 64 := by
  unfold afterL at hr
  rw [setL_mem, List.mem_flatMap] at hr
  obtain ⟨x, _, hm⟩ := hr
  exact h _ _ hm
section
variable {p : Prg} {fn n : Nat} (hv : validB p = true) (hfn : fn < p.funcs.length) (hn : (nth p.funcs fn).code.length = n)
include hv hfn

theorem before_reg {s : List (List Int)} (h : ∀ i r, r ∈ nth s i → 0 ≤ r ∧ r < 64) (i : Nat) (r : Int) (hr : r ∈ beforeL p fn s i) : 0 ≤ r ∧ r < 64 := by
  rw [before_mem] at hr
  rcases hr with hr | ⟨hr, _⟩
  · have h1 := uses_in hv fn i hfn r hr
    have h2 := fun_regs hv fn hfn
    omega
  · exact after_reg hv hfn h i r hr

theorem Fine.at {s : List (List Int)} (h : Fine p fn n s) (i : Nat) (hi : i < n) : Fine p fn n (passAt p fn s i) ∧ SubS s (passAt p fn s i) := by
  have hl : i < s.length := by rw [h.len]; exact hi
  have hsub : SubS s (passAt p fn s i) := fun j r hr => by
    unfold passAt
    rw [nth_setS _ _ _ _ hl]
    split
    · rename_i e; subst e; exact h.grow i r hi hr
    · exact hr
  refine ⟨⟨by unfold passAt; simpa using h.len, fun j => ?_, fun j r hr => ?_, fun j r hj hr => ?_⟩, hsub⟩
  · unfold passAt
    rw [nth_setS _ _ _ _ hl]
    split
    · exact setL_inc _
    · exact h.inc j
  · unfold passAt at hr
    rw [nth_setS _ _ _ _ hl] at hr
    split at hr
    · exact before_reg hv hfn h.reg i r hr
    · exact h.reg j r hr
  · have hr' := hr
    unfold passAt at hr'
    rw [nth_setS _ _ _ _ hl] at hr'
    split at hr'
    · rename_i e; subst e; exact before_mono hsub i r hr'
    · exact before_mono hsub j r (h.grow j r hj hr')

theorem Fine.steps {s : List (List Int)} (h : Fine p fn n s) : ∀ d, d ≤ n → Fine p fn n (stepsL p fn n s d) ∧ SubS s (stepsL p fn n s d)
  | 0, _ => ⟨h, SubS.refl _⟩
  | d + 1, hd => by
    obtain ⟨h1, h2⟩ := Fine.steps h d (by omega)
    obtain ⟨h3, h4⟩ := Fine.at hv hfn h1 (n - 1 - d) (by omega)
    exact ⟨h3, h2.trans h4⟩
theorem Fine.pass {s : List (List Int)} (h : Fine p fn n s) : Fine p fn n (passL p fn n s) := (Fine.steps hv hfn h n (Nat.le_refl _)).1
theorem Fine.iter : ∀ k, Fine p fn n (iterL p fn n k)
  | 0 => Fine.start p fn n
  | k + 1 => Fine.pass hv hfn (Fine.iter k)
end

/-- The number of elements of all sets. -/
def totalS (s : List (List Int)) : Nat := (s.map List.length).sum

theorem inc_len {l l' : List Int} (h : Inc l) (h' : Inc l') (hs : ∀ r ∈ l, r ∈ l') : l.length ≤ l'.length ∧ (l.length = l'.length → l = l') := by
  have hsub : l.Sublist l' := by
    induction l' generalizing l with
    | nil =>
      have : l = [] := by
        cases l with
        | nil => rfl
        | cons a l => have := hs a (by simp); simp at this
      rw [this]; exact List.nil_sublist _
    | cons b l' ih =>
      obtain ⟨hb, hl'⟩ := List.pairwise_cons.1 h'
      cases l with
      | nil => exact List.nil_sublist _
      | cons a l =>
        obtain ⟨ha, hl⟩ := List.pairwise_cons.1 h
        rcases List.mem_cons.1 (hs a (by simp)) with e | e
        · subst e
          refine List.Sublist.cons_cons _ (ih hl hl' fun r hr => ?_)
          rcases List.mem_cons.1 (hs r (by simp [hr])) with e | e
          · have := ha r hr; omega
          · exact e
        · refine List.Sublist.cons _ (ih h hl' fun r hr => ?_)
          rcases List.mem_cons.1 (hs r hr) with e2 | e2
          · exfalso
            subst e2
            have h1 := hb a e
            rcases List.mem_cons.1 hr with e3 | e3
            · omega
            · have := ha r e3; omega
          · exact e2
  exact ⟨hsub.length_le, hsub.eq_of_length⟩
theorem inc_64 {l : List Int} (h : Inc l) (hr : ∀ r ∈ l, 0 ≤ r ∧ r < 64) : l.length ≤ 64 := by
  have := (inc_len h (l' := (List.range 64).map fun i : Nat => (i : Int)) (by
    refine List.pairwise_map.2 ?_
    exact List.pairwise_lt_range.imp (fun h => by omega)) (fun r hm => by
      have := hr r hm
      exact List.mem_map.2 ⟨r.toNat, by simp; omega, by omega⟩)).1
  simpa using this
theorem total_le {s : List (List Int)} (h : ∀ i, (nth s i).length ≤ 64) : totalS s ≤ 64 * s.length := by
  unfold totalS
  induction s with
  | nil => simp
  | cons x s ih =>
    have h0 := h 0
    have h1 := ih fun i => h (i + 1)
    simp only [List.map_cons, List.sum_cons, List.length_cons]
    have : nth (x :: s) 0 = x := rfl
    rw [this] at h0
    omega
theorem total_sub : ∀ {s t : List (List Int)}, s.length = t.length → (∀ i, Inc (nth s i)) → (∀ i, Inc (nth t i)) → SubS s t → totalS s ≤ totalS t ∧ (totalS s = totalS t → s = t)
  | [], [], _, _, _, _ => ⟨Nat.le_refl _, fun _ => rfl⟩
  | [], _ :: _, h, _, _, _ => by simp at h
  | _ :: _, [], h, _, _, _ => by simp at h
  | x :: s, y :: t, h, h1, h2, h3 => by
    obtain ⟨i1, i2⟩ := total_sub (s := s) (t := t) (by simpa using h) (fun i => h1 (i + 1)) (fun i => h2 (i + 1)) (fun i r hr => h3 (i + 1) r hr)
    obtain ⟨j1, j2⟩ := inc_len (h1 0) (h2 0) (h3 0)
    have e0 : ∀ (z : List Int) (u : List (List Int)), nth (z :: u) 0 = z := fun _ _ => rfl
    rw [e0, e0] at j1 j2
    unfold totalS at *
    simp only [List.map_cons, List.sum_cons]
    refine ⟨by omega, fun he => ?_⟩
    rw [j2 (by omega), i2 (by omega)]

theorem Fine.total {p : Prg} {fn n : Nat} {s : List (List Int)} (h : Fine p fn n s) : totalS s ≤ 64 * n := by
  rw [← h.len]
  exact total_le fun i => inc_64 (h.inc i) (h.reg i)
/-- A step changes nothing, or the sets have grown. -/
theorem Fine.step_total {p : Prg} {fn n : Nat} (hv : validB p = true) (hfn : fn < p.funcs.length) {s : List (List Int)} (h : Fine p fn n s) (i : Nat) (hi : i < n) : (nth s i = beforeL p fn s i ∧ passAt p fn s i = s) ∨ (nth s i ≠ beforeL p fn s i ∧ totalS s < totalS (passAt p fn s i)) := by
  obtain ⟨h1, h2⟩ := Fine.at hv hfn h i hi
  obtain ⟨t1, t2⟩ := total_sub (by rw [h.len, h1.len]) h.inc h1.inc h2
  have hl : i < s.length := by rw [h.len]; exact hi
  by_cases he : nth s i = beforeL p fn s i
  · left
    refine ⟨he, ?_⟩
    unfold passAt
    rw [← he, nth_eq _ _ hl]
    exact List.set_getElem_self hl
  · right
    refine ⟨he, ?_⟩
    rcases Nat.lt_or_eq_of_le t1 with h3 | h3
    · exact h3
    · exfalso
      have := t2 h3
      apply he
      have e : nth (passAt p fn s i) i = beforeL p fn s i := by unfold passAt; rw [nth_set_eq _ _ _ hl]
      rw [← this] at e
      exact e

/-- At the end: the equations hold. -/
theorem steps_fix {p : Prg} {fn n : Nat} (hv : validB p = true) (hfn : fn < p.funcs.length) {s : List (List Int)} (h : Fine p fn n s) (hp : passL p fn n s = s) : ∀ i, i < n → nth s i = beforeL p fn s i := by
  -- no step has changed anything
  have hno : ∀ d, d ≤ n → stepsL p fn n s d = s := by
    intro d
    have key : ∀ e, e ≤ n → ∀ d, d ≤ e → totalS (stepsL p fn n s d) ≤ totalS (stepsL p fn n s e) := by
      intro e
      induction e with
      | zero => intro _ d hd; rw [show d = 0 by omega]; exact Nat.le_refl _
      | succ e ih =>
        intro he d hd
        rcases Nat.lt_or_eq_of_le hd with h1 | h1
        · refine Nat.le_trans (ih (by omega) d (by omega)) ?_
          obtain ⟨f1, f2⟩ := Fine.steps hv hfn h e (by omega)
          obtain ⟨g1, g2⟩ := Fine.at hv hfn f1 (n - 1 - e) (by omega)
          exact (total_sub (by rw [f1.len]; exact g1.len.symm) f1.inc g1.inc g2).1
        · rw [h1]; exact Nat.le_refl _
    intro hd
    obtain ⟨f1, f2⟩ := Fine.steps hv hfn h d hd
    obtain ⟨t1, t2⟩ := total_sub (by rw [h.len, f1.len]) h.inc f1.inc f2
    have hle := key n (Nat.le_refl _) d hd
    have he : totalS (stepsL p fn n s n) = totalS s := by
      have : stepsL p fn n s n = s := hp
      rw [this]
    exact (t2 (by omega)).symm
  intro i hi
  have h1 := hno (n - 1 - i) (by omega)
  have h2 := hno (n - 1 - i + 1) (by omega)
  rw [stepsL, h1, show n - 1 - (n - 1 - i) = i by omega] at h2
  rcases h.step_total hv hfn i hi with ⟨e, _⟩ | ⟨_, e⟩
  · exact e
  · rw [h2] at e; omega

end Go.Proofs.Yteiohnfmlabelaa
