/-
  The parts of a program in plain words.
-/
import Derived.Test.YtealeofgfgbheaaZLkP
namespace Go.Proofs.Ytealeofgfgbheaa
set_option linter.unusedVariables false
set_option linter.unusedSimpArgs false
open Go.RowKit

def callB (op : Int) : Bool := op == 26 || (op == 28 || (op == 31 || op == 24))
/-- The numbers of functions that the first k instructions of function i use, and i. -/
def usedK (p : Prg) (i k : Nat) : List Int := (i : Int) :: (((nth p.funcs i).code.take k).filter fun x => callB x.op).map fun x => x.b
def usedB (p : Prg) (i j : Nat) : Bool := j == i || (nth p.funcs i).code.any fun x => callB x.op && x.b == (j : Int)
/-- The place of function k among those used. -/
def plc (p : Prg) (i k : Nat) : Nat := ((List.range k).filter (usedB p i)).length
def imp (f : Fun) : Fun := ⟨f.name, f.params, f.params, []⟩
def reP (p : Prg) (i : Nat) (x : Ins) : Ins := if callB x.op then { x with b := plc p i x.b.toNat } else x
def partF0 (p : Prg) (i k : Nat) : Fun := if k = i then nth p.funcs i else imp (nth p.funcs k)
def partF (p : Prg) (i k : Nat) : Fun := if k = i then { nth p.funcs i with code := (nth p.funcs i).code.map (reP p i) } else imp (nth p.funcs k)
/-- The functions of a part when the first k have been looked at. -/
def flP (p : Prg) (i k : Nat) : List Fun := ((List.range k).filter (usedB p i)).map (partF0 p i)
/-- The part of function i. -/
def partP (p : Prg) (i : Nat) : Prg := ⟨((List.range p.funcs.length).filter (usedB p i)).map (partF p i), p.globals, p.layouts, if (i : Int) = p.main then plc p i i else -1⟩
def splitL (p : Prg) : List Prg := if validB p = true ∧ p.funcs.length < 64 then (List.range p.funcs.length).map (partP p) else []

theorem usedK_succ (p : Prg) (i k : Nat) (h : k < (nth p.funcs i).code.length) (z : Int) : z ∈ usedK p i (k + 1) ↔ (callB (nth (nth p.funcs i).code k).op = true ∧ z = (nth (nth p.funcs i).code k).b) ∨ z ∈ usedK p i k := by
  unfold usedK
  have e2 : (nth p.funcs i).code.take (k + 1) = (nth p.funcs i).code.take k ++ [nth (nth p.funcs i).code k] := by rw [nth_eq (nth p.funcs i).code _ h, List.take_succ_eq_append_getElem h]
  rw [e2]
  cases hc : callB (nth (nth p.funcs i).code k).op <;> simp [hc] <;> grind
theorem usedK_end (p : Prg) (i j : Nat) : (j : Int) ∈ usedK p i (nth p.funcs i).code.length ↔ usedB p i j = true := by
  unfold usedK usedB
  rw [List.take_length]
  simp only [List.mem_cons, List.mem_map, List.mem_filter, Bool.or_eq_true, beq_iff_eq, List.any_eq_true, Bool.and_eq_true]
  constructor
  · rintro (h | ⟨x, ⟨h1, h2⟩, h3⟩)
    · exact .inl (by omega)
    · exact .inr ⟨x, h1, h2, h3⟩
  · rintro (h | ⟨x, h1, h2, h3⟩)
    · exact .inl (by omega)
    · exact .inr ⟨x, ⟨h1, h2⟩, h3⟩
theorem used_self (p : Prg) (i : Nat) : usedB p i i = true := by simp [usedB]
theorem plc_succ (p : Prg) (i k : Nat) : plc p i (k + 1) = plc p i k + if usedB p i k = true then 1 else 0 := by
  unfold plc
  rw [List.range_succ, List.filter_append]
  cases h : usedB p i k <;> simp [h]
theorem plc_le (p : Prg) (i k : Nat) : plc p i k ≤ k := by
  induction k with
  | zero => simp [plc]
  | succ k ih => rw [plc_succ]; split <;> omega
theorem flP_succ (p : Prg) (i k : Nat) : flP p i (k + 1) = flP p i k ++ if usedB p i k = true then [partF0 p i k] else [] := by
  unfold flP
  rw [List.range_succ, List.filter_append]
  cases h : usedB p i k <;> simp [h]
theorem flP_len (p : Prg) (i k : Nat) : (flP p i k).length = plc p i k := by simp [flP, plc]
/-- The used ones, one behind the other: who stands at a place. -/
theorem filt_nth (u : Nat → Bool) (k : Nat) (hu : u k = true) : ∀ n, k < n → ((List.range n).filter u)[((List.range k).filter u).length]? = some k
  | 0, h => by omega
  | n + 1, h => by
    rw [List.range_succ, List.filter_append]
    rcases Nat.lt_or_ge k n with h1 | h1
    · have ih := filt_nth u k hu n h1
      rw [List.getElem?_append_left (List.getElem?_eq_some_iff.1 ih).1]
      exact ih
    · obtain rfl : k = n := by omega
      rw [List.getElem?_append_right (Nat.le_refl _), Nat.sub_self]
      simp [hu]
theorem nodup_set {α : Type} (F : Nat → α) (X : α) : ∀ (l : List Nat) (t i : Nat), l.Nodup → l[t]? = some i → (l.map F).set t X = l.map fun j => if j = i then X else F j
  | [], t, i, _, h => by simp at h
  | a :: l, 0, i, hn, h => by
    obtain rfl : a = i := by simpa using h
    rw [List.map_cons, List.set_cons_zero, List.map_cons, if_pos rfl]
    congr 1
    refine List.map_congr_left fun j hj => ?_
    rw [if_neg]
    intro e
    subst e
    exact (List.nodup_cons.1 hn).1 hj
  | a :: l, t + 1, i, hn, h => by
    have h' : l[t]? = some i := by simpa using h
    have hm : i ∈ l := List.mem_of_getElem? h'
    rw [List.map_cons, List.set_cons_succ, List.map_cons, nodup_set F X l t i (List.nodup_cons.1 hn).2 h', if_neg]
    intro e
    subst e
    exact (List.nodup_cons.1 hn).1 hm
theorem range_nodup (n : Nat) (u : Nat → Bool) : ((List.range n).filter u).Nodup := (List.nodup_range).filter _
theorem flP_set (p : Prg) (i : Nat) (h : i < p.funcs.length) : (flP p i p.funcs.length).set (plc p i i) { nth p.funcs i with code := (nth p.funcs i).code.map (reP p i) } = (partP p i).funcs := by
  unfold flP
  have h1 : ((List.range p.funcs.length).filter (usedB p i))[plc p i i]? = some i := filt_nth _ _ (used_self p i) _ h
  rw [nodup_set _ _ _ _ i (range_nodup _ _) h1]
  show _ = ((List.range p.funcs.length).filter (usedB p i)).map (partF p i)
  refine List.map_congr_left fun j _ => ?_
  unfold partF partF0
  by_cases e : j = i
  · simp [e]
  · simp [e]
theorem flP_at (p : Prg) (i : Nat) (h : i < p.funcs.length) : plc p i i < (flP p i p.funcs.length).length ∧ nth (flP p i p.funcs.length) (plc p i i) = nth p.funcs i := by
  have h1 := filt_nth _ _ (used_self p i) _ h
  have h2 := (List.getElem?_eq_some_iff.1 h1).1
  refine ⟨by rw [flP, List.length_map]; exact h2, ?_⟩
  unfold nth flP
  rw [List.getD_eq_getElem?_getD, List.getElem?_map]
  have h3 : ((List.range p.funcs.length).filter (usedB p i))[plc p i i]? = some i := h1
  rw [h3]
  simp [partF0, nth]
/-- What the map of places says when the first k have been looked at. -/
def plF (p : Prg) (i k : Nat) (n : Int) : Option Int := if 0 ≤ n ∧ n < k ∧ usedB p i n.toNat = true then some (plc p i n.toNat) else none
theorem plF_yes (p : Prg) (i k : Nat) (hu : usedB p i k = true) (n : Int) : (if n = (k : Int) then some (plc p i k : Int) else plF p i k n) = plF p i (k + 1) n := by
  unfold plF
  by_cases e : n = (k : Int)
  · subst e
    rw [if_pos rfl, if_pos ⟨by omega, by omega, by simpa using hu⟩]
    simp
  · rw [if_neg e]
    by_cases h : 0 ≤ n ∧ n < k ∧ usedB p i n.toNat = true
    · rw [if_pos h, if_pos ⟨h.1, by omega, h.2.2⟩]
    · rw [if_neg h, if_neg]
      rintro ⟨h1, h2, h3⟩
      exact h ⟨h1, by omega, h3⟩
theorem plF_no (p : Prg) (i k : Nat) (hu : usedB p i k = false) (n : Int) : plF p i k n = plF p i (k + 1) n := by
  unfold plF
  by_cases h : 0 ≤ n ∧ n < k ∧ usedB p i n.toNat = true
  · rw [if_pos h, if_pos ⟨h.1, by omega, h.2.2⟩]
  · rw [if_neg h, if_neg]
    rintro ⟨h1, h2, h3⟩
    by_cases e : n = (k : Int)
    · subst e
      rw [Int.toNat_natCast] at h3
      rw [hu] at h3
      cases h3
    · exact h ⟨h1, by omega, h3⟩

end Go.Proofs.Ytealeofgfgbheaa
