/-
  Parts of the proof.
-/
import Derived.Test.YteiohnfmlabelaaZLeadG
import Derived.Test.YteiohnfmlabelaaZBnd
namespace Go.Proofs.Yteiohnfmlabelaa
set_option linter.unusedVariables false
set_option linter.unusedSimpArgs false
open Go.RowKit

/-- What a path from the first instruction reaches that does not pass through wo. -/
inductive Path (c : List Ins) (wo : Int) : Nat → Prop
  | start : wo ≠ 0 → 0 < c.length → Path c wo 0
  | step (i j : Nat) : Path c wo i → (j : Int) ∈ nextL c i → (j : Int) ≠ wo → Path c wo j
theorem nextL_lt (c : List Ins) (i : Nat) (x : Int) (h : x ∈ nextL c i) : i < c.length := by
  unfold nextL at h
  split at h
  · omega
  · cases h
theorem Path.lt {c : List Ins} {wo : Int} {j : Nat} (hj : Jok c) (h : Path c wo j) : j < c.length := by
  cases h with
  | start _ h => exact h
  | step i _ hp hx _ => have := hj.nx i (nextL_lt c i _ hx) _ hx; omega
theorem Path.ne {c : List Ins} {wo : Int} {j : Nat} (h : Path c wo j) : (j : Int) ≠ wo := by
  cases h with
  | start h _ => exact fun e => h e.symm
  | step i _ hp hx h => exact h

open Classical in
/-- Which instructions are reached. -/
noncomputable def reachB (c : List Ins) (wo : Int) : List Bool := (List.range c.length).map fun j => decide (Path c wo j)
theorem reachB_len (c : List Ins) (wo : Int) : (reachB c wo).length = c.length := by simp [reachB]
open Classical in
theorem reachB_at (c : List Ins) (wo : Int) (j : Nat) (h : j < c.length) : nth (reachB c wo) j = decide (Path c wo j) := by
  unfold reachB
  rw [nth_eq _ _ (by simpa using h)]; simp
theorem reachB_ext (c : List Ins) (wo : Int) (l : List Bool) (hl : l.length = c.length) (h : ∀ j, j < c.length → (nth l j = true ↔ Path c wo j)) : l = reachB c wo := by
  refine List.ext_getElem (by rw [hl, reachB_len]) fun j h1 h2 => ?_
  have hj : j < c.length := by omega
  rw [← nth_eq _ _ h1, ← nth_eq _ _ h2, reachB_at c wo j hj]
  have := h j hj
  by_cases hp : Path c wo j
  · rw [this.2 hp]; simp [hp]
  · have h3 : nth l j ≠ true := fun e => hp (this.1 e)
    simp [hp]; simpa using h3

/-- How many are false. -/
def falses (l : List Bool) : Nat := (l.filter fun b => !b).length
theorem falses_set (l : List Bool) (j : Nat) (hj : j < l.length) (h : nth l j = false) : falses (l.set j true) + 1 = falses l := by
  induction l generalizing j with
  | nil => cases hj
  | cons b l ih =>
    cases j with
    | zero =>
      have hb : b = false := h
      subst hb
      simp [falses]
    | succ j =>
      have := ih j (by simpa using hj) h
      unfold falses at this ⊢
      cases b <;> simp at this ⊢ <;> omega

/-- Closed at i: all that may follow is reached. -/
def ClosedAt (c : List Ins) (wo : Int) (l : List Bool) (i : Nat) : Prop := nth l i = true → ∀ x ∈ nextL c i, x ≠ wo → nth l x.toNat = true
def Sound (c : List Ins) (wo : Int) (l : List Bool) : Prop := ∀ j, j < c.length → nth l j = true → Path c wo j
theorem closed_all (c : List Ins) (wo : Int) (l : List Bool) (hl : l.length = c.length) (h0 : wo ≠ 0 → nth l 0 = true) (hs : Sound c wo l) (hc : ∀ i, i < c.length → ClosedAt c wo l i) (hj : Jok c) : l = reachB c wo := by
  refine reachB_ext c wo l hl fun j hjl => ⟨hs j hjl, fun hp => ?_⟩
  induction hp with
  | start h _ => exact h0 h
  | step i j hp hx hne ih =>
    have hi := hp.lt hj
    have := hc i hi (ih hi) _ hx hne
    rwa [Int.toNat_natCast] at this
theorem sound_set (c : List Ins) (wo : Int) (l : List Bool) (hs : Sound c wo l) (hl : l.length = c.length) (y : Nat) (hp : Path c wo y) : Sound c wo (l.set y true) := by
  intro j hj h
  rw [nth_set _ _ _ _ (by omega)] at h
  split at h
  · rename_i e; rw [e]; exact hp
  · exact hs j hj h

/-- The false cells of a row, counted in memory. -/
def fcount (w : World) (b n : Nat) : Nat := falses ((List.range n).map fun j => match w.cell? ⟨b, j, none⟩ with | some (.bool x) => x | _ => true)
theorem fcount_eq {w : World} {b n : Nat} {l : List Bool} (h : RowB w b l) (hn : l.length = n) : fcount w b n = falses l := by
  unfold fcount
  congr 1
  refine List.ext_getElem (by simp [hn]) fun j h1 h2 => ?_
  simp only [List.getElem_map, List.getElem_range, h.cell h2, nth_eq _ _ h2]
def boolV : Value → Nat
  | .bool true => 1
  | _ => 0
theorem fcount_drewN (w : World) (b n m : Nat) : fcount (w.drewN m) b n = fcount w b n := rfl

end Go.Proofs.Yteiohnfmlabelaa

namespace Go.Proofs.Yteiohnfmlabelaa
set_option linter.unusedVariables false
set_option linter.unusedSimpArgs false
open Go.RowKit

end Go.Proofs.Yteiohnfmlabelaa

namespace Go.Proofs.Yteiohnfmlabelaa
set_option linter.unusedVariables false
set_option linter.unusedSimpArgs false
open Go.RowKit

/-- Which instructions are reached, a case by its select. -/
noncomputable def reachL (c : List Ins) : List Bool := (List.range c.length).map fun i => nth (reachB c (-1)) (headN c i)
theorem reachL_len (c : List Ins) : (reachL c).length = c.length := by simp [reachL]
theorem reachL_at (c : List Ins) (i : Nat) (h : i < c.length) : nth (reachL c) i = nth (reachB c (-1)) (headN c i) := by
  unfold reachL
  rw [nth_eq _ _ (by simpa using h)]; simp

/-- A row of bools by its cells. -/
theorem RowB.of {w : World} {b n : Nat} {f : Nat → Bool} {l : List Bool} (h : w.rowIs b 4 n (fun i => .bool (f i))) (hl : l.length = n) (hf : ∀ i, i < n → f i = nth l i) : RowB w b l := by
  unfold RowB
  rw [hl]
  exact h.congr fun i hi => by rw [hf i hi]

end Go.Proofs.Yteiohnfmlabelaa
