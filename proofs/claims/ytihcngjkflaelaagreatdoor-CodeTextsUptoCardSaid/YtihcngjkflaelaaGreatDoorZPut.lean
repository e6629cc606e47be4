/-
  A store into an instruction of a copied program.
-/
import Derived.Test.YtihcngjkflaelaaGreatDoorZOwnP
namespace Go.Proofs.YtihcngjkflaelaaGreatDoor
set_option linter.unusedVariables false
set_option linter.unusedSimpArgs false
open Go.RowKit

theorem nth_set_eq {α : Type} [Inhabited α] (l : List α) (i : Nat) (x : α) (h : i < l.length) : nth (l.set i x) i = x := by
  rw [nth_eq _ _ (by simpa using h)]; simp
theorem nth_set_ne {α : Type} [Inhabited α] (l : List α) (i j : Nat) (x : α) (h : i ≠ j) : nth (l.set i x) j = nth l j := by
  unfold nth; simp [List.getElem?_set_ne h]
theorem zip_set_enc (l : List Fun) (ss : List Slc) (F : Nat) (c : List Ins) : ((l.set F { nth l F with code := c }).zip ss).flatMap funE.enc = (l.zip ss).flatMap funE.enc := by
  induction l generalizing ss F with
  | nil => rfl
  | cons f l ih =>
    cases ss with
    | nil => simp
    | cons s ss =>
      cases F with
      | zero => simp [nth, funE]
      | succ F =>
        simp only [List.set_cons_succ, List.zip_cons_cons, List.flatMap_cons]
        rw [show nth (f :: l) (F + 1) = nth l F from rfl, ih ss F]

theorem OwnFuns.put {base : Nat} {w : World} {v : Value} {l : List Fun} {ss : List Slc} (h : OwnFuns base w v l ss) (F g n cap K k : Nat) (u : Value) (x' : Ins) (hF : F < l.length) (hs : (nth ss F).val = .slice (some ⟨g, 0, none⟩) n cap)
    (hK : K < (nth l F).code.length) (hk : k < 5) (hx : insE.enc x' = (insE.enc (nth (nth l F).code K)).set k u) :
    OwnFuns base (w.setCell ⟨g, K * 5 + k, none⟩ u) v (l.set F { nth l F with code := (nth l F).code.set K x' }) ss := by
  have hc := h.code F hF
  rw [hs] at hc
  have hg : Value.ownBlock (.slice (some ⟨g, 0, none⟩) n cap) = some g := rfl
  have hrow := h.row.other ⟨g, K * 5 + k, none⟩ u (fun q hq e => by
    obtain ⟨c1, h1⟩ := h.row.typed q hq
    obtain ⟨c2, h2⟩ := hc.typed g hg
    have e' : q = g := e
    rw [e', h2] at h1
    simp at h1)
  refine ⟨by simp [h.len], ?_, fun i hi => ?_, fun i j hij hj a b ha hb => h.apart i j hij (by simpa using hj) a b ha hb⟩
  · unfold OwnE at hrow ⊢
    rw [zip_set_enc]
    rw [List.length_zip, List.length_set, ← List.length_zip]
    exact hrow
  · rw [List.length_set] at hi
    by_cases e : F = i
    · subst e
      rw [nth_set_eq _ _ _ hF, hs]
      exact hc.put K k u x' hK hk hx
    · rw [nth_set_ne _ _ _ _ e]
      refine (h.code i hi).other ⟨g, K * 5 + k, none⟩ u (fun q hq e' => ?_)
      have e2 : q = g := e'
      subst e2
      have hgq : (nth ss F).val.ownBlock = some q := by rw [hs]; rfl
      rcases Nat.lt_or_gt_of_ne e with h1 | h1
      · have := h.apart F i h1 hi q q hgq hq; omega
      · have := h.apart i F h1 hF q q hq hgq; omega

end Go.Proofs.YtihcngjkflaelaaGreatDoor
