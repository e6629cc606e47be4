/-
  Short forms for worlds that follow one another.
-/
import Derived.Deep.OwnRows
import Derived.Test.YtlgedpiabooloaaZOwnP
import Derived.Test.YtlgedpiabooloaaZEqual2
import Derived.Test.YtlgedpiabooloaaZLvOf
namespace Go.Proofs.Ytlgedpiabooloaa
set_option linter.unusedVariables false
set_option linter.unusedSimpArgs false
open Go.RowKit

theorem bvia {w W w' : World} (h : Below w.heap.size w W) (h' : Below W.heap.size W w') : Below w.heap.size w w' := h.trans (h'.mono h.size)
theorem bdraw {w w' : World} (h : Below w.heap.size w w') (n : Nat) : Below w.heap.size w (w'.drewN n) := below_drewN h n
theorem bone {w w' : World} (h : Below w.heap.size w w') (o : Obj) : Below w.heap.size w (w'.alloc o) := h.alloc h.size o
theorem bstore {w w' : World} (h : Below w.heap.size w w') (b k : Nat) (u : Value) (hb : w.heap.size ≤ b) : Below w.heap.size w (w'.setCell ⟨b, k, none⟩ u) := h.setCell hb u

end Go.Proofs.Ytlgedpiabooloaa

/-
  A store into an instruction of a copied program.
-/
namespace Go.Proofs.Ytlgedpiabooloaa
set_option linter.unusedVariables false
set_option linter.unusedSimpArgs false
open Go.RowKit

theorem nth_set_eq {α : Type} [Inhabited α] (l : List α) (i : Nat) (x : α) (h : i < l.length) : nth (l.set i x) i = x := by
  rw [nth_eq _ _ (by simpa using h)]; simp
theorem nth_set_ne {α : Type} [Inhabited α] (l : List α) (i j : Nat) (x : α) (h : i ≠ j) : nth (l.set i x) j = nth l j := by
  unfold nth; simp [List.getElem?_set_ne h]
theorem zip_set_enc (l : List Fun) (ss : List Slc) (F : Nat) (c : List Ins) : ((l.set F { nth l F with code := c }).zip ss).flatMap funE.enc = (l.zip ss).flatMap funE.enc := by
  induction l generalizing ss F with
  | nil => rfl
  | cons f l ih =>
    cases ss with
    | nil => simp
    | cons s ss =>
      cases F with
      | zero => simp [nth, funE]
      | succ F =>
        simp only [List.set_cons_succ, List.zip_cons_cons, List.flatMap_cons]
        rw [show nth (f :: l) (F + 1) = nth l F from rfl, ih ss F]

theorem OwnFuns.put {base : Nat} {w : World} {v : Value} {l : List Fun} {ss : List Slc} (h : OwnFuns base w v l ss) (F g n cap K k : Nat) (u : Value) (x' : Ins) (hF : F < l.length) (hs : (nth ss F).val = .slice (some ⟨g, 0, none⟩) n cap)
    (hK : K < (nth l F).code.length) (hk : k < 5) (hx : insE.enc x' = (insE.enc (nth (nth l F).code K)).set k u) :
    OwnFuns base (w.setCell ⟨g, K * 5 + k, none⟩ u) v (l.set F { nth l F with code := (nth l F).code.set K x' }) ss := by
  have hc := h.code F hF
  rw [hs] at hc
  have hg : Value.ownBlock (.slice (some ⟨g, 0, none⟩) n cap) = some g := rfl
  have hrow := h.row.other ⟨g, K * 5 + k, none⟩ u (fun q hq e => by
    obtain ⟨c1, h1⟩ := h.row.typed q hq
    obtain ⟨c2, h2⟩ := hc.typed g hg
    have e' : q = g := e
    rw [e', h2] at h1
    simp at h1)
  refine ⟨by simp [h.len], ?_, fun i hi => ?_, fun i j hij hj a b ha hb => h.apart i j hij (by simpa using hj) a b ha hb⟩
  · unfold OwnE at hrow ⊢
    rw [zip_set_enc]
    rw [List.length_zip, List.length_set, ← List.length_zip]
    exact hrow
  · rw [List.length_set] at hi
    by_cases e : F = i
    · subst e
      rw [nth_set_eq _ _ _ hF, hs]
      exact hc.put K k u x' hK hk hx
    · rw [nth_set_ne _ _ _ _ e]
      refine (h.code i hi).other ⟨g, K * 5 + k, none⟩ u (fun q hq e' => ?_)
      have e2 : q = g := e'
      subst e2
      have hgq : (nth ss F).val.ownBlock = some q := by rw [hs]; rfl
      rcases Nat.lt_or_gt_of_ne e with h1 | h1
      · have := h.apart F i h1 hi q q hgq hq; omega
      · have := h.apart i F h1 hF q q hq hgq; omega

end Go.Proofs.Ytlgedpiabooloaa

/-
  A row of rows of the call's own, while it is filled.
-/
namespace Go.Proofs.Ytlgedpiabooloaa
set_option linter.unusedVariables false
set_option linter.unusedSimpArgs false
open Go.RowKit

structure GridAt (g : Nat) (w : World) (ss : List Slc) (s : List (List Int)) : Prop where
  len : ss.length = s.length
  box : BoxAt w g 30 (ss.map Slc.val)
  row : ∀ i, i < s.length → IntsAt (g + 1) w (nth ss i).val (nth s i)

theorem nth_replA {α : Type} [Inhabited α] (n i : Nat) (x : α) (h : i < n) : nth (List.replicate n x) i = x := by
  rw [nth_eq _ _ (by simpa using h)]; simp
theorem GridAt.start {g : Nat} {w : World} (n : Nat) (h : BoxAt w g 30 (List.replicate n (.slice none 0 0))) : GridAt g w (List.replicate n ⟨none, 0, 0⟩) (List.replicate n []) :=
  ⟨by simp, by rw [List.map_replicate]; exact h, fun i hi => by
    have hi' : i < n := by simpa using hi
    rw [nth_replA n i _ hi', nth_replA n i _ hi']
    exact SlE.nil _ _ _⟩
theorem GridAt.below {g : Nat} {w w' : World} {ss : List Slc} {s : List (List Int)} (h : GridAt g w ss s) (hb : Below w.heap.size w w') : GridAt g w' ss s :=
  ⟨h.len, h.box.below hb, fun i hi => (h.row i hi).below hb⟩
theorem GridAt.lt {g : Nat} {w : World} {ss : List Slc} {s : List (List Int)} (h : GridAt g w ss s) : g < w.heap.size := h.box.lt
theorem GridAt.cell {g : Nat} {w : World} {ss : List Slc} {s : List (List Int)} (h : GridAt g w ss s) (i : Nat) (hi : i < s.length) : w.cell? ⟨g, i, none⟩ = some (nth ss i).val :=
  h.box.cell i _ (by rw [List.getElem?_map, List.getElem?_eq_getElem (by rw [h.len]; exact hi), nth_eq _ _ (by rw [h.len]; exact hi)]; rfl)
theorem GridAt.put {g : Nat} {w : World} {ss : List Slc} {s : List (List Int)} (h : GridAt g w ss s) (i : Nat) (S : Slc) (l : List Int) (hi : i < s.length) (hr : IntsAt (g + 1) w S.val l) : GridAt g (w.setCell ⟨g, i, none⟩ S.val) (ss.set i S) (s.set i l) := by
  refine ⟨by simp [h.len], by have := h.box.set i S.val; rw [← List.map_set] at this; exact this, fun j hj => ?_⟩
  have hk : Keep (g + 1) w (w.setCell ⟨g, i, none⟩ S.val) := Keep.setCell _ (Nat.lt_succ_self g)
  have hj' : j < s.length := by simpa using hj
  by_cases e : i = j
  · subst e
    rw [nth_set_eq _ _ _ (by rw [h.len]; exact hi), nth_set_eq _ _ _ hi]
    exact hr.keep hk
  · rw [nth_set_ne _ _ _ _ e, nth_set_ne _ _ _ _ e]
    exact (h.row j hj').keep hk
theorem GridAt.lays {g lo n : Nat} {w : World} {ss : List Slc} {s : List (List Int)} (h : GridAt g w ss s) (hg : lo ≤ g) (hn : s.length = n) (hm : n ≤ 140737488355328) : LaysAt lo w (.slice (some ⟨g, 0, none⟩) n n) s := by
  refine ⟨ss, h.len, ⟨some ⟨g, 0, none⟩, n, g, 0, by rw [h.len, hn], (fun e => by cases e), fun _ => ⟨rfl, hg⟩, fun i k hi hk => ?_, by rw [h.len, hn]; exact Nat.le_refl _, by simp only [maxLen]; omega, by rw [h.len, hn]; exact hm⟩, fun i hi => (h.row i hi).mono (by omega)⟩
  have hk0 : k = 0 := by have : rowE.sz = 1 := rfl; omega
  subst hk0
  have := h.cell i (by rw [← h.len]; exact hi)
  rw [show 0 + i * rowE.sz + 0 = i by show 0 + i * 1 + 0 = i; omega, this]
  rfl
/-- What a slice of ints reads as. -/
theorem IntsAt.slc {lo : Nat} {w : World} {v : Value} {l : List Int} (h : IntsAt lo w v l) : ∃ a n c, v = .slice a n c := by
  obtain ⟨a, c, b, o, rfl, _⟩ := h
  exact ⟨a, _, c, rfl⟩
theorem infoRow : (Try.prog.info? 30).map (fun i => (i.zero, i.size, i.bytes)) = some (some (.slice none 0 0), 1, 24) := by kernel_rfl

end Go.Proofs.Ytlgedpiabooloaa
