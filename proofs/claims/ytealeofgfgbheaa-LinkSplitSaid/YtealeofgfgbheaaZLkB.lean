/-
  Lists of parts of one valid program fit.
-/
import Derived.Test.YtealeofgfgbheaaZLkZ
namespace Go.Proofs.Ytealeofgfgbheaa
set_option linter.unusedVariables false
set_option linter.unusedSimpArgs false
open Go.RowKit

/-- A list of some functions of a valid program. -/
structure Idx (p : Prg) (idx : List Nat) : Prop where
  val : validB p = true
  lt64 : p.funcs.length < 64
  wf : PrgWf p
  nodup : idx.Nodup
  lt : ∀ i ∈ idx, i < p.funcs.length
def ptsL (p : Prg) (idx : List Nat) : List Prg := idx.map (partP p)
/-- The definition in a part. -/
def defI (p : Prg) (i : Nat) : Fun := { nth p.funcs i with code := (nth p.funcs i).code.map (reP p i) }

theorem nodup_len {p : Prg} {idx : List Nat} (h : Idx p idx) : idx.length ≤ p.funcs.length := by
  refine Nat.le_of_not_lt fun hlt => ?_
  obtain ⟨i, j, h1, h2, h3⟩ := pigeon p.funcs.length (fun k => nth idx k) fun k hk => h.lt _ (nth_mem idx k (by omega))
  rw [nth_eq _ _ (by omega), nth_eq _ _ (by omega)] at h3
  have := (List.getElem_inj h.nodup).1 h3
  omega
section
variable {p : Prg} {idx : List Nat}
theorem nth_idx {t : Nat} (ht : t < idx.length) : nth (ptsL p idx) t = partP p (nth idx t) := nth_map _ _ _ ht
theorem defI_ne (hv : validB p = true) {i : Nat} (hi : i < p.funcs.length) : isDef (defI p i) = true := by
  unfold isDef defI
  have := code_ne hv hi
  cases hc : (nth p.funcs i).code with
  | nil => exact absurd hc this
  | cons x l => rfl
theorem isDef_partF (hv : validB p = true) {i k : Nat} (hi : i < p.funcs.length) : isDef (partF p i k) = decide (k = i) := by
  by_cases e : k = i
  · subst e
    rw [partF_self, decide_eq_true rfl]
    exact defI_ne hv hi
  · rw [partF_other e, decide_eq_false e]; rfl
theorem filter_one {l : List Nat} {a : Nat} (hl : l.Nodup) (ha : a ∈ l) : l.filter (fun k => decide (k = a)) = [a] := by
  induction l with
  | nil => simp at ha
  | cons b l ih =>
    rw [List.nodup_cons] at hl
    by_cases e : b = a
    · subst e
      rw [List.filter_cons_of_pos (by simp)]
      congr 1
      rw [List.filter_eq_nil_iff]
      intro c hc
      simp
      rintro rfl
      exact hl.1 hc
    · rw [List.filter_cons_of_neg (by simpa using e)]
      exact ih hl.2 (by rcases List.mem_cons.1 ha with h | h; exact absurd h.symm e; exact h)
theorem defsP_part (hv : validB p = true) {i : Nat} (hi : i < p.funcs.length) : defsP (partP p i) = [defI p i] := by
  unfold defsP
  rw [part_funcs, List.filter_map]
  have e : (isDef ∘ partF p i) = fun k => decide (k = i) := by
    funext k
    exact isDef_partF hv hi
  rw [e, filter_one (show (usL p i).Nodup from range_nodup _ _) (us_mem.2 ⟨hi, used_self p i⟩)]
  rw [List.map_cons, partF_self]
  rfl
theorem defsK_part (hv : validB p = true) {i : Nat} (hi : i < p.funcs.length) : defsK (partP p i) (plc p i i) = [] := by
  unfold defsK
  rw [List.filter_eq_nil_iff]
  intro f hf
  obtain ⟨t, ht, he⟩ := List.getElem_of_mem hf
  rw [List.length_take, part_len] at ht
  rw [List.getElem_take] at he
  have h1 : t < (usL p i).length := by omega
  have h2 : nth (partP p i).funcs t = f := by rw [nth_eq _ _ (by rw [part_len]; exact h1)]; exact he
  rw [part_nth h1] at h2
  rw [← h2, isDef_partF hv hi]
  have h3 := (us_at h1).2.2
  simp
  intro e
  rw [e] at h3
  omega
theorem dK_pts (h : Idx p idx) (k : Nat) : dK (ptsL p idx) k = (idx.take k).map (defI p) := by
  unfold dK ptsL
  rw [← List.map_take]
  have : ∀ l : List Nat, (∀ i ∈ l, i < p.funcs.length) → (l.map (partP p)).flatMap defsP = l.map (defI p) := by
    intro l hl
    induction l with
    | nil => rfl
    | cons i l ih =>
      rw [List.map_cons, List.flatMap_cons, defsP_part h.val (hl i (by simp)), ih (fun j hj => hl j (by simp [hj]))]
      rfl
  exact this _ (fun i hi => h.lt i (List.mem_of_mem_take hi))
theorem dL_pts (h : Idx p idx) : dL (ptsL p idx) = idx.map (defI p) := by
  rw [dL, dK_pts h]
  rw [show (ptsL p idx).length = idx.length by simp [ptsL], List.take_length]
theorem dL_names (h : Idx p idx) : (dL (ptsL p idx)).map (fun f => f.name) = idx.map fun i => (nth p.funcs i).name := by
  rw [dL_pts h, List.map_map]
  rfl
theorem name_inj (hv : validB p = true) {j k : Nat} (hj : j < p.funcs.length) (hk : k < p.funcs.length) (e : (nth p.funcs j).name = (nth p.funcs k).name) : j = k := by
  refine Classical.byContradiction fun h => names_ne hv hj hk h e
theorem idx_names (h : Idx p idx) : (idx.map fun i => (nth p.funcs i).name).Nodup := by
  unfold List.Nodup
  rw [List.pairwise_map]
  have h1 : idx.Pairwise (fun a b => a ∈ idx ∧ b ∈ idx ∧ a ≠ b) := by
    rw [List.pairwise_iff_getElem]
    intro a b ha hb hab
    exact ⟨List.getElem_mem ha, List.getElem_mem hb, fun e => absurd ((List.getElem_inj h.nodup).1 e) (by omega)⟩
  exact h1.imp fun ⟨h2, h3, h4⟩ => names_ne h.val (h.lt _ h2) (h.lt _ h3) h4
/-- Where a function's name is found. -/
theorem fnd_map {α β : Type} [DecidableEq α] [DecidableEq β] (f : α → β) (hf : ∀ a b, f a = f b → a = b) : ∀ (l : List α) (x : α), fnd (l.map f) (f x) = fnd l x
  | [], _ => rfl
  | y :: l, x => by
    rw [List.map_cons, fnd, fnd, fnd_map f hf l x]
    by_cases e : y = x
    · rw [if_pos e, if_pos (by rw [e])]
    · rw [if_neg e, if_neg (fun h => e (hf _ _ h))]
theorem fnd_map_on {α β : Type} [DecidableEq α] [DecidableEq β] (f : α → β) (x : α) : ∀ (l : List α), (∀ a ∈ l, f a = f x → a = x) → fnd (l.map f) (f x) = fnd l x
  | [], _ => rfl
  | y :: l, h => by
    rw [List.map_cons, fnd, fnd, fnd_map_on f x l (fun a ha => h a (by simp [ha]))]
    by_cases e : y = x
    · rw [if_pos e, if_pos (by rw [e])]
    · rw [if_neg e, if_neg (fun h2 => e (h y (by simp) h2))]
theorem fnd_name (h : Idx p idx) {k : Nat} (hk : k < p.funcs.length) : fnd (idx.map fun i => (nth p.funcs i).name) (nth p.funcs k).name = fnd idx k :=
  fnd_map_on (fun i => (nth p.funcs i).name) k idx fun a ha e => name_inj h.val (h.lt a ha) hk e
end

/-- Globals. -/
theorem addG_has {G : List Glob} {g : Glob} (h : g ∈ G) : addG G g = G := by
  unfold addG
  rw [if_pos (memB_true (List.mem_map.2 ⟨g, h, rfl⟩))]
theorem addK_has {G l : List Glob} (hl : ∀ g ∈ l, g ∈ G) : ∀ k, k ≤ l.length → addK G l k = G
  | 0, _ => by simp [addK]
  | k + 1, h => by rw [addK_succ G l k h, addK_has hl k (by omega), addG_has (hl _ (nth_mem l k h))]
theorem addK_new {l : List Glob} (hl : (l.map fun g => g.name).Nodup) : ∀ k, k ≤ l.length → addK [] l k = l.take k
  | 0, _ => by simp [addK]
  | k + 1, h => by
    rw [addK_succ [] l k h, addK_new hl k (by omega), take_succ_atD l k h]
    unfold addG
    rw [if_neg]
    intro hm
    have h1 : (nth l k).name ∈ (l.take k).map fun g => g.name := by
      refine Classical.byContradiction fun hn => ?_
      rw [memB_false hn] at hm; cases hm
    have h2 : (l.take (k + 1)).map (fun g => g.name) = ((l.take k).map fun g => g.name) ++ [(nth l k).name] := by rw [take_succ_atD l k h, List.map_append]; rfl
    have h3 : ((l.take (k + 1)).map fun g => g.name).Nodup := by rw [List.map_take]; exact List.Nodup.sublist (List.take_sublist _ _) hl
    rw [h2, List.nodup_append] at h3
    exact h3.2.2 _ h1 _ (by simp) rfl
theorem globs_nodup {l : List Glob} (h : globsB l = true) : (l.map fun g => g.name).Nodup := by
  unfold globsB at h
  rw [List.all_eq_true] at h
  rw [List.nodup_iff_pairwise_ne] 
  rw [List.pairwise_map, List.pairwise_iff_getElem]
  intro a b ha hb hab e
  have h1 := h b (List.mem_range.2 hb)
  simp only [globOk, Bool.and_eq_true, List.all_eq_true, List.mem_range, sameName_eq, Bool.not_eq_true', decide_eq_false_iff_not] at h1
  refine h1.2.2 a hab ?_
  rw [nth_eq _ _ ha, nth_eq _ _ hb]
  exact e
section
variable {p : Prg} {idx : List Nat}
theorem gK_pts (h : Idx p idx) : ∀ k, 0 < k → k ≤ idx.length → gK (ptsL p idx) k = p.globals
  | 0, h0, _ => by omega
  | k + 1, _, hk => by
    have hl : (ptsL p idx).length = idx.length := by simp [ptsL]
    rw [gK_succ (by omega), nth_idx hk]
    show addK _ p.globals p.globals.length = _
    rcases Nat.eq_zero_or_pos k with rfl | h1
    · rw [show gK (ptsL p idx) 0 = [] by simp [gK], addK_new (globs_nodup ((valid_iff p).1 h.val).2.2.2.2.2.2.1) _ (Nat.le_refl _), List.take_length]
    · rw [gK_pts h k h1 (by omega)]
      exact addK_has (fun g hg => hg) _ (Nat.le_refl _)
theorem yJ_has2 {Y : List (List Int)} {P : Prg} (hl : ∀ c ∈ P.layouts, c ∈ Y) : ∀ k, k ≤ P.layouts.length → yJ Y P k = Y
  | 0, _ => by simp [yJ]
  | k + 1, h => by
    rw [yJ_succ Y P k h, yJ_has2 hl k (by omega)]
    unfold addY
    rw [if_pos (hl _ (nth_mem _ k h))]
/-- The layouts of a program, each once. -/
def onceY (p : Prg) : List (List Int) := yJ [] p p.layouts.length
theorem onceY_mem (p : Prg) : ∀ c ∈ p.layouts, c ∈ onceY p := fun c hc => by
  obtain ⟨n, hn, he⟩ := List.getElem_of_mem hc
  have := yJ_has [] p _ (Nat.le_refl _) n hn
  rw [nth_eq _ _ hn, he] at this
  exact this
theorem yJ_lays (Y : List (List Int)) {P Q : Prg} (h : P.layouts = Q.layouts) (k : Nat) : yJ Y P k = yJ Y Q k := by unfold yJ; rw [h]
theorem yK_pts (h : Idx p idx) : ∀ k, 0 < k → k ≤ idx.length → yK (ptsL p idx) k = onceY p
  | 0, h0, _ => by omega
  | k + 1, _, hk => by
    have hl : (ptsL p idx).length = idx.length := by simp [ptsL]
    rw [yK_succ (by omega), nth_idx hk]
    rcases Nat.eq_zero_or_pos k with rfl | h1
    · rw [show yK (ptsL p idx) 0 = [] by simp [yK]]
      exact yJ_lays [] rfl _
    · rw [yK_pts h k h1 (by omega)]
      exact yJ_has2 (P := partP p (nth idx k)) (onceY_mem p) _ (Nat.le_refl _)
theorem mK_pts (h : Idx p idx) : ∀ k, k ≤ idx.length → mK (ptsL p idx) k = (fnd (idx.take k) p.main.toNat).getD (-1)
  | 0, _ => by simp [mK, fnd]
  | k + 1, hk => by
    have hl : (ptsL p idx).length = idx.length := by simp [ptsL]
    have hv := (valid_iff p).1 h.val
    have hi := h.lt _ (nth_mem idx k hk)
    have hp : (plc p (nth idx k) (nth idx k)) < (usL p (nth idx k)).length := us_lt hi (used_self p _)
    show mainK _ _ _ _ = _
    rw [mK_pts h k (by omega), nth_idx hk, take_succ_atD idx k hk]
    unfold mainK
    rw [part_main hi]
    by_cases e : ((nth idx k : Nat) : Int) = p.main
    · rw [if_pos e]
      have e2 : nth idx k = p.main.toNat := by omega
      rw [if_pos ⟨by omega, by rw [part_len]; omega⟩, Int.toNat_natCast, defsK_part h.val hi, dK_pts h]
      have hn : p.main.toNat ∉ idx.take k := by
        intro hm
        rw [← e2] at hm
        have h3 : (idx.take (k + 1)).Nodup := List.Nodup.sublist (List.take_sublist _ _) h.nodup
        rw [take_succ_atD idx k hk, List.nodup_append] at h3
        exact h3.2.2 _ hm _ (by simp) rfl
      have h4 := fnd_snoc (idx.take k) p.main.toNat hn p.main.toNat
      rw [if_pos rfl] at h4
      rw [e2, ← h4]
      simp
    · rw [if_neg e, if_neg (fun hx => by omega)]
      congr 1
      have e2 : nth idx k ≠ p.main.toNat := by have := hv.2.2.2.1; omega
      have : ∀ l : List Nat, fnd (l ++ [nth idx k]) p.main.toNat = fnd l p.main.toNat := by
        intro l
        induction l with
        | nil => simp [fnd, e2]
        | cons y l ih => rw [List.cons_append, fnd, fnd, ih]
      exact (this _).symm
end

end Go.Proofs.Ytealeofgfgbheaa
