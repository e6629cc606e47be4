/-
  The parts of a valid program are parts.
-/
import Derived.Test.YtealeofgfgbheaaZLkY
namespace Go.Proofs.Ytealeofgfgbheaa
set_option linter.unusedVariables false
set_option linter.unusedSimpArgs false
open Go.RowKit

section
variable {p : Prg} {i : Nat}
theorem code_ne {p : Prg} (hv : validB p = true) {k : Nat} (hk : k < p.funcs.length) : (nth p.funcs k).code ≠ [] := funcB_code (valid_func hv k hk)
theorem head_facts {q : Prg} {f : Fun} (h : funcB q f = true) : f.name.toList.isEmpty = false ∧ 0 ≤ f.params ∧ f.params ≤ f.regs ∧ f.regs ≤ 64 ∧ f.code.length ≤ 1000 := by
  simp only [funcB, headB, Bool.and_eq_true, decide_eq_true_eq, Bool.not_eq_true'] at h
  exact ⟨h.1.1, h.1.2.1, h.1.2.2.1, h.1.2.2.2.1, h.1.2.2.2.2.2⟩
theorem close_self {f : Fun} (h : f.code ≠ []) : closeF f = f := by unfold closeF; rw [if_neg h]
theorem close_imp (f : Fun) : closeF (imp f) = { imp f with code := [retI] } := by unfold closeF; exact if_pos rfl
theorem partF_self (p : Prg) (i : Nat) : partF p i i = { nth p.funcs i with code := (nth p.funcs i).code.map (reP p i) } := by unfold partF; rw [if_pos rfl]
theorem partF_other {k : Nat} (h : k ≠ i) : partF p i k = imp (nth p.funcs k) := by unfold partF; rw [if_neg h]
theorem closed_valid (hv : validB p = true) (hi : i < p.funcs.length) (nm : ByteArray) {k : Nat} (hk : k < p.funcs.length) : funcB (partOf nm (partP p i)) (closeF (partF p i k)) = true := by
  by_cases e : k = i
  · subst e
    rw [partF_self, close_self (by
      show (nth p.funcs k).code.map (reP p k) ≠ []
      intro h
      exact code_ne hv hk (List.map_eq_nil_iff.1 h))]
    exact part_def hk (valid_func hv k hk)
  · rw [partF_other e, close_imp]
    obtain ⟨h1, h2, h3, h4, -⟩ := head_facts (valid_func hv k hk)
    exact ret_func _ (imp (nth p.funcs k)) h1 h2 (Int.le_refl _) (Int.le_trans h3 h4)
theorem names_ne (hv : validB p = true) {j k : Nat} (hj : j < p.funcs.length) (hk : k < p.funcs.length) (h : j ≠ k) : (nth p.funcs j).name ≠ (nth p.funcs k).name := by
  have h9 := ((valid_iff p).1 hv).2.2.2.2.2.2.2.2
  rcases Nat.lt_or_gt_of_ne h with h1 | h1
  · exact h9 k hk j h1
  · exact fun e => h9 j hj k h1 e.symm
theorem usL_ne {s t : Nat} (hs : s < (usL p i).length) (ht : t < (usL p i).length) (h : s ≠ t) : nth (usL p i) s ≠ nth (usL p i) t := by
  intro e
  have h1 := (us_at hs).2.2
  have h2 := (us_at ht).2.2
  rw [e, h2] at h1
  exact h h1.symm
theorem part_main (hi : i < p.funcs.length) : (partP p i).main = if (i : Int) = p.main then (plc p i i : Int) else -1 := rfl
set_option maxHeartbeats 1000000 in
theorem part_valid (hv : validB p = true) (hn : p.funcs.length < 64) (hi : i < p.funcs.length) : partB (partP p i) = true := by
  have hself := us_lt hi (used_self p i)
  have hul := us_len p i
  have e1 : impB (partP p i) = true := by
    unfold impB
    rw [List.all_eq_true]
    intro t ht
    rw [List.mem_range, part_len] at ht
    rw [part_nth ht]
    obtain ⟨h1, h2, h3⟩ := us_at ht
    by_cases e : nth (usL p i) t = i
    · rw [e, partF_self]
      have h4 := code_ne hv hi
      cases hc : (nth p.funcs i).code with
      | nil => exact absurd hc h4
      | cons x l => rfl
    · rw [partF_other e]
      have h5 : ¬ ((t : Int) = (partP p i).main) := by
        rw [part_main hi]
        split
        · intro h6
          have h7 : t = plc p i i := by omega
          rw [h7] at e
          exact e (us_nth hi (used_self p i))
        · omega
      simp [imp, h5]
  unfold partB
  rw [e1, Bool.true_and]
  obtain ⟨nm, hnm⟩ : ∃ nm, freshN (partP p i) = nm := ⟨_, rfl⟩
  have hfs := fresh_size (partP p i)
  have hfn := fresh_new (partP p i)
  rw [hnm] at hfs hfn ⊢
  obtain ⟨v1, v2, v3, v4, v5, v6, v7, v8, v9⟩ := (valid_iff p).1 hv
  have hg := partOf_globs nm (partP p i)
  have hlo : ∀ t, t < (usL p i).length → nth (partOf nm (partP p i)).funcs t = closeF (partF p i (nth (usL p i) t)) := fun t ht => by
    rw [partOf_nth _ _ _ (by rw [part_len]; exact ht), part_nth ht]
  have hla : (partP p i).main = -1 → nth (partOf nm (partP p i)).funcs (usL p i).length = mainF nm := fun hm => by
    unfold partOf
    rw [if_pos hm]
    have := nth_snoc ((partP p i).funcs.map closeF) (mainF nm)
    rwa [List.length_map, part_len] at this
  have hlen := partOf_len nm (partP p i)
  rw [part_len] at hlen
  rw [valid_iff]
  refine ⟨by rw [hlen]; split <;> omega, by rw [hg.1]; exact v2, by rw [hg.2]; exact v3, ?_, ?_, ?_, by rw [hg.1]; exact v7, fun t ht => ?_, fun t ht k hk => ?_⟩
  · unfold partOf
    split
    · show (0 : Int) ≤ ((partP p i).funcs.length : Int); omega
    · next h =>
      show 0 ≤ (partP p i).main
      rw [part_main hi] at h ⊢
      split
      · omega
      · next h2 => rw [if_neg h2] at h; exact absurd rfl h
  · rw [hlen]
    by_cases hm : (partP p i).main = -1
    · rw [if_pos hm]
      unfold partOf
      rw [if_pos hm]
      show ((partP p i).funcs.length : Int) < _
      rw [part_len]; omega
    · rw [if_neg hm]
      unfold partOf
      rw [if_neg hm]
      show (partP p i).main < _
      rw [part_main hi] at hm ⊢
      split
      · omega
      · next h2 => rw [if_neg h2] at hm; exact absurd rfl hm
  · by_cases hm : (partP p i).main = -1
    · have e2 : (partOf nm (partP p i)).main = ((partP p i).funcs.length : Int) := by unfold partOf; rw [if_pos hm]
      rw [e2, Int.toNat_natCast, part_len, hla hm]
      rfl
    · have e2 : (partOf nm (partP p i)).main = (partP p i).main := by unfold partOf; rw [if_neg hm]
      rw [e2]
      have e3 : (i : Int) = p.main := by
        rw [part_main hi] at hm
        by_cases h2 : (i : Int) = p.main
        · exact h2
        · rw [if_neg h2] at hm; exact absurd rfl hm
      rw [part_main hi, if_pos e3, Int.toNat_natCast, hlo _ hself, close_params, partF_params, us_nth hi (used_self p i)]
      have e4 : p.main.toNat = i := by omega
      rw [← e4]; exact v6
  · rw [hlen] at ht
    rcases Nat.lt_or_ge t (usL p i).length with h1 | h1
    · rw [hlo t h1]
      exact closed_valid hv hi nm (us_at h1).1
    · have hm : (partP p i).main = -1 := by
        by_cases hm : (partP p i).main = -1
        · exact hm
        · rw [if_neg hm] at ht; omega
      rw [if_pos hm] at ht
      rw [show t = (usL p i).length by omega, hla hm]
      have hne : nm.toList.isEmpty = false := by
        rw [ByteArray.toList_eq]
        cases hq : nm.data.toList with
        | nil =>
          have h5 : nm.size = nm.data.toList.length := (Array.length_toList (xs := nm.data)).symm
          rw [hq] at h5
          exact absurd h5 hfs
        | cons x l => rfl
      exact ret_func _ ⟨nm, 0, 0, []⟩ hne (Int.le_refl _) (Int.le_refl _) (by show (0 : Int) ≤ 64; omega)
  · rw [hlen] at ht
    have hkl : k < (usL p i).length := by split at ht <;> omega
    rw [hlo k hkl, close_name, partF_name]
    rcases Nat.lt_or_ge t (usL p i).length with h1 | h1
    · rw [hlo t h1, close_name, partF_name]
      exact names_ne hv (us_at hkl).1 (us_at h1).1 (usL_ne hkl h1 (by omega))
    · have hm : (partP p i).main = -1 := by
        by_cases hm : (partP p i).main = -1
        · exact hm
        · rw [if_neg hm] at ht; omega
      rw [if_pos hm] at ht
      rw [show t = (usL p i).length by omega, hla hm]
      have h3 := hfn (nth (partP p i).funcs k) (nth_mem _ k (by rw [part_len]; exact hkl))
      rw [part_nth hkl, partF_name] at h3
      exact h3
end

end Go.Proofs.Ytealeofgfgbheaa
