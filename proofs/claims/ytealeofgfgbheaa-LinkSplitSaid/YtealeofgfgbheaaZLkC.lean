/-
  Lists of parts of one valid program fit: all conditions; what is missing; what the link is.
-/
import Derived.Test.YtealeofgfgbheaaZLkB
namespace Go.Proofs.Ytealeofgfgbheaa
set_option linter.unusedVariables false
set_option linter.unusedSimpArgs false
open Go.RowKit

theorem fnd_get {α : Type} [DecidableEq α] [Inhabited α] {l : List α} {x : α} {t : Nat} (h : fnd l x = some (t : Int)) : t < l.length ∧ nth l t = x := by
  by_cases hm : x ∈ l
  · obtain ⟨i, h1, h2, h3⟩ := fnd_some l x hm
    rw [h] at h2
    have e : t = i := by have := Option.some.inj h2; omega
    subst e
    refine ⟨h1, ?_⟩
    rw [nth_eq _ _ h1]
    exact (List.getElem?_eq_some_iff.1 h3).2
  · rw [(fnd_none l x).2 hm] at h; cases h
theorem glob_inj {l : List Glob} (h : (l.map fun g => g.name).Nodup) {g g' : Glob} (hg : g ∈ l) (hg' : g' ∈ l) (e : g.name = g'.name) : g = g' := by
  obtain ⟨a, ha, rfl⟩ := List.getElem_of_mem hg
  obtain ⟨b, hb, rfl⟩ := List.getElem_of_mem hg'
  have h1 : (l.map fun g => g.name)[a]'(by simpa using ha) = (l.map fun g => g.name)[b]'(by simpa using hb) := by simpa using e
  have := (List.getElem_inj h).1 h1
  subst this
  rfl
section
variable {p : Prg} {idx : List Nat}
theorem val_facts (h : Idx p idx) : p.globals.length ≤ 64 ∧ p.layouts.length ≤ 32 ∧ (∀ r ∈ p.layouts, r.length ≤ 64) ∧ ∀ k, k < p.funcs.length → (nth p.funcs k).code.length ≤ 1000 := by
  have hv := (valid_iff p).1 h.val
  have h3 := hv.2.2.1
  unfold laysB at h3
  rw [Bool.and_eq_true, List.all_eq_true, decide_eq_true_eq] at h3
  refine ⟨hv.2.1, h3.2, fun r hr => ?_, fun k hk => (head_facts (valid_func h.val k hk)).2.2.2.2⟩
  have h4 := h3.1 r hr
  unfold rowB at h4
  rw [Bool.and_eq_true, decide_eq_true_eq] at h4
  exact h4.2
theorem part_mem {i : Nat} {f : Fun} (hf : f ∈ (partP p i).funcs) : ∃ k, k < p.funcs.length ∧ usedB p i k = true ∧ f = partF p i k := by
  rw [part_funcs] at hf
  obtain ⟨k, hk, rfl⟩ := List.mem_map.1 hf
  exact ⟨k, (us_mem.1 hk).1, (us_mem.1 hk).2, rfl⟩
theorem part_wf (h : Idx p idx) {i : Nat} (hi : i < p.funcs.length) : PrgWf (partP p i) := by
  have hul := us_len p i
  have h64 := h.lt64
  have hw := h.wf
  refine ⟨by rw [part_len]; omega, fun f hf => ?_, hw.globs, hw.glob, hw.lays, hw.lay, ?_⟩
  · obtain ⟨k, hk, hu, rfl⟩ := part_mem hf
    have hfw := hw.func _ (nth_mem p.funcs k hk)
    by_cases e : k = i
    · subst e
      rw [partF_self]
      refine ⟨hfw.name, hfw.params, hfw.regs, by show ((nth p.funcs k).code.map (reP p k)).length * 40 ≤ _; rw [List.length_map]; exact hfw.code, fun x hx => ?_⟩
      obtain ⟨y, hy, rfl⟩ := List.mem_map.1 hx
      have hyw := hfw.ins y hy
      unfold reP
      split
      · have := plc_le p k y.b.toNat
        have h0 : plc p k y.b.toNat ≤ (usL p k).length ∨ True := .inr trivial
        refine ⟨hyw.op, hyw.a, ?_, hyw.c, hyw.pos⟩
        have hb := hyw.b
        unfold I64 at hb ⊢
        show -9223372036854775808 ≤ (plc p k y.b.toNat : Int) ∧ (plc p k y.b.toNat : Int) ≤ 9223372036854775807
        omega
      · exact hyw
    · rw [partF_other e]
      exact ⟨hfw.name, hfw.params, hfw.params, by show ([] : List Ins).length * 40 ≤ _; simp, fun x hx => by simp [imp] at hx⟩
  · rw [part_main hi]
    have := us_lt hi (used_self p i)
    unfold I64
    split <;> omega
theorem part_rng (h : Idx p idx) {i : Nat} (hi : i < p.funcs.length) : ∀ f ∈ (partP p i).funcs, ∀ x ∈ f.code, Num6 x.op → RngI (partP p i) x.op x.b := by
  intro f hf x hx h6
  obtain ⟨k, hk, hu, rfl⟩ := part_mem hf
  by_cases e : k = i
  · subst e
    rw [partF_self] at hx
    obtain ⟨y, hy, rfl⟩ := List.mem_map.1 hx
    have hok := fok_of_funcB (valid_func h.val k hk)
    obtain ⟨n, hn, he⟩ := List.getElem_of_mem hy
    have hins := hok.ins n hn
    rw [nth_eq _ _ hn, he] at hins
    rw [reP_op] at h6 ⊢
    cases hc : callB y.op with
    | true =>
      obtain ⟨h0, h1⟩ := call_range hins hc
      have hu2 := used_of hy hc h0
      have hlt := us_lt (show y.b.toNat < p.funcs.length by omega) hu2
      have e2 : (reP p k y).b = (plc p k y.b.toNat : Nat) := by unfold reP; rw [hc]; rfl
      have h4 := (call_iff _).1 hc
      rw [e2]
      exact ⟨by omega, fun e => by omega, fun e => by omega, fun _ _ => by rw [part_len]; omega⟩
    | false =>
      have e2 : reP p k y = y := by unfold reP; rw [hc]; rfl
      have h4 : ¬ (y.op = 26 ∨ y.op = 28 ∨ y.op = 31 ∨ y.op = 24) := fun e => by rw [(call_iff _).2 e] at hc; cases hc
      rw [e2]
      simp only [instrB, Bool.and_eq_true] at hins
      have h1 := hins.2.2.2.1
      unfold Num6 at h6
      have h5 : y.op = 18 ∨ y.op = 21 := by omega
      rcases h5 with e3 | e3 <;> rw [e3] at h1
      · rw [show roleN 18 1 = 103 from rfl] at h1
        simp [operandB] at h1
        exact ⟨h1.1, fun _ => h1.2, fun e => by omega, fun n1 _ => absurd e3 n1⟩
      · rw [show roleN 21 1 = 108 from rfl] at h1
        simp [operandB] at h1
        exact ⟨h1.1, fun e => by omega, fun _ => h1.2, fun _ n2 => absurd e3 n2⟩
  · rw [partF_other e] at hx
    simp [imp] at hx
theorem pts_mem {P : Prg} (h : Idx p idx) (hP : P ∈ ptsL p idx) : ∃ i, i ∈ idx ∧ i < p.funcs.length ∧ P = partP p i := by
  obtain ⟨i, hi, rfl⟩ := List.mem_map.1 hP
  exact ⟨i, hi, h.lt i hi, rfl⟩
theorem pts_len (p : Prg) (idx : List Nat) : (ptsL p idx).length = idx.length := by simp [ptsL]
theorem gL_pts (h : Idx p idx) (h0 : 0 < idx.length) : gL (ptsL p idx) = p.globals := by rw [gL, pts_len]; exact gK_pts h _ h0 (Nat.le_refl _)
theorem yL_pts (h : Idx p idx) (h0 : 0 < idx.length) : yL (ptsL p idx) = onceY p := by rw [yL, pts_len]; exact yK_pts h _ h0 (Nat.le_refl _)
theorem mL_pts (h : Idx p idx) : mL (ptsL p idx) = (fnd idx p.main.toNat).getD (-1) := by rw [mL, pts_len, mK_pts h _ (Nat.le_refl _), List.take_length]
theorem pts_ok (h : Idx p idx) : LOk (ptsL p idx) := by
  have hv := (valid_iff p).1 h.val
  obtain ⟨f1, f2, f3, f4⟩ := val_facts h
  have hil := nodup_len h
  have h64 := h.lt64
  refine ⟨by rw [pts_len]; omega, fun P hP => ?_, fun P hP => ?_, fun P hP => ?_, fun P hP f hf => ?_, fun P hP r hr => ?_, by rw [dL_names h]; exact idx_names h, fun i j hi hj h1 h2 => ?_, fun P hP j h1 h2 => ?_, fun P hP => ?_, fun P hP f hf t ht => ?_, fun P hP Q hQ g hg g' hg' e => ?_, fun P hP => ?_, ?_, ?_, ?_⟩
  · obtain ⟨i, -, hi, rfl⟩ := pts_mem h hP
    exact part_wf h hi
  · obtain ⟨i, -, hi, rfl⟩ := pts_mem h hP
    exact part_valid h.val h64 hi
  · obtain ⟨i, -, hi, rfl⟩ := pts_mem h hP
    have := us_len p i
    exact ⟨by rw [part_len]; omega, f1, Nat.le_trans f2 (by omega)⟩
  · obtain ⟨i, -, hi, rfl⟩ := pts_mem h hP
    obtain ⟨k, hk, -, rfl⟩ := part_mem hf
    by_cases e : k = i
    · subst e
      rw [partF_self]
      show ((nth p.funcs k).code.map (reP p k)).length ≤ _
      rw [List.length_map]
      have := f4 k hk
      omega
    · rw [partF_other e]
      simp [imp]
  · obtain ⟨i, -, hi, rfl⟩ := pts_mem h hP
    have := f3 r hr
    omega
  · rw [pts_len] at hi hj
    rw [nth_idx hi, part_main (h.lt _ (nth_mem idx i hi))] at h1
    rw [nth_idx hj, part_main (h.lt _ (nth_mem idx j hj))] at h2
    have e1 : ((nth idx i : Nat) : Int) = p.main := by
      by_cases e : ((nth idx i : Nat) : Int) = p.main
      · exact e
      · rw [if_neg e] at h1; omega
    have e2 : ((nth idx j : Nat) : Int) = p.main := by
      by_cases e : ((nth idx j : Nat) : Int) = p.main
      · exact e
      · rw [if_neg e] at h2; omega
    have e3 : nth idx i = nth idx j := by omega
    rw [nth_eq _ _ hi, nth_eq _ _ hj] at e3
    exact (List.getElem_inj h.nodup).1 e3
  · obtain ⟨i, -, hi, rfl⟩ := pts_mem h hP
    rw [part_main hi] at h1
    have e : (i : Int) = p.main := by
      by_cases e : (i : Int) = p.main
      · exact e
      · rw [if_neg e] at h1; omega
    rw [if_pos e] at h1
    rw [show j = plc p i i by omega, part_nth (us_lt hi (used_self p i)), us_nth hi (used_self p i), isDef_partF h.val hi]
    simp
  · obtain ⟨i, -, hi, rfl⟩ := pts_mem h hP
    have := us_lt hi (used_self p i)
    rw [part_main hi, part_len]
    split <;> omega
  · obtain ⟨i, -, hi, rfl⟩ := pts_mem h hP
    obtain ⟨k, hk, -, rfl⟩ := part_mem hf
    rw [partF_name, dL_names h, fnd_name h hk] at ht
    obtain ⟨h1, h2⟩ := fnd_get ht
    rw [dL_pts h, nth_map _ _ _ h1, h2, partF_params]
    rfl
  · obtain ⟨i, -, hi, rfl⟩ := pts_mem h hP
    obtain ⟨j, -, hj, rfl⟩ := pts_mem h hQ
    rw [glob_inj (globs_nodup hv.2.2.2.2.2.2.1) (show g ∈ p.globals from hg) (show g' ∈ p.globals from hg') e]
  · obtain ⟨i, -, hi, rfl⟩ := pts_mem h hP
    exact part_rng h hi
  · rw [dL_pts h, List.length_map]; omega
  · rcases Nat.eq_zero_or_pos idx.length with h0 | h0
    · rw [List.eq_nil_of_length_eq_zero h0]; simp [gL, gK, ptsL]
    · rw [gL_pts h h0]; exact f1
  · rcases Nat.eq_zero_or_pos idx.length with h0 | h0
    · rw [List.eq_nil_of_length_eq_zero h0]; simp [yL, yK, ptsL]
    · rw [yL_pts h h0]
      have := yJ_len [] p _ (Nat.le_refl _)
      unfold onceY
      simp at this
      omega
/-- What is missing: the main function's part, or that of a function that another one uses. -/
theorem miss_pts (h : Idx p idx) : missB (ptsL p idx) = true ↔ p.main.toNat ∉ idx ∨ ∃ i ∈ idx, ∃ k, k < p.funcs.length ∧ usedB p i k = true ∧ k ∉ idx := by
  unfold missB
  rw [Bool.or_eq_true, decide_eq_true_eq, mL_pts h, Bool.not_eq_true', pts_len]
  refine or_congr ?_ ?_
  · by_cases hm : p.main.toNat ∈ idx
    · obtain ⟨t, h1, h2, -⟩ := fnd_some _ _ hm
      rw [h2]
      simp [hm]
    · rw [(fnd_none _ _).2 hm]
      simp [hm]
  · rw [List.all_eq_false]
    constructor
    · rintro ⟨t, ht, hres⟩
      rw [List.mem_range] at ht
      have hti := h.lt _ (nth_mem idx t ht)
      rw [nth_idx ht] at hres
      have hres2 : resB (dL (ptsL p idx)) (partP p (nth idx t)) = false := by simpa using hres
      unfold resB at hres2
      rw [List.all_eq_false] at hres2
      obtain ⟨j, hj, hb⟩ := hres2
      rw [List.mem_range, part_len] at hj
      obtain ⟨u1, u2, u3⟩ := us_at hj
      refine ⟨_, nth_mem idx t ht, nth (usL p (nth idx t)) j, u1, u2, fun hin => hb ?_⟩
      rw [part_nth hj]
      unfold hasB
      rw [partF_name, dL_names h]
      exact memB_true (List.mem_map.2 ⟨_, hin, rfl⟩)
    · rintro ⟨i, hi, k, hk, hu, hn⟩
      obtain ⟨t, ht, rfl⟩ := List.getElem_of_mem hi
      refine ⟨t, List.mem_range.2 ht, ?_⟩
      rw [nth_idx ht]
      have e : nth idx t = idx[t] := nth_eq _ _ ht
      rw [e]
      have : resB (dL (ptsL p idx)) (partP p idx[t]) = false := by
        unfold resB
        rw [List.all_eq_false]
        refine ⟨plc p idx[t] k, List.mem_range.2 (by rw [part_len]; exact us_lt hk hu), ?_⟩
        rw [part_nth (us_lt hk hu), us_nth hk hu]
        unfold hasB
        rw [partF_name, dL_names h, memB_false]
        · simp
        · intro hm
          obtain ⟨j, hj, e2⟩ := List.mem_map.1 hm
          have := name_inj h.val (h.lt j hj) hk e2
          exact hn (this ▸ hj)
      rw [this]
      simp
end

end Go.Proofs.Ytealeofgfgbheaa
