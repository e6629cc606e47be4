/-
  The registers that an instruction of a valid program reads or writes are registers of the function.
-/
import Derived.IntWalk
import Derived.Test.YteiohnfmlabelaaGreatZUsesV
namespace Go.Proofs.YteiohnfmlabelaaGreat
set_option linter.unusedVariables false
set_option linter.unusedSimpArgs false
open Go.RowKit

theorem rng_mem (a : Int) (m : Nat) (x : Int) : x ∈ rng a m ↔ a ≤ x ∧ x < a + m := by
  unfold rng
  simp only [List.mem_map, List.mem_range]
  constructor
  · rintro ⟨i, hi, rfl⟩; omega
  · rintro ⟨h1, h2⟩; exact ⟨(x - a).toNat, by omega, by omega⟩
theorem casesL_mem (c : List Ins) (pc m : Nat) (x : Int) (h : x ∈ casesL c pc m) : ∃ j, j < m ∧ x ∈ caseL (nth c (pc + 1 + j)) := by
  induction m with
  | zero => simp [casesL] at h
  | succ m ih =>
    rw [casesL, List.mem_append] at h
    rcases h with h | h
    · obtain ⟨j, hj, h⟩ := ih h; exact ⟨j, by omega, h⟩
    · exact ⟨m, by omega, h⟩
theorem rawU_mem (x : Ins) (v : Int) : ∀ k, v ∈ rawU x k → ∃ j, j < k ∧ v ∈ selU x j
  | 0, h => by simp [rawU] at h
  | k + 1, h => by
    rw [rawU, List.mem_append] at h
    rcases h with h | h
    · obtain ⟨j, hj, h⟩ := rawU_mem x v k h; exact ⟨j, by omega, h⟩
    · exact ⟨k, by omega, h⟩
theorem rawD_mem (x : Ins) (v : Int) : ∀ k, v ∈ rawD x k → ∃ j, j < k ∧ v ∈ selD x j
  | 0, h => by simp [rawD] at h
  | k + 1, h => by
    rw [rawD, List.mem_append] at h
    rcases h with h | h
    · obtain ⟨j, hj, h⟩ := rawD_mem x v k h; exact ⟨j, by omega, h⟩
    · exact ⟨k, by omega, h⟩

theorem opd_src {p : Prg} {f : Fun} {x : Ins} {r v : Int} (h : operandB p f x r v = true) (hr : r = 114 ∨ (r = 82 ∧ 0 ≤ v)) : 0 ≤ v ∧ v < f.regs := by
  rcases hr with rfl | ⟨rfl, hv⟩
  · simpa [operandB] using h
  · simp [operandB] at h; omega
theorem opd_dst {p : Prg} {f : Fun} {x : Ins} {r v : Int} (h : operandB p f x r v = true) (hr : r = 100 ∨ (r = 68 ∧ 0 ≤ v)) : 0 ≤ v ∧ v < f.regs := by
  rcases hr with rfl | ⟨rfl, hv⟩
  · simpa [operandB] using h
  · simp [operandB] at h; omega
theorem instr_opd {p : Prg} {f : Fun} {x : Ins} (h : instrB p f x = true) (k : Nat) (hk : k < 3) : operandB p f x (roleN x.op k) (opAt x k) = true := by
  simp only [instrB, Bool.and_eq_true] at h
  rcases (show k = 0 ∨ k = 1 ∨ k = 2 by omega) with rfl | rfl | rfl
  · exact h.2.2.1
  · exact h.2.2.2.1
  · exact h.2.2.2.2.1

theorem instr_tail {p : Prg} {f : Fun} {x : Ins} (h : instrB p f x = true) : instrTail f x = true := by
  simp only [instrB, Bool.and_eq_true] at h
  exact h.2.2.2.2.2

theorem uses_in {p : Prg} (hv : validB p = true) (F : Nat) (pc : Int) (hF : F < p.funcs.length) (v : Int) (h : v ∈ usesC p F pc) : 0 ≤ v ∧ v < (nth p.funcs F).regs := by
  unfold usesC at h
  cases hi : insAt p (F : Int) pc with
  | none => rw [hi] at h; simp at h
  | some x =>
    rw [hi] at h
    simp only at h
    split at h
    case isFalse => simp at h
    rename_i hop
    obtain ⟨F', K, hF', rfl, hFl, hK, hx⟩ := ins_split hi
    obtain rfl : F = F' := by omega
    have hfok := fok_of_funcB (valid_func hv F hF)
    have hin := hfok.ins K hK
    rw [hx] at hin
    have hsrc := role_src x.op ⟨hop.1, hop.2.1⟩
    obtain ⟨g0, g1, g2⟩ := fun_regs hv F hF
    rw [setL_mem, List.mem_append] at h
    rcases h with h | h
    · obtain ⟨j, hj, h⟩ := rawU_mem x v 3 h
      have ho := instr_opd hin j hj
      have hs := hsrc ⟨j, hj⟩
      simp only at hs
      unfold selU at h
      split at h
      · rename_i hr
        rw [List.mem_singleton] at h
        subst h
        refine opd_src ho ?_
        rcases hr with hr | hr
        · exact .inl (hs.1.2 hr)
        · exact .inr ⟨hs.2.2 hr.1, hr.2⟩
      · simp at h
    · have ot := instr_tail hin
      unfold extraU at h
      split at h
      · rename_i h38
        have o2 := instr_opd hin 2 (by omega)
        have e2 : roleN x.op 2 = 114 := by rw [h38]; rfl
        rw [e2] at o2
        have o2' := opd_src o2 (.inl rfl)
        rw [List.mem_singleton] at h
        subst h
        simp [instrTail, h38] at ot
        have e : opAt x 2 = x.c := rfl
        rw [e] at o2'
        have hw : wrap64 (x.c + 1) = x.c + 1 := by unfold wrap64; omega
        rw [hw] at ot
        omega
      · split at h
        · rename_i h25
          rw [List.mem_singleton] at h
          subst h
          simp [instrTail, h25] at ot
          omega
        · split at h
          · rename_i h24
            have o0 := instr_opd hin 0 (by omega)
            have e0 : roleN x.op 0 = 100 := by rw [h24]; rfl
            rw [e0] at o0
            have o0' := opd_dst o0 (.inl rfl)
            have o2 := instr_opd hin 2 (by omega)
            have e2 : roleN x.op 2 = 110 := by rw [h24]; rfl
            rw [e2] at o2
            simp [operandB] at o2
            have e : opAt x 0 = x.a := rfl
            rw [e] at o0'
            have e' : opAt x 2 = x.c := rfl
            rw [e'] at o2
            simp [instrTail, h24] at ot
            have hw : wrap64 (x.a + x.c) = x.a + x.c := by unfold wrap64; omega
            rw [hw] at ot
            rw [rng_mem] at h
            omega
          · split at h
            · rename_i hc
              have o1 := instr_opd hin 1 (by omega)
              have e1 : roleN x.op 1 = 102 := by rcases hc with h | h | h <;> (rw [h]; rfl)
              rw [e1] at o1
              have e : opAt x 1 = x.b := rfl
              rw [e] at o1
              simp [operandB] at o1
              obtain ⟨b0, b1, c0, c1⟩ := o1
              obtain ⟨p0, p1, p2⟩ := fun_regs hv x.b.toNat (by omega)
              have hw : wrap64 ((nth p.funcs F).regs - (nth p.funcs x.b.toNat).params) = (nth p.funcs F).regs - (nth p.funcs x.b.toNat).params := by unfold wrap64; omega
              rw [hw] at c1
              rw [rng_mem] at h
              omega
            · split at h
              · rename_i h50
                rw [Int.toNat_natCast, Int.toNat_natCast] at h
                obtain ⟨j, hj, h⟩ := casesL_mem _ _ _ _ h
                have hs := hfok.selEnd K hK (by rw [hx]; exact h50)
                rw [hx] at hs
                have hKj : K + 1 + j < (nth p.funcs F).code.length := by omega
                have hcase := hfok.sel K hK (by rw [hx]; exact h50) j (by rw [hx]; omega) hKj
                have hyin := hfok.ins (K + 1 + j) hKj
                generalize nth (nth p.funcs F).code (K + 1 + j) = y at *
                have a0 := instr_opd hyin 0 (by omega)
                have e0 : roleN y.op 0 = 114 := by rw [hcase]; rfl
                rw [e0] at a0
                have a0' := opd_src a0 (.inl rfl)
                have e : opAt y 0 = y.a := rfl
                rw [e] at a0'
                unfold caseL at h
                split at h
                · rename_i hb
                  have a2 := instr_opd hyin 2 (by omega)
                  have e2 : roleN y.op 2 = 99 := by rw [hcase]; rfl
                  rw [e2] at a2
                  have e' : opAt y 2 = y.c := rfl
                  rw [e'] at a2
                  simp [operandB, hb] at a2
                  simp at h
                  rcases h with h | h <;> omega
                · simp at h
                  omega
              · simp at h

theorem defs_in {p : Prg} (hv : validB p = true) (F : Nat) (pc : Int) (hF : F < p.funcs.length) (v : Int) (h : v ∈ defsC p F pc) : 0 ≤ v ∧ v < (nth p.funcs F).regs := by
  unfold defsC at h
  cases hi : insAt p (F : Int) pc with
  | none => rw [hi] at h; simp at h
  | some x =>
    rw [hi] at h
    simp only at h
    split at h
    case isFalse => simp at h
    rename_i hop
    obtain ⟨F', K, hF', rfl, hFl, hK, hx⟩ := ins_split hi
    obtain rfl : F = F' := by omega
    have hfok := fok_of_funcB (valid_func hv F hF)
    have hin := hfok.ins K hK
    rw [hx] at hin
    have hsrc := role_dst x.op ⟨hop.1, hop.2.1⟩
    rw [setL_mem] at h
    obtain ⟨j, hj, h⟩ := rawD_mem x v 3 h
    have ho := instr_opd hin j hj
    have hs := hsrc ⟨j, hj⟩
    simp only at hs
    unfold selD at h
    split at h
    · rename_i hr
      rw [List.mem_singleton] at h
      subst h
      refine opd_dst ho ?_
      rcases hr with hr | hr
      · exact .inl (hs.1.2 hr)
      · exact .inr ⟨hs.2.2 hr.1, hr.2⟩
    · simp at h

theorem uses_inc (p : Prg) (fn pc : Int) : Inc (usesC p fn pc) := by
  unfold usesC
  split
  · exact List.Pairwise.nil
  · split
    · exact setL_inc _
    · exact List.Pairwise.nil
theorem defs_inc (p : Prg) (fn pc : Int) : Inc (defsC p fn pc) := by
  unfold defsC
  split
  · exact List.Pairwise.nil
  · split
    · exact setL_inc _
    · exact List.Pairwise.nil
theorem inc_step {l : List Int} (h : Inc l) (k : Nat) (hk : k + 1 < l.length) : nth l k < nth l (k + 1) := by
  rw [nth_eq _ _ (by omega), nth_eq _ _ hk]
  exact List.pairwise_iff_getElem.1 h k (k + 1) (by omega) hk (by omega)

end Go.Proofs.YteiohnfmlabelaaGreat
