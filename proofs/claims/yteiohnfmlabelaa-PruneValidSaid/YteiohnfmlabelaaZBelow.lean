/-
  The registers that an instruction of a valid program reads, as the document's answer lists them.
-/
import Derived.IntWalk
import Derived.Test.YteiohnfmlabelaaZInstr
import Derived.Test.YteiohnfmlabelaaZCDefs
import Derived.Test.YteiohnfmlabelaaZCUses2
namespace Go.Proofs.Yteiohnfmlabelaa
set_option linter.unusedVariables false
set_option linter.unusedSimpArgs false
open Go.RowKit

theorem setL_snoc (l : List Int) (n : Int) : setL (l ++ [n]) = withL (setL l) n := by rw [← foldl_setL, ← foldl_setL, List.foldl_append]; rfl
theorem setL_len (l : List Int) : (setL l).length ≤ l.length := by
  have h1 := Lib.compact_length_le (sortI l)
  rw [sortI_length] at h1
  exact h1
theorem op_fin {P : Int → Prop} (h : ∀ n : Fin 53, 0 < n.val → P (n.val : Int)) (op : Int) (h0 : 0 < op ∧ op < 53) : P op := by
  obtain ⟨n, rfl⟩ := Int.eq_ofNat_of_zero_le (by omega : 0 ≤ op)
  exact h ⟨n, by omega⟩ (by show 0 < n; omega)
theorem setL_nil : setL [] = [] := by rw [← foldl_setL]; rfl
theorem role_src (op : Int) (h0 : 0 < op ∧ op < 53) : (∀ k : Fin 3, (roleN op k.val = 114 ↔ roleC op k.val = 115) ∧ (roleN op k.val = 82 ↔ roleC op k.val = 83)) :=
  op_fin (P := fun op => ∀ k : Fin 3, (roleN op k.val = 114 ↔ roleC op k.val = 115) ∧ (roleN op k.val = 82 ↔ roleC op k.val = 83)) (by decide +kernel) op h0
theorem roles_three (op : Int) (h0 : 0 < op ∧ op < 53) : (roles op).data.size = 3 :=
  op_fin (P := fun op => (roles op).data.size = 3) (by decide +kernel) op h0

/-- The plain operations read nothing further. -/
def PlainU (x : Ins) : Prop := x.op ≠ 38 ∧ x.op ≠ 25 ∧ x.op ≠ 24 ∧ x.op ≠ 26 ∧ x.op ≠ 28 ∧ x.op ≠ 31 ∧ x.op ≠ 50

end Go.Proofs.Yteiohnfmlabelaa

/-
  The registers that an instruction of a valid program always writes, as the document's answer lists them.
-/
namespace Go.Proofs.Yteiohnfmlabelaa
set_option linter.unusedVariables false
set_option linter.unusedSimpArgs false
open Go.RowKit

theorem role_dst (op : Int) (h0 : 0 < op ∧ op < 53) : (∀ k : Fin 3, (roleN op k.val = 100 ↔ roleC op k.val = 100) ∧ (roleN op k.val = 68 ↔ roleC op k.val = 68)) :=
  op_fin (P := fun op => ∀ k : Fin 3, (roleN op k.val = 100 ↔ roleC op k.val = 100) ∧ (roleN op k.val = 68 ↔ roleC op k.val = 68)) (by decide +kernel) op h0

end Go.Proofs.Yteiohnfmlabelaa

/-
  Uses and Defs of a valid program, at any index: the program's and the document's answers.
-/
namespace Go.Proofs.Yteiohnfmlabelaa
set_option linter.unusedVariables false
set_option linter.unusedSimpArgs false
open Go.RowKit

theorem roles_out (op : Int) (h : ¬ (0 < op ∧ op < 53)) : roles op = ⟨#[]⟩ := by
  unfold roles
  repeat rw [if_neg (by omega)]
theorem instr_op {p : Prg} {f : Fun} {x : Ins} (h : instrB p f x = true) : 0 < x.op ∧ x.op < 53 := by
  rcases Classical.em (0 < x.op ∧ x.op < 53) with h1 | h1
  · exact h1
  · simp only [instrB, Bool.and_eq_true] at h
    have h2 := h.1
    rw [roles_out x.op h1] at h2
    simp at h2

theorem fun_regs {p : Prg} (hv : validB p = true) (i : Nat) (hi : i < p.funcs.length) : 0 ≤ (nth p.funcs i).params ∧ (nth p.funcs i).params ≤ (nth p.funcs i).regs ∧ (nth p.funcs i).regs ≤ 64 := by
  have h := valid_func hv i hi
  simp only [funcB, headB, Bool.and_eq_true, decide_eq_true_eq] at h
  omega

theorem ins_split {p : Prg} {fn pc : Int} {x : Ins} (hi : insAt p fn pc = some x) : ∃ F K : Nat, fn = F ∧ pc = K ∧ F < p.funcs.length ∧ K < (nth p.funcs F).code.length ∧ nth (nth p.funcs F).code K = x := by
  unfold insAt at hi
  split at hi
  · rename_i h1
    split at hi
    · rename_i h2
      refine ⟨fn.toNat, pc.toNat, by omega, by omega, by omega, by omega, by simpa using hi⟩
    · cases hi
  · cases hi

theorem more_of_valid {p : Prg} (hv : validB p = true) {fn pc : Int} {x : Ins} (hi : insAt p fn pc = some x) : (0 < x.op ∧ x.op < 53) ∧ (MoreU p fn pc x ∨ PlainU x) ∧ ∀ k, k < 3 → roleC x.op k = 100 → 0 ≤ opAt x k := by
  obtain ⟨F, K, rfl, rfl, hF, hK, hx⟩ := ins_split hi
  have hfok := fok_of_funcB (valid_func hv F hF)
  have hin := hfok.ins K hK
  rw [hx] at hin
  have hop := instr_op hin
  obtain ⟨g0, g1, g2⟩ := fun_regs hv F hF
  have hin' := hin
  simp only [instrB, Bool.and_eq_true] at hin'
  obtain ⟨_, _, o0, o1, o2, ot⟩ := hin'
  refine ⟨hop, ?_, ?_⟩
  · by_cases h38 : x.op = 38
    · left; left
      rw [h38] at o2
      have e2 : roleN 38 2 = 114 := rfl
      rw [e2] at o2
      simp [operandB] at o2
      exact ⟨h38, by omega, by omega⟩
    by_cases h25 : x.op = 25
    · left; right; left; exact h25
    by_cases h24 : x.op = 24
    · left; right; right; left
      rw [h24] at o0 o2
      have e0 : roleN 24 0 = 100 := rfl
      have e2 : roleN 24 2 = 110 := rfl
      rw [e0] at o0
      rw [e2] at o2
      simp [operandB] at o0 o2
      simp [instrTail, h24] at ot
      have hw : wrap64 (x.a + x.c) = x.a + x.c := by unfold wrap64; omega
      rw [hw] at ot
      exact ⟨h24, by omega, by omega, by omega⟩
    by_cases hc : x.op = 26 ∨ x.op = 28 ∨ x.op = 31
    · left; right; right; right; left
      have e1 : roleN x.op 1 = 102 := by rcases hc with h | h | h <;> (rw [h]; rfl)
      rw [e1] at o1
      simp [operandB] at o1
      obtain ⟨b0, b1, c0, c1⟩ := o1
      have hb : x.b.toNat < p.funcs.length := by omega
      obtain ⟨p0, p1, p2⟩ := fun_regs hv x.b.toNat hb
      have hw : wrap64 ((nth p.funcs F).regs - (nth p.funcs x.b.toNat).params) = (nth p.funcs F).regs - (nth p.funcs x.b.toNat).params := by unfold wrap64; omega
      rw [hw] at c1
      exact ⟨hc, b0, b1, c0, by omega, p0, by omega⟩
    by_cases h50 : x.op = 50
    · left; right; right; right; right
      have hs := hfok.selEnd K hK (by rw [hx]; exact h50)
      rw [hx] at hs
      have hl := hfok.le
      refine ⟨h50, by omega, by omega, by omega, ?_, ?_, hs.1, hs.2.1, ?_⟩ <;> rw [Int.toNat_natCast] <;> omega
    · right
      exact ⟨h38, h25, h24, fun h => hc (.inl h), fun h => hc (.inr (.inl h)), fun h => hc (.inr (.inr h)), h50⟩
  · have hd := role_dst x.op hop
    intro k hk hr
    rcases (show k = 0 ∨ k = 1 ∨ k = 2 by omega) with rfl | rfl | rfl
    · have e := (hd 0).1.2 hr
      simp only [Fin.val_zero] at e
      rw [e] at o0
      simp [operandB] at o0
      exact o0.1
    · have e := (hd 1).1.2 hr
      simp only [Fin.val_one] at e
      rw [e] at o1
      simp [operandB] at o1
      exact o1.1
    · have e := (hd 2).1.2 hr
      simp only [Fin.val_two] at e
      rw [e] at o2
      simp [operandB] at o2
      exact o2.1

theorem plain_uses {p : Prg} {fn pc : Int} {x : Ins} (h : PlainU x) : extraU p fn pc x = [] := by
  obtain ⟨h1, h2, h3, h4, h5, h6, h7⟩ := h
  simp [extraU, *]

/-- package code's Uses. -/
theorem uses_calls (lo : Nat) (vf vg vl : Value) (p : Prg) (fn pc : Int) (w : World) (hp : ProgAt lo w vf vg vl p) (hv : validB p = true) :
    Calls Try.prog 60 #[.agg #[vf, vg, vl, .int .i64 p.main], .int .i64 fn, .int .i64 pc] w fun e w' => ∃ v', e = .returned v' ∧ IntsAt w.heap.size w' v' (usesC p fn pc) ∧ Below w.heap.size w w' := by
  cases hi : insAt p fn pc with
  | none =>
    have := cuses_none lo vf vg vl p fn pc w hp hi
    rw [show usesP p fn pc = usesC p fn pc by unfold usesP usesC; rw [hi]] at this
    exact this
  | some x =>
    obtain ⟨hop, hm, _⟩ := more_of_valid hv hi
    by_cases h51 : x.op = 51
    · have := cuses_bad lo vf vg vl p fn pc x w hp hi (by omega)
      rw [show usesP p fn pc = usesC p fn pc by unfold usesP usesC; rw [hi]; simp [h51]] at this
      exact this
    · have hu : usesC p fn pc = setL (rawU x 3 ++ extraU p fn pc x) := by unfold usesC; rw [hi]; simp only; rw [if_pos ⟨hop.1, hop.2, h51⟩]
      rcases hm with hm | hm
      · rw [hu]
        exact cuses_more lo vf vg vl p fn pc x w hp hi hop (beq_eq_false_iff_ne.2 h51) hm
      · obtain ⟨h1, h2, h3, h4, h5, h6, h7⟩ := id hm
        have := cuses_some lo vf vg vl p fn pc x w hp hi hop (beq_eq_false_iff_ne.2 h51) ⟨beq_eq_false_iff_ne.2 h1, beq_eq_false_iff_ne.2 h2, beq_eq_false_iff_ne.2 h3, beq_eq_false_iff_ne.2 h4, beq_eq_false_iff_ne.2 h5, beq_eq_false_iff_ne.2 h6, beq_eq_false_iff_ne.2 h7⟩
        rw [show usesP p fn pc = usesC p fn pc by rw [hu, plain_uses hm, List.append_nil]; unfold usesP; rw [hi]; simp only; rw [if_pos ⟨hop.1, hop.2, h51⟩]] at this
        exact this

end Go.Proofs.Yteiohnfmlabelaa

/-
  The registers that an instruction of a valid program reads or writes are registers of the function.
-/
namespace Go.Proofs.Yteiohnfmlabelaa
set_option linter.unusedVariables false
set_option linter.unusedSimpArgs false
open Go.RowKit

theorem rng_mem (a : Int) (m : Nat) (x : Int) : x ∈ rng a m ↔ a ≤ x ∧ x < a + m := by
  unfold rng
  simp only [List.mem_map, List.mem_range]
  constructor
  · rintro ⟨i, hi, rfl⟩; omega
  · rintro ⟨h1, h2⟩; exact ⟨(x - a).toNat, by omega, by omega⟩
theorem casesL_mem (c : List Ins) (pc m : Nat) (x : Int) (h : x ∈ casesL c pc m) : ∃ j, j < m ∧ x ∈ caseL (nth c (pc + 1 + j)) := by
  induction m with
  | zero => simp [casesL] at h
  | succ m ih =>
    rw [casesL, List.mem_append] at h
    rcases h with h | h
    · obtain ⟨j, hj, h⟩ := ih h; exact ⟨j, by omega, h⟩
    · exact ⟨m, by omega, h⟩
theorem rawU_mem (x : Ins) (v : Int) : ∀ k, v ∈ rawU x k → ∃ j, j < k ∧ v ∈ selU x j
  | 0, h => by simp [rawU] at h
  | k + 1, h => by
    rw [rawU, List.mem_append] at h
    rcases h with h | h
    · obtain ⟨j, hj, h⟩ := rawU_mem x v k h; exact ⟨j, by omega, h⟩
    · exact ⟨k, by omega, h⟩
theorem rawD_mem (x : Ins) (v : Int) : ∀ k, v ∈ rawD x k → ∃ j, j < k ∧ v ∈ selD x j
  | 0, h => by simp [rawD] at h
  | k + 1, h => by
    rw [rawD, List.mem_append] at h
    rcases h with h | h
    · obtain ⟨j, hj, h⟩ := rawD_mem x v k h; exact ⟨j, by omega, h⟩
    · exact ⟨k, by omega, h⟩

theorem opd_src {p : Prg} {f : Fun} {x : Ins} {r v : Int} (h : operandB p f x r v = true) (hr : r = 114 ∨ (r = 82 ∧ 0 ≤ v)) : 0 ≤ v ∧ v < f.regs := by
  rcases hr with rfl | ⟨rfl, hv⟩
  · simpa [operandB] using h
  · simp [operandB] at h; omega
theorem opd_dst {p : Prg} {f : Fun} {x : Ins} {r v : Int} (h : operandB p f x r v = true) (hr : r = 100 ∨ (r = 68 ∧ 0 ≤ v)) : 0 ≤ v ∧ v < f.regs := by
  rcases hr with rfl | ⟨rfl, hv⟩
  · simpa [operandB] using h
  · simp [operandB] at h; omega
theorem instr_opd {p : Prg} {f : Fun} {x : Ins} (h : instrB p f x = true) (k : Nat) (hk : k < 3) : operandB p f x (roleN x.op k) (opAt x k) = true := by
  simp only [instrB, Bool.and_eq_true] at h
  rcases (show k = 0 ∨ k = 1 ∨ k = 2 by omega) with rfl | rfl | rfl
  · exact h.2.2.1
  · exact h.2.2.2.1
  · exact h.2.2.2.2.1

theorem instr_tail {p : Prg} {f : Fun} {x : Ins} (h : instrB p f x = true) : instrTail f x = true := by
  simp only [instrB, Bool.and_eq_true] at h
  exact h.2.2.2.2.2

theorem uses_in {p : Prg} (hv : validB p = true) (F : Nat) (pc : Int) (hF : F < p.funcs.length) (v : Int) (h : v ∈ usesC p F pc) : 0 ≤ v ∧ v < (nth p.funcs F).regs := by
  unfold usesC at h
  cases hi : insAt p (F : Int) pc with
  | none => rw [hi] at h; simp at h
  | some x =>
    rw [hi] at h
    simp only at h
    split at h
    case isFalse => simp at h
    rename_i hop
    obtain ⟨F', K, hF', rfl, hFl, hK, hx⟩ := ins_split hi
    obtain rfl : F = F' := by omega
    have hfok := fok_of_funcB (valid_func hv F hF)
    have hin := hfok.ins K hK
    rw [hx] at hin
    have hsrc := role_src x.op ⟨hop.1, hop.2.1⟩
    obtain ⟨g0, g1, g2⟩ := fun_regs hv F hF
    rw [setL_mem, List.mem_append] at h
    rcases h with h | h
    · obtain ⟨j, hj, h⟩ := rawU_mem x v 3 h
      have ho := instr_opd hin j hj
      have hs := hsrc ⟨j, hj⟩
      simp only at hs
      unfold selU at h
      split at h
      · rename_i hr
        rw [List.mem_singleton] at h
        subst h
        refine opd_src ho ?_
        rcases hr with hr | hr
        · exact .inl (hs.1.2 hr)
        · exact .inr ⟨hs.2.2 hr.1, hr.2⟩
      · simp at h
    · have ot := instr_tail hin
      unfold extraU at h
      split at h
      · rename_i h38
        have o2 := instr_opd hin 2 (by omega)
        have e2 : roleN x.op 2 = 114 := by rw [h38]; rfl
        rw [e2] at o2
        have o2' := opd_src o2 (.inl rfl)
        rw [List.mem_singleton] at h
        subst h
        simp [instrTail, h38] at ot
        have e : opAt x 2 = x.c := rfl
        rw [e] at o2'
        have hw : wrap64 (x.c + 1) = x.c + 1 := by unfold wrap64; omega
        rw [hw] at ot
        omega
      · split at h
        · rename_i h25
          rw [List.mem_singleton] at h
          subst h
          simp [instrTail, h25] at ot
          omega
        · split at h
          · rename_i h24
            have o0 := instr_opd hin 0 (by omega)
            have e0 : roleN x.op 0 = 100 := by rw [h24]; rfl
            rw [e0] at o0
            have o0' := opd_dst o0 (.inl rfl)
            have o2 := instr_opd hin 2 (by omega)
            have e2 : roleN x.op 2 = 110 := by rw [h24]; rfl
            rw [e2] at o2
            simp [operandB] at o2
            have e : opAt x 0 = x.a := rfl
            rw [e] at o0'
            have e' : opAt x 2 = x.c := rfl
            rw [e'] at o2
            simp [instrTail, h24] at ot
            have hw : wrap64 (x.a + x.c) = x.a + x.c := by unfold wrap64; omega
            rw [hw] at ot
            rw [rng_mem] at h
            omega
          · split at h
            · rename_i hc
              have o1 := instr_opd hin 1 (by omega)
              have e1 : roleN x.op 1 = 102 := by rcases hc with h | h | h <;> (rw [h]; rfl)
              rw [e1] at o1
              have e : opAt x 1 = x.b := rfl
              rw [e] at o1
              simp [operandB] at o1
              obtain ⟨b0, b1, c0, c1⟩ := o1
              obtain ⟨p0, p1, p2⟩ := fun_regs hv x.b.toNat (by omega)
              have hw : wrap64 ((nth p.funcs F).regs - (nth p.funcs x.b.toNat).params) = (nth p.funcs F).regs - (nth p.funcs x.b.toNat).params := by unfold wrap64; omega
              rw [hw] at c1
              rw [rng_mem] at h
              omega
            · split at h
              · rename_i h50
                rw [Int.toNat_natCast, Int.toNat_natCast] at h
                obtain ⟨j, hj, h⟩ := casesL_mem _ _ _ _ h
                have hs := hfok.selEnd K hK (by rw [hx]; exact h50)
                rw [hx] at hs
                have hKj : K + 1 + j < (nth p.funcs F).code.length := by omega
                have hcase := hfok.sel K hK (by rw [hx]; exact h50) j (by rw [hx]; omega) hKj
                have hyin := hfok.ins (K + 1 + j) hKj
                generalize nth (nth p.funcs F).code (K + 1 + j) = y at *
                have a0 := instr_opd hyin 0 (by omega)
                have e0 : roleN y.op 0 = 114 := by rw [hcase]; rfl
                rw [e0] at a0
                have a0' := opd_src a0 (.inl rfl)
                have e : opAt y 0 = y.a := rfl
                rw [e] at a0'
                unfold caseL at h
                split at h
                · rename_i hb
                  have a2 := instr_opd hyin 2 (by omega)
                  have e2 : roleN y.op 2 = 99 := by rw [hcase]; rfl
                  rw [e2] at a2
                  have e' : opAt y 2 = y.c := rfl
                  rw [e'] at a2
                  simp [operandB, hb] at a2
                  simp at h
                  rcases h with h | h <;> omega
                · simp at h
                  omega
              · simp at h

theorem defs_in {p : Prg} (hv : validB p = true) (F : Nat) (pc : Int) (hF : F < p.funcs.length) (v : Int) (h : v ∈ defsC p F pc) : 0 ≤ v ∧ v < (nth p.funcs F).regs := by
  unfold defsC at h
  cases hi : insAt p (F : Int) pc with
  | none => rw [hi] at h; simp at h
  | some x =>
    rw [hi] at h
    simp only at h
    split at h
    case isFalse => simp at h
    rename_i hop
    obtain ⟨F', K, hF', rfl, hFl, hK, hx⟩ := ins_split hi
    obtain rfl : F = F' := by omega
    have hfok := fok_of_funcB (valid_func hv F hF)
    have hin := hfok.ins K hK
    rw [hx] at hin
    have hsrc := role_dst x.op ⟨hop.1, hop.2.1⟩
    rw [setL_mem] at h
    obtain ⟨j, hj, h⟩ := rawD_mem x v 3 h
    have ho := instr_opd hin j hj
    have hs := hsrc ⟨j, hj⟩
    simp only at hs
    unfold selD at h
    split at h
    · rename_i hr
      rw [List.mem_singleton] at h
      subst h
      refine opd_dst ho ?_
      rcases hr with hr | hr
      · exact .inl (hs.1.2 hr)
      · exact .inr ⟨hs.2.2 hr.1, hr.2⟩
    · simp at h

theorem uses_inc (p : Prg) (fn pc : Int) : Inc (usesC p fn pc) := by
  unfold usesC
  split
  · exact List.Pairwise.nil
  · split
    · exact setL_inc _
    · exact List.Pairwise.nil
theorem defs_inc (p : Prg) (fn pc : Int) : Inc (defsC p fn pc) := by
  unfold defsC
  split
  · exact List.Pairwise.nil
  · split
    · exact setL_inc _
    · exact List.Pairwise.nil
theorem inc_step {l : List Int} (h : Inc l) (k : Nat) (hk : k + 1 < l.length) : nth l k < nth l (k + 1) := by
  rw [nth_eq _ _ (by omega), nth_eq _ _ hk]
  exact List.pairwise_iff_getElem.1 h k (k + 1) (by omega) hk (by omega)

end Go.Proofs.Yteiohnfmlabelaa
