/-
  The registers that an instruction of a valid program reads or writes are registers of the function.
-/
import Derived.IntWalk
import Derived.Test.YteiohnfmlabelaaGreatZPrClone
import Derived.Test.YteiohnfmlabelaaGreatZUsesV
namespace Go.Proofs.YteiohnfmlabelaaGreat
set_option linter.unusedVariables false
set_option linter.unusedSimpArgs false
open Go.RowKit

theorem rng_mem (a : Int) (m : Nat) (x : Int) : x ∈ rng a m ↔ a ≤ x ∧ x < a + m := by
  unfold rng
  simp only [List.mem_map, List.mem_range]
  constructor
  · rintro ⟨i, hi, rfl⟩; omega
  · rintro ⟨h1, h2⟩; exact ⟨(x - a).toNat, by omega, by omega⟩
theorem casesL_mem (c : List Ins) (pc m : Nat) (x : Int) (h : x ∈ casesL c pc m) : ∃ j, j < m ∧ x ∈ caseL (nth c (pc + 1 + j)) := by
  induction m with
  | zero => simp [casesL] at h
  | succ m ih =>
    rw [casesL, List.mem_append] at h
    rcases h with h | h
    · obtain ⟨j, hj, h⟩ := ih h; exact ⟨j, by omega, h⟩
    · exact ⟨m, by omega, h⟩
theorem rawU_mem (x : Ins) (v : Int) : ∀ k, v ∈ rawU x k → ∃ j, j < k ∧ v ∈ selU x j
  | 0, h => by simp [rawU] at h
  | k + 1, h => by
    rw [rawU, List.mem_append] at h
    rcases h with h | h
    · obtain ⟨j, hj, h⟩ := rawU_mem x v k h; exact ⟨j, by omega, h⟩
    · exact ⟨k, by omega, h⟩
theorem rawD_mem (x : Ins) (v : Int) : ∀ k, v ∈ rawD x k → ∃ j, j < k ∧ v ∈ selD x j
  | 0, h => by simp [rawD] at h
  | k + 1, h => by
    rw [rawD, List.mem_append] at h
    rcases h with h | h
    · obtain ⟨j, hj, h⟩ := rawD_mem x v k h; exact ⟨j, by omega, h⟩
    · exact ⟨k, by omega, h⟩

theorem opd_src {p : Prg} {f : Fun} {x : Ins} {r v : Int} (h : operandB p f x r v = true) (hr : r = 114 ∨ (r = 82 ∧ 0 ≤ v)) : 0 ≤ v ∧ v < f.regs := by
  rcases hr with rfl | ⟨rfl, hv⟩
  · simpa [operandB] using h
  · simp [operandB] at h; omega
theorem opd_dst {p : Prg} {f : Fun} {x : Ins} {r v : Int} (h : operandB p f x r v = true) (hr : r = 100 ∨ (r = 68 ∧ 0 ≤ v)) : 0 ≤ v ∧ v < f.regs := by
  rcases hr with rfl | ⟨rfl, hv⟩
  · simpa [operandB] using h
  · simp [operandB] at h; omega
theorem instr_opd {p : Prg} {f : Fun} {x : Ins} (h : instrB p f x = true) (k : Nat) (hk : k < 3) : operandB p f x (roleN x.op k) (opAt x k) = true := by
  simp only [instrB, Bool.and_eq_true] at h
  rcases (show k = 0 ∨ k = 1 ∨ k = 2 by omega) with rfl | rfl | rfl
  · exact h.2.2.1
  · exact h.2.2.2.1
  · exact h.2.2.2.2.1

theorem instr_tail {p : Prg} {f : Fun} {x : Ins} (h : instrB p f x = true) : instrTail f x = true := by
  simp only [instrB, Bool.and_eq_true] at h
  exact h.2.2.2.2.2

theorem uses_in {p : Prg} (hv : validB p = true) (F : Nat) (pc : Int) (hF : F < p.funcs.length) (v : Int) (h : v ∈ usesC p F pc) : 0 ≤ v ∧ v < (nth p.funcs F).regs := by
  unfold usesC at h
  cases hi : insAt p (F : Int) pc with
  | none => rw [hi] at h; simp at h
  | some x =>
    rw [hi] at h
    simp only at h
    split at h
    case isFalse => simp at h
    rename_i hop
    obtain ⟨F', K, hF', rfl, hFl, hK, hx⟩ := ins_split hi
    obtain rfl : F = F' := by omega
    have hfok := fok_of_funcB (valid_func hv F hF)
    have hin := hfok.ins K hK
    rw [hx] at hin
    have hsrc := role_src x.op ⟨hop.1, hop.2.1⟩
    obtain ⟨g0, g1, g2⟩ := fun_regs hv F hF
    rw [setL_mem, List.mem_append] at h
    rcases h with h | h
    · obtain ⟨j, hj, h⟩ := rawU_mem x v 3 h
      have ho := instr_opd hin j hj
      have hs := hsrc ⟨j, hj⟩
      simp only at hs
      unfold selU at h
      split at h
      · rename_i hr
        rw [List.mem_singleton] at h
        subst h
        refine opd_src ho ?_
        rcases hr with hr | hr
        · exact .inl (hs.1.2 hr)
        · exact .inr ⟨hs.2.2 hr.1, hr.2⟩
      · simp at h
    · have ot := instr_tail hin
      unfold extraU at h
      split at h
      · rename_i h38
        have o2 := instr_opd hin 2 (by omega)
        have e2 : roleN x.op 2 = 114 := by rw [h38]; rfl
        rw [e2] at o2
        have o2' := opd_src o2 (.inl rfl)
        rw [List.mem_singleton] at h
        subst h
        simp [instrTail, h38] at ot
        have e : opAt x 2 = x.c := rfl
        rw [e] at o2'
        have hw : wrap64 (x.c + 1) = x.c + 1 := by unfold wrap64; omega
        rw [hw] at ot
        omega
      · split at h
        · rename_i h25
          rw [List.mem_singleton] at h
          subst h
          simp [instrTail, h25] at ot
          omega
        · split at h
          · rename_i h24
            have o0 := instr_opd hin 0 (by omega)
            have e0 : roleN x.op 0 = 100 := by rw [h24]; rfl
            rw [e0] at o0
            have o0' := opd_dst o0 (.inl rfl)
            have o2 := instr_opd hin 2 (by omega)
            have e2 : roleN x.op 2 = 110 := by rw [h24]; rfl
            rw [e2] at o2
            simp [operandB] at o2
            have e : opAt x 0 = x.a := rfl
            rw [e] at o0'
            have e' : opAt x 2 = x.c := rfl
            rw [e'] at o2
            simp [instrTail, h24] at ot
            have hw : wrap64 (x.a + x.c) = x.a + x.c := by unfold wrap64; omega
            rw [hw] at ot
            rw [rng_mem] at h
            omega
          · split at h
            · rename_i hc
              have o1 := instr_opd hin 1 (by omega)
              have e1 : roleN x.op 1 = 102 := by rcases hc with h | h | h <;> (rw [h]; rfl)
              rw [e1] at o1
              have e : opAt x 1 = x.b := rfl
              rw [e] at o1
              simp [operandB] at o1
              obtain ⟨b0, b1, c0, c1⟩ := o1
              obtain ⟨p0, p1, p2⟩ := fun_regs hv x.b.toNat (by omega)
              have hw : wrap64 ((nth p.funcs F).regs - (nth p.funcs x.b.toNat).params) = (nth p.funcs F).regs - (nth p.funcs x.b.toNat).params := by unfold wrap64; omega
              rw [hw] at c1
              rw [rng_mem] at h
              omega
            · split at h
              · rename_i h50
                rw [Int.toNat_natCast, Int.toNat_natCast] at h
                obtain ⟨j, hj, h⟩ := casesL_mem _ _ _ _ h
                have hs := hfok.selEnd K hK (by rw [hx]; exact h50)
                rw [hx] at hs
                have hKj : K + 1 + j < (nth p.funcs F).code.length := by omega
                have hcase := hfok.sel K hK (by rw [hx]; exact h50) j (by rw [hx]; omega) hKj
                have hyin := hfok.ins (K + 1 + j) hKj
                generalize nth (nth p.funcs F).code (K + 1 + j) = y at *
                have a0 := instr_opd hyin 0 (by omega)
                have e0 : roleN y.op 0 = 114 := by rw [hcase]; rfl
                rw [e0] at a0
                have a0' := opd_src a0 (.inl rfl)
                have e : opAt y 0 = y.a := rfl
                rw [e] at a0'
                unfold caseL at h
                split at h
                · rename_i hb
                  have a2 := instr_opd hyin 2 (by omega)
                  have e2 : roleN y.op 2 = 99 := by rw [hcase]; rfl
                  rw [e2] at a2
                  have e' : opAt y 2 = y.c := rfl
                  rw [e'] at a2
                  simp [operandB, hb] at a2
                  simp at h
                  rcases h with h | h <;> omega
                · simp at h
                  omega
              · simp at h

theorem defs_in {p : Prg} (hv : validB p = true) (F : Nat) (pc : Int) (hF : F < p.funcs.length) (v : Int) (h : v ∈ defsC p F pc) : 0 ≤ v ∧ v < (nth p.funcs F).regs := by
  unfold defsC at h
  cases hi : insAt p (F : Int) pc with
  | none => rw [hi] at h; simp at h
  | some x =>
    rw [hi] at h
    simp only at h
    split at h
    case isFalse => simp at h
    rename_i hop
    obtain ⟨F', K, hF', rfl, hFl, hK, hx⟩ := ins_split hi
    obtain rfl : F = F' := by omega
    have hfok := fok_of_funcB (valid_func hv F hF)
    have hin := hfok.ins K hK
    rw [hx] at hin
    have hsrc := role_dst x.op ⟨hop.1, hop.2.1⟩
    rw [setL_mem] at h
    obtain ⟨j, hj, h⟩ := rawD_mem x v 3 h
    have ho := instr_opd hin j hj
    have hs := hsrc ⟨j, hj⟩
    simp only at hs
    unfold selD at h
    split at h
    · rename_i hr
      rw [List.mem_singleton] at h
      subst h
      refine opd_dst ho ?_
      rcases hr with hr | hr
      · exact .inl (hs.1.2 hr)
      · exact .inr ⟨hs.2.2 hr.1, hr.2⟩
    · simp at h

theorem uses_inc (p : Prg) (fn pc : Int) : Inc (usesC p fn pc) := by
  unfold usesC
  split
  · exact List.Pairwise.nil
  · split
    · exact setL_inc _
    · exact List.Pairwise.nil
theorem defs_inc (p : Prg) (fn pc : Int) : Inc (defsC p fn pc) := by
  unfold defsC
  split
  · exact List.Pairwise.nil
  · split
    · exact setL_inc _
    · exact List.Pairwise.nil
theorem inc_step {l : List Int} (h : Inc l) (k : Nat) (hk : k + 1 < l.length) : nth l k < nth l (k + 1) := by
  rw [nth_eq _ _ (by omega), nth_eq _ _ hk]
  exact List.pairwise_iff_getElem.1 h k (k + 1) (by omega) hk (by omega)

end Go.Proofs.YteiohnfmlabelaaGreat

/-
  Liveness of registers: one pass over a function, its repetition, what it comes to.
-/
namespace Go.Proofs.YteiohnfmlabelaaGreat
set_option linter.unusedVariables false
set_option linter.unusedSimpArgs false
open Go.RowKit

/-- The registers that are live after instruction i, given those before each. -/
def afterL (p : Prg) (fn : Nat) (s : List (List Int)) (i : Nat) : List Int := setL ((nextL (nth p.funcs fn).code i).flatMap fun t => nth s t.toNat)
/-- Those before it. -/
def beforeL (p : Prg) (fn : Nat) (s : List (List Int)) (i : Nat) : List Int := setL (usesC p fn i ++ (afterL p fn s i).filter fun r => !(defsC p fn i).contains r)
def passAt (p : Prg) (fn : Nat) (s : List (List Int)) (i : Nat) : List (List Int) := s.set i (beforeL p fn s i)
/-- From the last instruction on, d instructions. -/
def stepsL (p : Prg) (fn n : Nat) (s : List (List Int)) : Nat → List (List Int)
  | 0 => s
  | d + 1 => passAt p fn (stepsL p fn n s d) (n - 1 - d)
def passL (p : Prg) (fn n : Nat) (s : List (List Int)) : List (List Int) := stepsL p fn n s n
def iterL (p : Prg) (fn n : Nat) : Nat → List (List Int)
  | 0 => List.replicate n []
  | k + 1 => passL p fn n (iterL p fn n k)
/-- What the repetition comes to. -/
def IsLive (p : Prg) (fn n : Nat) (L : List (List Int)) : Prop := (∃ k, L = iterL p fn n k) ∧ passL p fn n L = L

theorem iterL_stay (p : Prg) (fn n k : Nat) (h : passL p fn n (iterL p fn n k) = iterL p fn n k) : ∀ j, iterL p fn n (k + j) = iterL p fn n k
  | 0 => rfl
  | j + 1 => by
    rw [← Nat.add_assoc, iterL, iterL_stay p fn n k h j, h]
theorem IsLive.unique {p : Prg} {fn n : Nat} {L L' : List (List Int)} (h : IsLive p fn n L) (h' : IsLive p fn n L') : L = L' := by
  obtain ⟨⟨k, rfl⟩, e⟩ := h
  obtain ⟨⟨k', rfl⟩, e'⟩ := h'
  rcases Nat.le_total k k' with hk | hk
  · obtain ⟨j, rfl⟩ := Nat.exists_eq_add_of_le hk
    exact (iterL_stay p fn n k e j).symm
  · obtain ⟨j, rfl⟩ := Nat.exists_eq_add_of_le hk
    exact iterL_stay p fn n k' e' j

/-- Every set of s lies in the one of t. -/
def SubS (s t : List (List Int)) : Prop := ∀ i r, r ∈ nth s i → r ∈ nth t i
theorem SubS.refl (s : List (List Int)) : SubS s s := fun _ _ h => h
theorem SubS.trans {s t u : List (List Int)} (h : SubS s t) (k : SubS t u) : SubS s u := fun i r x => k i r (h i r x)

theorem after_mono {p : Prg} {fn : Nat} {s t : List (List Int)} (h : SubS s t) (i : Nat) (r : Int) (hr : r ∈ afterL p fn s i) : r ∈ afterL p fn t i := by
  unfold afterL at *
  rw [setL_mem, List.mem_flatMap] at *
  obtain ⟨x, hx, hm⟩ := hr
  exact ⟨x, hx, h _ _ hm⟩
theorem before_mem {p : Prg} {fn : Nat} {s : List (List Int)} (i : Nat) (r : Int) : r ∈ beforeL p fn s i ↔ r ∈ usesC p fn i ∨ (r ∈ afterL p fn s i ∧ r ∉ defsC p fn i) := by
  unfold beforeL
  rw [setL_mem, List.mem_append, List.mem_filter]
  simp
theorem before_mono {p : Prg} {fn : Nat} {s t : List (List Int)} (h : SubS s t) (i : Nat) (r : Int) (hr : r ∈ beforeL p fn s i) : r ∈ beforeL p fn t i := by
  rw [before_mem] at *
  exact hr.imp id fun ⟨h1, h2⟩ => ⟨after_mono h i r h1, h2⟩

/-- The sets of s are increasing lists of numbers from 0 to 63, one for each instruction, and grow with each step. -/
structure Fine (p : Prg) (fn n : Nat) (s : List (List Int)) : Prop where
  len : s.length = n
  inc : ∀ i, Inc (nth s i)
  reg : ∀ i r, r ∈ nth s i → 0 ≤ r ∧ r < 64
  grow : ∀ i r, i < n → r ∈ nth s i → r ∈ beforeL p fn s i

theorem nth_out {α : Type} [Inhabited α] (l : List α) (i : Nat) (h : l.length ≤ i) : nth l i = default := by unfold nth; simp [h]
theorem nth_repl (n i : Nat) : nth (List.replicate n ([] : List Int)) i = [] := by
  unfold nth
  by_cases h : i < n
  · simp [h]
  · simp [List.getElem?_eq_none (show (List.replicate n ([] : List Int)).length ≤ i by simp; omega)]; rfl
theorem Fine.start (p : Prg) (fn n : Nat) : Fine p fn n (List.replicate n []) :=
  ⟨by simp, fun i => by rw [nth_repl]; exact List.Pairwise.nil, fun i r h => by rw [nth_repl] at h; simp at h, fun i r _ h => by rw [nth_repl] at h; simp at h⟩

theorem nth_setS {α : Type} [Inhabited α] (l : List α) (i j : Nat) (x : α) (h : i < l.length) : nth (l.set i x) j = if i = j then x else nth l j := by
  by_cases e : i = j
  · subst e; rw [nth_set_eq _ _ _ h, if_pos rfl]
  · rw [nth_set_ne _ _ _ _ e, if_neg e]

theorem after_reg {p : Prg} {fn : Nat} (hv : validB p = true) (hfn : fn < p.funcs.length) {s : List (List Int)} (h : ∀ i r, r ∈ nth s i → 0 ≤ r ∧ r < 64) (i : Nat) (r : Int) (hr : r ∈ afterL p fn s i) : 0 ≤ r ∧ r < 64 := by
  unfold afterL at hr
  rw [setL_mem, List.mem_flatMap] at hr
  obtain ⟨x, _, hm⟩ := hr
  exact h _ _ hm
section
variable {p : Prg} {fn n : Nat} (hv : validB p = true) (hfn : fn < p.funcs.length) (hn : (nth p.funcs fn).code.length = n)
include hv hfn

theorem before_reg {s : List (List Int)} (h : ∀ i r, r ∈ nth s i → 0 ≤ r ∧ r < 64) (i : Nat) (r : Int) (hr : r ∈ beforeL p fn s i) : 0 ≤ r ∧ r < 64 := by
  rw [before_mem] at hr
  rcases hr with hr | ⟨hr, _⟩
  · have h1 := uses_in hv fn i hfn r hr
    have h2 := fun_regs hv fn hfn
    omega
  · exact after_reg hv hfn h i r hr

theorem Fine.at {s : List (List Int)} (h : Fine p fn n s) (i : Nat) (hi : i < n) : Fine p fn n (passAt p fn s i) ∧ SubS s (passAt p fn s i) := by
  have hl : i < s.length := by rw [h.len]; exact hi
  have hsub : SubS s (passAt p fn s i) := fun j r hr => by
    unfold passAt
    rw [nth_setS _ _ _ _ hl]
    split
    · rename_i e; subst e; exact h.grow i r hi hr
    · exact hr
  refine ⟨⟨by unfold passAt; simpa using h.len, fun j => ?_, fun j r hr => ?_, fun j r hj hr => ?_⟩, hsub⟩
  · unfold passAt
    rw [nth_setS _ _ _ _ hl]
    split
    · exact setL_inc _
    · exact h.inc j
  · unfold passAt at hr
    rw [nth_setS _ _ _ _ hl] at hr
    split at hr
    · exact before_reg hv hfn h.reg i r hr
    · exact h.reg j r hr
  · have hr' := hr
    unfold passAt at hr'
    rw [nth_setS _ _ _ _ hl] at hr'
    split at hr'
    · rename_i e; subst e; exact before_mono hsub i r hr'
    · exact before_mono hsub j r (h.grow j r hj hr')

theorem Fine.steps {s : List (List Int)} (h : Fine p fn n s) : ∀ d, d ≤ n → Fine p fn n (stepsL p fn n s d) ∧ SubS s (stepsL p fn n s d)
  | 0, _ => ⟨h, SubS.refl _⟩
  | d + 1, hd => by
    obtain ⟨h1, h2⟩ := Fine.steps h d (by omega)
    obtain ⟨h3, h4⟩ := Fine.at hv hfn h1 (n - 1 - d) (by omega)
    exact ⟨h3, h2.trans h4⟩
theorem Fine.pass {s : List (List Int)} (h : Fine p fn n s) : Fine p fn n (passL p fn n s) := (Fine.steps hv hfn h n (Nat.le_refl _)).1
theorem Fine.iter : ∀ k, Fine p fn n (iterL p fn n k)
  | 0 => Fine.start p fn n
  | k + 1 => Fine.pass hv hfn (Fine.iter k)
end

/-- The number of elements of all sets. -/
def totalS (s : List (List Int)) : Nat := (s.map List.length).sum

theorem inc_len {l l' : List Int} (h : Inc l) (h' : Inc l') (hs : ∀ r ∈ l, r ∈ l') : l.length ≤ l'.length ∧ (l.length = l'.length → l = l') := by
  have hsub : l.Sublist l' := by
    induction l' generalizing l with
    | nil =>
      have : l = [] := by
        cases l with
        | nil => rfl
        | cons a l => have := hs a (by simp); simp at this
      rw [this]; exact List.nil_sublist _
    | cons b l' ih =>
      obtain ⟨hb, hl'⟩ := List.pairwise_cons.1 h'
      cases l with
      | nil => exact List.nil_sublist _
      | cons a l =>
        obtain ⟨ha, hl⟩ := List.pairwise_cons.1 h
        rcases List.mem_cons.1 (hs a (by simp)) with e | e
        · subst e
          refine List.Sublist.cons_cons _ (ih hl hl' fun r hr => ?_)
          rcases List.mem_cons.1 (hs r (by simp [hr])) with e | e
          · have := ha r hr; omega
          · exact e
        · refine List.Sublist.cons _ (ih h hl' fun r hr => ?_)
          rcases List.mem_cons.1 (hs r hr) with e2 | e2
          · exfalso
            subst e2
            have h1 := hb a e
            rcases List.mem_cons.1 hr with e3 | e3
            · omega
            · have := ha r e3; omega
          · exact e2
  exact ⟨hsub.length_le, hsub.eq_of_length⟩
theorem inc_64 {l : List Int} (h : Inc l) (hr : ∀ r ∈ l, 0 ≤ r ∧ r < 64) : l.length ≤ 64 := by
  have := (inc_len h (l' := (List.range 64).map fun i : Nat => (i : Int)) (by
    refine List.pairwise_map.2 ?_
    exact List.pairwise_lt_range.imp (fun h => by omega)) (fun r hm => by
      have := hr r hm
      exact List.mem_map.2 ⟨r.toNat, by simp; omega, by omega⟩)).1
  simpa using this
theorem total_le {s : List (List Int)} (h : ∀ i, (nth s i).length ≤ 64) : totalS s ≤ 64 * s.length := by
  unfold totalS
  induction s with
  | nil => simp
  | cons x s ih =>
    have h0 := h 0
    have h1 := ih fun i => h (i + 1)
    simp only [List.map_cons, List.sum_cons, List.length_cons]
    have : nth (x :: s) 0 = x := rfl
    rw [this] at h0
    omega
theorem total_sub : ∀ {s t : List (List Int)}, s.length = t.length → (∀ i, Inc (nth s i)) → (∀ i, Inc (nth t i)) → SubS s t → totalS s ≤ totalS t ∧ (totalS s = totalS t → s = t)
  | [], [], _, _, _, _ => ⟨Nat.le_refl _, fun _ => rfl⟩
  | [], _ :: _, h, _, _, _ => by simp at h
  | _ :: _, [], h, _, _, _ => by simp at h
  | x :: s, y :: t, h, h1, h2, h3 => by
    obtain ⟨i1, i2⟩ := total_sub (s := s) (t := t) (by simpa using h) (fun i => h1 (i + 1)) (fun i => h2 (i + 1)) (fun i r hr => h3 (i + 1) r hr)
    obtain ⟨j1, j2⟩ := inc_len (h1 0) (h2 0) (h3 0)
    have e0 : ∀ (z : List Int) (u : List (List Int)), nth (z :: u) 0 = z := fun _ _ => rfl
    rw [e0, e0] at j1 j2
    unfold totalS at *
    simp only [List.map_cons, List.sum_cons]
    refine ⟨by omega, fun he => ?_⟩
    rw [j2 (by omega), i2 (by omega)]

theorem Fine.total {p : Prg} {fn n : Nat} {s : List (List Int)} (h : Fine p fn n s) : totalS s ≤ 64 * n := by
  rw [← h.len]
  exact total_le fun i => inc_64 (h.inc i) (h.reg i)
/-- A step changes nothing, or the sets have grown. -/
theorem Fine.step_total {p : Prg} {fn n : Nat} (hv : validB p = true) (hfn : fn < p.funcs.length) {s : List (List Int)} (h : Fine p fn n s) (i : Nat) (hi : i < n) : (nth s i = beforeL p fn s i ∧ passAt p fn s i = s) ∨ (nth s i ≠ beforeL p fn s i ∧ totalS s < totalS (passAt p fn s i)) := by
  obtain ⟨h1, h2⟩ := Fine.at hv hfn h i hi
  obtain ⟨t1, t2⟩ := total_sub (by rw [h.len, h1.len]) h.inc h1.inc h2
  have hl : i < s.length := by rw [h.len]; exact hi
  by_cases he : nth s i = beforeL p fn s i
  · left
    refine ⟨he, ?_⟩
    unfold passAt
    rw [← he, nth_eq _ _ hl]
    exact List.set_getElem_self hl
  · right
    refine ⟨he, ?_⟩
    rcases Nat.lt_or_eq_of_le t1 with h3 | h3
    · exact h3
    · exfalso
      have := t2 h3
      apply he
      have e : nth (passAt p fn s i) i = beforeL p fn s i := by unfold passAt; rw [nth_set_eq _ _ _ hl]
      rw [← this] at e
      exact e

/-- At the end: the equations hold. -/
theorem steps_fix {p : Prg} {fn n : Nat} (hv : validB p = true) (hfn : fn < p.funcs.length) {s : List (List Int)} (h : Fine p fn n s) (hp : passL p fn n s = s) : ∀ i, i < n → nth s i = beforeL p fn s i := by
  -- no step has changed anything
  have hno : ∀ d, d ≤ n → stepsL p fn n s d = s := by
    intro d
    have key : ∀ e, e ≤ n → ∀ d, d ≤ e → totalS (stepsL p fn n s d) ≤ totalS (stepsL p fn n s e) := by
      intro e
      induction e with
      | zero => intro _ d hd; rw [show d = 0 by omega]; exact Nat.le_refl _
      | succ e ih =>
        intro he d hd
        rcases Nat.lt_or_eq_of_le hd with h1 | h1
        · refine Nat.le_trans (ih (by omega) d (by omega)) ?_
          obtain ⟨f1, f2⟩ := Fine.steps hv hfn h e (by omega)
          obtain ⟨g1, g2⟩ := Fine.at hv hfn f1 (n - 1 - e) (by omega)
          exact (total_sub (by rw [f1.len]; exact g1.len.symm) f1.inc g1.inc g2).1
        · rw [h1]; exact Nat.le_refl _
    intro hd
    obtain ⟨f1, f2⟩ := Fine.steps hv hfn h d hd
    obtain ⟨t1, t2⟩ := total_sub (by rw [h.len, f1.len]) h.inc f1.inc f2
    have hle := key n (Nat.le_refl _) d hd
    have he : totalS (stepsL p fn n s n) = totalS s := by
      have : stepsL p fn n s n = s := hp
      rw [this]
    exact (t2 (by omega)).symm
  intro i hi
  have h1 := hno (n - 1 - i) (by omega)
  have h2 := hno (n - 1 - i + 1) (by omega)
  rw [stepsL, h1, show n - 1 - (n - 1 - i) = i by omega] at h2
  rcases h.step_total hv hfn i hi with ⟨e, _⟩ | ⟨_, e⟩
  · exact e
  · rw [h2] at e; omega

end Go.Proofs.YteiohnfmlabelaaGreat
