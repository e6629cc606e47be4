/-
  The parts of a valid program are parts, in plain words.
-/
import Derived.Test.YtealeofgfgbheaaZLkO
namespace Go.Proofs.Ytealeofgfgbheaa
set_option linter.unusedVariables false
set_option linter.unusedSimpArgs false
open Go.RowKit

theorem call_iff (op : Int) : callB op = true ↔ op = 26 ∨ op = 28 ∨ op = 31 ∨ op = 24 := by simp [callB]
theorem roles_none (op : Int) (h : ¬ (1 ≤ op ∧ op ≤ 52)) : roles op = ⟨#[]⟩ := by
  unfold roles
  repeat (rw [if_neg (by omega)])
set_option maxRecDepth 100000 in
theorem roles_plain (op : Int) (h : callB op = false) : (roleN op 0 ≠ 102 ∧ roleN op 0 ≠ 49) ∧ (roleN op 1 ≠ 102 ∧ roleN op 1 ≠ 49) ∧ (roleN op 2 ≠ 102 ∧ roleN op 2 ≠ 49) := by
  have key : ∀ n : Nat, n < 53 → callB n = false → (roleN n 0 ≠ 102 ∧ roleN n 0 ≠ 49) ∧ (roleN n 1 ≠ 102 ∧ roleN n 1 ≠ 49) ∧ (roleN n 2 ≠ 102 ∧ roleN n 2 ≠ 49) := by decide +kernel
  by_cases hin : 1 ≤ op ∧ op ≤ 52
  · obtain ⟨n, rfl⟩ : ∃ n : Nat, op = n := ⟨op.toNat, by omega⟩
    exact key n (by omega) h
  · unfold roleN
    rw [roles_none op hin]
    decide
theorem reP_op (p : Prg) (i : Nat) (x : Ins) : (reP p i x).op = x.op := by unfold reP; split <;> rfl
theorem nth_map_op (l : List Ins) (g : Ins → Ins) (hg : ∀ x, (g x).op = x.op) (n : Nat) : (nth (l.map g) n).op = (nth l n).op := by
  rcases Nat.lt_or_ge n l.length with h | h
  · rw [nth_map _ _ _ h, hg]
  · unfold nth
    rw [List.getD_eq_getElem?_getD, List.getD_eq_getElem?_getD, List.getElem?_eq_none (by simpa using h), List.getElem?_eq_none h]
theorem operandB_keep {p q : Prg} {f : Fun} {g : Ins → Ins} (hg : ∀ x, (g x).op = x.op) (h1 : q.globals.length = p.globals.length) (h2 : q.layouts.length = p.layouts.length) (x y : Ins) (r v : Int) (n1 : r ≠ 102) (n2 : r ≠ 49) (h3 : r = 99 → y.b = x.b) :
    operandB q { f with code := f.code.map g } y r v = operandB p f x r v := by
  unfold operandB
  rw [if_neg n1, if_neg n2, if_neg n1, if_neg n2, h1, h2, List.length_map, nth_map_op _ _ hg]
  by_cases h : r = 99
  · rw [h3 h]
  · simp [h]
theorem head_keep {f : Fun} {g : Ins → Ins} : headB { f with code := f.code.map g } = headB f := by unfold headB; simp
theorem last_keep {f : Fun} {g : Ins → Ins} (hg : ∀ x, (g x).op = x.op) : lastOp { f with code := f.code.map g } = lastOp f := by
  unfold lastOp
  rw [nth_map_op _ _ hg, List.length_map]

/-- Used functions and their places. -/
def usL (p : Prg) (i : Nat) : List Nat := (List.range p.funcs.length).filter (usedB p i)
theorem us_mem {p : Prg} {i k : Nat} : k ∈ usL p i ↔ k < p.funcs.length ∧ usedB p i k = true := by unfold usL; rw [List.mem_filter, List.mem_range]
theorem us_plc {p : Prg} {i k : Nat} (hk : k < p.funcs.length) (hu : usedB p i k = true) : (usL p i)[plc p i k]? = some k := filt_nth _ _ hu _ hk
theorem us_at {p : Prg} {i t : Nat} (ht : t < (usL p i).length) : nth (usL p i) t < p.funcs.length ∧ usedB p i (nth (usL p i) t) = true ∧ plc p i (nth (usL p i) t) = t := by
  have h1 := us_mem.1 (nth_mem (usL p i) t ht)
  refine ⟨h1.1, h1.2, ?_⟩
  have h2 := us_plc h1.1 h1.2
  obtain ⟨h3, h4⟩ := List.getElem?_eq_some_iff.1 h2
  exact (List.getElem_inj (range_nodup _ _)).1 (h4.trans (nth_eq _ _ ht))
theorem us_lt {p : Prg} {i k : Nat} (hk : k < p.funcs.length) (hu : usedB p i k = true) : plc p i k < (usL p i).length := (List.getElem?_eq_some_iff.1 (us_plc hk hu)).1
theorem us_nth {p : Prg} {i k : Nat} (hk : k < p.funcs.length) (hu : usedB p i k = true) : nth (usL p i) (plc p i k) = k := by
  rw [nth_eq _ _ (us_lt hk hu)]
  exact (List.getElem?_eq_some_iff.1 (us_plc hk hu)).2
theorem us_len (p : Prg) (i : Nat) : (usL p i).length ≤ p.funcs.length := by
  unfold usL
  exact Nat.le_trans (List.length_filter_le _ _) (by simp)
theorem part_funcs (p : Prg) (i : Nat) : (partP p i).funcs = (usL p i).map (partF p i) := rfl
theorem part_len (p : Prg) (i : Nat) : (partP p i).funcs.length = (usL p i).length := by rw [part_funcs, List.length_map]
theorem part_nth {p : Prg} {i t : Nat} (ht : t < (usL p i).length) : nth (partP p i).funcs t = partF p i (nth (usL p i) t) := by rw [part_funcs, nth_map _ _ _ ht]
theorem partF_name (p : Prg) (i k : Nat) : (partF p i k).name = (nth p.funcs k).name := by
  unfold partF; split
  · next h => rw [h]
  · rfl
theorem partF_params (p : Prg) (i k : Nat) : (partF p i k).params = (nth p.funcs k).params := by
  unfold partF; split
  · next h => rw [h]
  · rfl
theorem partOf_nth (nm : ByteArray) (P : Prg) (t : Nat) (ht : t < P.funcs.length) : nth (partOf nm P).funcs t = closeF (nth P.funcs t) := by
  unfold partOf
  split
  · show nth (P.funcs.map closeF ++ [mainF nm]) t = _
    rw [nth_append_left _ _ _ (by simpa using ht), nth_map _ _ _ ht]
  · exact nth_map _ _ _ ht
theorem partOf_len (nm : ByteArray) (P : Prg) : (partOf nm P).funcs.length = P.funcs.length + if P.main = -1 then 1 else 0 := by
  unfold partOf
  split <;> simp
theorem partOf_globs (nm : ByteArray) (P : Prg) : (partOf nm P).globals = P.globals ∧ (partOf nm P).layouts = P.layouts := by
  unfold partOf
  split <;> exact ⟨rfl, rfl⟩

section
variable {p : Prg} {i : Nat} {nm : ByteArray}
theorem used_of {x : Ins} (hx : x ∈ (nth p.funcs i).code) (hc : callB x.op = true) (h0 : 0 ≤ x.b) : usedB p i x.b.toNat = true := by
  unfold usedB
  rw [Bool.or_eq_true]
  refine .inr ?_
  rw [List.any_eq_true]
  refine ⟨x, hx, ?_⟩
  rw [hc]
  simp
  omega
set_option maxHeartbeats 4000000 in
theorem part_instr {x : Ins} (hi : i < p.funcs.length) (hx : x ∈ (nth p.funcs i).code) (h : instrB p (nth p.funcs i) x = true) :
    instrB (partOf nm (partP p i)) { nth p.funcs i with code := (nth p.funcs i).code.map (reP p i) } (reP p i x) = true := by
  have hg := partOf_globs nm (partP p i)
  have g1 : (partOf nm (partP p i)).globals.length = p.globals.length := by rw [hg.1]; rfl
  have g2 : (partOf nm (partP p i)).layouts.length = p.layouts.length := by rw [hg.2]; rfl
  have hk := fun y r v n1 n2 n3 => operandB_keep (p := p) (q := partOf nm (partP p i)) (f := nth p.funcs i) (g := reP p i) (reP_op p i) g1 g2 x y r v n1 n2 n3
  cases hc : callB x.op with
  | false =>
    have e : reP p i x = x := by unfold reP; rw [hc]; rfl
    obtain ⟨⟨a1, a2⟩, ⟨a3, a4⟩, a5, a6⟩ := roles_plain x.op hc
    rw [e]
    unfold instrB
    rw [hk x _ _ a1 a2 (fun _ => rfl), hk x _ _ a3 a4 (fun _ => rfl), hk x _ _ a5 a6 (fun _ => rfl)]
    exact h
  | true =>
    obtain ⟨h0, h1⟩ := call_range h hc
    have hu := used_of hx hc h0
    have hb : x.b.toNat < p.funcs.length := by omega
    have e : reP p i x = { x with b := plc p i x.b.toNat } := by unfold reP; rw [hc]; rfl
    have hlt := us_lt hb hu
    have hlt2 : (plc p i x.b.toNat : Int) < (partOf nm (partP p i)).funcs.length := by rw [partOf_len, part_len]; omega
    have hpar : (nth (partOf nm (partP p i)).funcs (plc p i x.b.toNat)).params = (nth p.funcs x.b.toNat).params := by
      rw [partOf_nth _ _ _ (by rw [part_len]; exact hlt), close_params, part_nth hlt, partF_params, us_nth hb hu]
    have o102 : operandB p (nth p.funcs i) x 102 x.b = true → operandB (partOf nm (partP p i)) { nth p.funcs i with code := (nth p.funcs i).code.map (reP p i) } { x with b := plc p i x.b.toNat } 102 (plc p i x.b.toNat) = true := by
      intro h
      simp [operandB] at h ⊢
      rw [hpar]
      exact ⟨Int.ofNat_lt.1 hlt2, h.2.2⟩
    have o49 : operandB p (nth p.funcs i) x 49 x.b = true → operandB (partOf nm (partP p i)) { nth p.funcs i with code := (nth p.funcs i).code.map (reP p i) } { x with b := plc p i x.b.toNat } 49 (plc p i x.b.toNat) = true := by
      intro h
      simp [operandB] at h ⊢
      rw [hpar]
      exact ⟨Int.ofNat_lt.1 hlt2, h.2.2⟩
    rw [e]
    simp only [instrB, Bool.and_eq_true] at h ⊢
    obtain ⟨r1, r2, r3, r4, r5, r6⟩ := h
    have tl : instrTail { nth p.funcs i with code := (nth p.funcs i).code.map (reP p i) } { x with b := plc p i x.b.toNat } = true := by
      rcases (call_iff _).1 hc with e | e | e | e <;> (unfold instrTail at r6 ⊢; simp [e] at r6 ⊢; try exact r6)
    refine ⟨r1, r2, ?_, ?_, ?_, tl⟩
    · rcases (call_iff _).1 hc with e | e | e | e <;> rw [e] at r3 ⊢ <;> exact (hk _ _ _ (by decide) (by decide) (fun h => absurd h (by decide))).trans r3
    · rcases (call_iff _).1 hc with e | e | e | e <;> rw [e] at r4 ⊢
      · exact o102 r4
      · exact o102 r4
      · exact o102 r4
      · exact o49 r4
    · rcases (call_iff _).1 hc with e | e | e | e <;> rw [e] at r5 ⊢ <;> exact (hk _ _ _ (by decide) (by decide) (fun h => absurd h (by decide))).trans r5
theorem part_scan (hi : i < p.funcs.length) : ∀ (l : List Ins) (left : Int), (∀ x ∈ l, x ∈ (nth p.funcs i).code) → scanB p (nth p.funcs i) l left = true →
    scanB (partOf nm (partP p i)) { nth p.funcs i with code := (nth p.funcs i).code.map (reP p i) } (l.map (reP p i)) left = true
  | [], _, _, _ => rfl
  | x :: l, left, hm, h => by
    simp only [scanB, Bool.and_eq_true] at h
    simp only [List.map_cons, scanB, Bool.and_eq_true]
    have hb : x.op = 50 → (reP p i x).b = x.b := fun e => by
      unfold reP
      rw [show callB x.op = false by rw [e]; rfl]
      rfl
    refine ⟨by rw [reP_op]; exact h.1, part_instr hi (hm x (by simp)) h.2.1, ?_⟩
    rw [reP_op]
    by_cases e : x.op = 50
    · rw [if_pos e, hb e]
      have h3 := h.2.2
      rw [if_pos e] at h3
      exact part_scan hi l _ (fun y hy => hm y (by simp [hy])) h3
    · rw [if_neg e]
      have h3 := h.2.2
      rw [if_neg e] at h3
      exact part_scan hi l _ (fun y hy => hm y (by simp [hy])) h3
theorem part_def (hi : i < p.funcs.length) (h : funcB p (nth p.funcs i) = true) : funcB (partOf nm (partP p i)) { nth p.funcs i with code := (nth p.funcs i).code.map (reP p i) } = true := by
  simp only [funcB, Bool.and_eq_true] at h ⊢
  refine ⟨by rw [head_keep]; exact h.1, by rw [last_keep (reP_op p i)]; exact h.2.1, part_scan hi _ _ (fun _ hx => hx) h.2.2⟩
/-- A function that returns at once is valid in any program. -/
theorem ret_func (q : Prg) (f : Fun) (h1 : f.name.toList.isEmpty = false) (h2 : 0 ≤ f.params) (h3 : f.params ≤ f.regs) (h4 : f.regs ≤ 64) : funcB q { f with code := [retI] } = true := by
  have e1 : instrB q { f with code := [retI] } retI = true := by
    have : (0 : Int) ≤ f.regs := by omega
    simp only [instrB, Bool.and_eq_true]
    refine ⟨by decide, by decide, ?_, by rw [show roleN retI.op 1 = 45 from rfl]; simp [operandB, retI], by rw [show roleN retI.op 2 = 45 from rfl]; simp [operandB, retI], ?_⟩
    · rw [show roleN retI.op 0 = 82 from rfl]
      unfold operandB
      rw [if_neg (by decide), if_pos (by decide), Bool.and_eq_true, decide_eq_true_eq, decide_eq_true_eq]
      exact ⟨by decide, by show -1 < f.regs; omega⟩
    · simp [instrTail, retI]
  simp only [funcB, headB, lastOp, scanB, Bool.and_eq_true, e1, h1]
  simp [nth, retI]
  exact ⟨h2, h3, h4⟩
end

end Go.Proofs.Ytealeofgfgbheaa

/-
  The parts of a valid program are parts.
-/
namespace Go.Proofs.Ytealeofgfgbheaa
set_option linter.unusedVariables false
set_option linter.unusedSimpArgs false
open Go.RowKit

section
variable {p : Prg} {i : Nat}
theorem code_ne {p : Prg} (hv : validB p = true) {k : Nat} (hk : k < p.funcs.length) : (nth p.funcs k).code ≠ [] := funcB_code (valid_func hv k hk)
theorem head_facts {q : Prg} {f : Fun} (h : funcB q f = true) : f.name.toList.isEmpty = false ∧ 0 ≤ f.params ∧ f.params ≤ f.regs ∧ f.regs ≤ 64 ∧ f.code.length ≤ 1000 := by
  simp only [funcB, headB, Bool.and_eq_true, decide_eq_true_eq, Bool.not_eq_true'] at h
  exact ⟨h.1.1, h.1.2.1, h.1.2.2.1, h.1.2.2.2.1, h.1.2.2.2.2.2⟩
theorem close_self {f : Fun} (h : f.code ≠ []) : closeF f = f := by unfold closeF; rw [if_neg h]
theorem close_imp (f : Fun) : closeF (imp f) = { imp f with code := [retI] } := by unfold closeF; exact if_pos rfl
theorem partF_self (p : Prg) (i : Nat) : partF p i i = { nth p.funcs i with code := (nth p.funcs i).code.map (reP p i) } := by unfold partF; rw [if_pos rfl]
theorem partF_other {k : Nat} (h : k ≠ i) : partF p i k = imp (nth p.funcs k) := by unfold partF; rw [if_neg h]
theorem closed_valid (hv : validB p = true) (hi : i < p.funcs.length) (nm : ByteArray) {k : Nat} (hk : k < p.funcs.length) : funcB (partOf nm (partP p i)) (closeF (partF p i k)) = true := by
  by_cases e : k = i
  · subst e
    rw [partF_self, close_self (by
      show (nth p.funcs k).code.map (reP p k) ≠ []
      intro h
      exact code_ne hv hk (List.map_eq_nil_iff.1 h))]
    exact part_def hk (valid_func hv k hk)
  · rw [partF_other e, close_imp]
    obtain ⟨h1, h2, h3, h4, -⟩ := head_facts (valid_func hv k hk)
    exact ret_func _ (imp (nth p.funcs k)) h1 h2 (Int.le_refl _) (Int.le_trans h3 h4)
theorem names_ne (hv : validB p = true) {j k : Nat} (hj : j < p.funcs.length) (hk : k < p.funcs.length) (h : j ≠ k) : (nth p.funcs j).name ≠ (nth p.funcs k).name := by
  have h9 := ((valid_iff p).1 hv).2.2.2.2.2.2.2.2
  rcases Nat.lt_or_gt_of_ne h with h1 | h1
  · exact h9 k hk j h1
  · exact fun e => h9 j hj k h1 e.symm
theorem usL_ne {s t : Nat} (hs : s < (usL p i).length) (ht : t < (usL p i).length) (h : s ≠ t) : nth (usL p i) s ≠ nth (usL p i) t := by
  intro e
  have h1 := (us_at hs).2.2
  have h2 := (us_at ht).2.2
  rw [e, h2] at h1
  exact h h1.symm
theorem part_main (hi : i < p.funcs.length) : (partP p i).main = if (i : Int) = p.main then (plc p i i : Int) else -1 := rfl
set_option maxHeartbeats 1000000 in
theorem part_valid (hv : validB p = true) (hn : p.funcs.length < 64) (hi : i < p.funcs.length) : partB (partP p i) = true := by
  have hself := us_lt hi (used_self p i)
  have hul := us_len p i
  have e1 : impB (partP p i) = true := by
    unfold impB
    rw [List.all_eq_true]
    intro t ht
    rw [List.mem_range, part_len] at ht
    rw [part_nth ht]
    obtain ⟨h1, h2, h3⟩ := us_at ht
    by_cases e : nth (usL p i) t = i
    · rw [e, partF_self]
      have h4 := code_ne hv hi
      cases hc : (nth p.funcs i).code with
      | nil => exact absurd hc h4
      | cons x l => rfl
    · rw [partF_other e]
      have h5 : ¬ ((t : Int) = (partP p i).main) := by
        rw [part_main hi]
        split
        · intro h6
          have h7 : t = plc p i i := by omega
          rw [h7] at e
          exact e (us_nth hi (used_self p i))
        · omega
      simp [imp, h5]
  unfold partB
  rw [e1, Bool.true_and]
  obtain ⟨nm, hnm⟩ : ∃ nm, freshN (partP p i) = nm := ⟨_, rfl⟩
  have hfs := fresh_size (partP p i)
  have hfn := fresh_new (partP p i)
  rw [hnm] at hfs hfn ⊢
  obtain ⟨v1, v2, v3, v4, v5, v6, v7, v8, v9⟩ := (valid_iff p).1 hv
  have hg := partOf_globs nm (partP p i)
  have hlo : ∀ t, t < (usL p i).length → nth (partOf nm (partP p i)).funcs t = closeF (partF p i (nth (usL p i) t)) := fun t ht => by
    rw [partOf_nth _ _ _ (by rw [part_len]; exact ht), part_nth ht]
  have hla : (partP p i).main = -1 → nth (partOf nm (partP p i)).funcs (usL p i).length = mainF nm := fun hm => by
    unfold partOf
    rw [if_pos hm]
    have := nth_snoc ((partP p i).funcs.map closeF) (mainF nm)
    rwa [List.length_map, part_len] at this
  have hlen := partOf_len nm (partP p i)
  rw [part_len] at hlen
  rw [valid_iff]
  refine ⟨by rw [hlen]; split <;> omega, by rw [hg.1]; exact v2, by rw [hg.2]; exact v3, ?_, ?_, ?_, by rw [hg.1]; exact v7, fun t ht => ?_, fun t ht k hk => ?_⟩
  · unfold partOf
    split
    · show (0 : Int) ≤ ((partP p i).funcs.length : Int); omega
    · next h =>
      show 0 ≤ (partP p i).main
      rw [part_main hi] at h ⊢
      split
      · omega
      · next h2 => rw [if_neg h2] at h; exact absurd rfl h
  · rw [hlen]
    by_cases hm : (partP p i).main = -1
    · rw [if_pos hm]
      unfold partOf
      rw [if_pos hm]
      show ((partP p i).funcs.length : Int) < _
      rw [part_len]; omega
    · rw [if_neg hm]
      unfold partOf
      rw [if_neg hm]
      show (partP p i).main < _
      rw [part_main hi] at hm ⊢
      split
      · omega
      · next h2 => rw [if_neg h2] at hm; exact absurd rfl hm
  · by_cases hm : (partP p i).main = -1
    · have e2 : (partOf nm (partP p i)).main = ((partP p i).funcs.length : Int) := by unfold partOf; rw [if_pos hm]
      rw [e2, Int.toNat_natCast, part_len, hla hm]
      rfl
    · have e2 : (partOf nm (partP p i)).main = (partP p i).main := by unfold partOf; rw [if_neg hm]
      rw [e2]
      have e3 : (i : Int) = p.main := by
        rw [part_main hi] at hm
        by_cases h2 : (i : Int) = p.main
        · exact h2
        · rw [if_neg h2] at hm; exact absurd rfl hm
      rw [part_main hi, if_pos e3, Int.toNat_natCast, hlo _ hself, close_params, partF_params, us_nth hi (used_self p i)]
      have e4 : p.main.toNat = i := by omega
      rw [← e4]; exact v6
  · rw [hlen] at ht
    rcases Nat.lt_or_ge t (usL p i).length with h1 | h1
    · rw [hlo t h1]
      exact closed_valid hv hi nm (us_at h1).1
    · have hm : (partP p i).main = -1 := by
        by_cases hm : (partP p i).main = -1
        · exact hm
        · rw [if_neg hm] at ht; omega
      rw [if_pos hm] at ht
      rw [show t = (usL p i).length by omega, hla hm]
      have hne : nm.toList.isEmpty = false := by
        rw [ByteArray.toList_eq]
        cases hq : nm.data.toList with
        | nil =>
          have h5 : nm.size = nm.data.toList.length := (Array.length_toList (xs := nm.data)).symm
          rw [hq] at h5
          exact absurd h5 hfs
        | cons x l => rfl
      exact ret_func _ ⟨nm, 0, 0, []⟩ hne (Int.le_refl _) (Int.le_refl _) (by show (0 : Int) ≤ 64; omega)
  · rw [hlen] at ht
    have hkl : k < (usL p i).length := by split at ht <;> omega
    rw [hlo k hkl, close_name, partF_name]
    rcases Nat.lt_or_ge t (usL p i).length with h1 | h1
    · rw [hlo t h1, close_name, partF_name]
      exact names_ne hv (us_at hkl).1 (us_at h1).1 (usL_ne hkl h1 (by omega))
    · have hm : (partP p i).main = -1 := by
        by_cases hm : (partP p i).main = -1
        · exact hm
        · rw [if_neg hm] at ht; omega
      rw [if_pos hm] at ht
      rw [show t = (usL p i).length by omega, hla hm]
      have h3 := hfn (nth (partP p i).funcs k) (nth_mem _ k (by rw [part_len]; exact hkl))
      rw [part_nth hkl, partF_name] at h3
      exact h3
end

end Go.Proofs.Ytealeofgfgbheaa
