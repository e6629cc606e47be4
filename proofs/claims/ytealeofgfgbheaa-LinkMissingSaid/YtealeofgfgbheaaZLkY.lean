/-
  The parts of a valid program are parts, in plain words.
-/
import Derived.Test.YtealeofgfgbheaaZLkO
namespace Go.Proofs.Ytealeofgfgbheaa
set_option linter.unusedVariables false
set_option linter.unusedSimpArgs false
open Go.RowKit

theorem call_iff (op : Int) : callB op = true ↔ op = 26 ∨ op = 28 ∨ op = 31 ∨ op = 24 := by simp [callB]
theorem roles_none (op : Int) (h : ¬ (1 ≤ op ∧ op ≤ 52)) : roles op = ⟨#[]⟩ := by
  unfold roles
  repeat (rw [if_neg (by omega)])
set_option maxRecDepth 100000 in
theorem roles_plain (op : Int) (h : callB op = false) : (roleN op 0 ≠ 102 ∧ roleN op 0 ≠ 49) ∧ (roleN op 1 ≠ 102 ∧ roleN op 1 ≠ 49) ∧ (roleN op 2 ≠ 102 ∧ roleN op 2 ≠ 49) := by
  have key : ∀ n : Nat, n < 53 → callB n = false → (roleN n 0 ≠ 102 ∧ roleN n 0 ≠ 49) ∧ (roleN n 1 ≠ 102 ∧ roleN n 1 ≠ 49) ∧ (roleN n 2 ≠ 102 ∧ roleN n 2 ≠ 49) := by decide +kernel
  by_cases hin : 1 ≤ op ∧ op ≤ 52
  · obtain ⟨n, rfl⟩ : ∃ n : Nat, op = n := ⟨op.toNat, by omega⟩
    exact key n (by omega) h
  · unfold roleN
    rw [roles_none op hin]
    decide
theorem reP_op (p : Prg) (i : Nat) (x : Ins) : (reP p i x).op = x.op := by unfold reP; split <;> rfl
theorem nth_map_op (l : List Ins) (g : Ins → Ins) (hg : ∀ x, (g x).op = x.op) (n : Nat) : (nth (l.map g) n).op = (nth l n).op := by
  rcases Nat.lt_or_ge n l.length with h | h
  · rw [nth_map _ _ _ h, hg]
  · unfold nth
    rw [List.getD_eq_getElem?_getD, List.getD_eq_getElem?_getD, List.getElem?_eq_none (by simpa using h), List.getElem?_eq_none h]
theorem operandB_keep {p q : Prg} {f : Fun} {g : Ins → Ins} (hg : ∀ x, (g x).op = x.op) (h1 : q.globals.length = p.globals.length) (h2 : q.layouts.length = p.layouts.length) (x y : Ins) (r v : Int) (n1 : r ≠ 102) (n2 : r ≠ 49) (h3 : r = 99 → y.b = x.b) :
    operandB q { f with code := f.code.map g } y r v = operandB p f x r v := by
  unfold operandB
  rw [if_neg n1, if_neg n2, if_neg n1, if_neg n2, h1, h2, List.length_map, nth_map_op _ _ hg]
  by_cases h : r = 99
  · rw [h3 h]
  · simp [h]
theorem head_keep {f : Fun} {g : Ins → Ins} : headB { f with code := f.code.map g } = headB f := by unfold headB; simp
theorem last_keep {f : Fun} {g : Ins → Ins} (hg : ∀ x, (g x).op = x.op) : lastOp { f with code := f.code.map g } = lastOp f := by
  unfold lastOp
  rw [nth_map_op _ _ hg, List.length_map]

/-- Used functions and their places. -/
def usL (p : Prg) (i : Nat) : List Nat := (List.range p.funcs.length).filter (usedB p i)
theorem us_mem {p : Prg} {i k : Nat} : k ∈ usL p i ↔ k < p.funcs.length ∧ usedB p i k = true := by unfold usL; rw [List.mem_filter, List.mem_range]
theorem us_plc {p : Prg} {i k : Nat} (hk : k < p.funcs.length) (hu : usedB p i k = true) : (usL p i)[plc p i k]? = some k := filt_nth _ _ hu _ hk
theorem us_at {p : Prg} {i t : Nat} (ht : t < (usL p i).length) : nth (usL p i) t < p.funcs.length ∧ usedB p i (nth (usL p i) t) = true ∧ plc p i (nth (usL p i) t) = t := by
  have h1 := us_mem.1 (nth_mem (usL p i) t ht)
  refine ⟨h1.1, h1.2, ?_⟩
  have h2 := us_plc h1.1 h1.2
  obtain ⟨h3, h4⟩ := List.getElem?_eq_some_iff.1 h2
  exact (List.getElem_inj (range_nodup _ _)).1 (h4.trans (nth_eq _ _ ht))
theorem us_lt {p : Prg} {i k : Nat} (hk : k < p.funcs.length) (hu : usedB p i k = true) : plc p i k < (usL p i).length := (List.getElem?_eq_some_iff.1 (us_plc hk hu)).1
theorem us_nth {p : Prg} {i k : Nat} (hk : k < p.funcs.length) (hu : usedB p i k = true) : nth (usL p i) (plc p i k) = k := by
  rw [nth_eq _ _ (us_lt hk hu)]
  exact (List.getElem?_eq_some_iff.1 (us_plc hk hu)).2
theorem us_len (p : Prg) (i : Nat) : (usL p i).length ≤ p.funcs.length := by
  unfold usL
  exact Nat.le_trans (List.length_filter_le _ _) (by simp)
theorem part_funcs (p : Prg) (i : Nat) : (partP p i).funcs = (usL p i).map (partF p i) := rfl
theorem part_len (p : Prg) (i : Nat) : (partP p i).funcs.length = (usL p i).length := by rw [part_funcs, List.length_map]
theorem part_nth {p : Prg} {i t : Nat} (ht : t < (usL p i).length) : nth (partP p i).funcs t = partF p i (nth (usL p i) t) := by rw [part_funcs, nth_map _ _ _ ht]
theorem partF_name (p : Prg) (i k : Nat) : (partF p i k).name = (nth p.funcs k).name := by
  unfold partF; split
  · next h => rw [h]
  · rfl
theorem partF_params (p : Prg) (i k : Nat) : (partF p i k).params = (nth p.funcs k).params := by
  unfold partF; split
  · next h => rw [h]
  · rfl
theorem partOf_nth (nm : ByteArray) (P : Prg) (t : Nat) (ht : t < P.funcs.length) : nth (partOf nm P).funcs t = closeF (nth P.funcs t) := by
  unfold partOf
  split
  · show nth (P.funcs.map closeF ++ [mainF nm]) t = _
    rw [nth_append_left _ _ _ (by simpa using ht), nth_map _ _ _ ht]
  · exact nth_map _ _ _ ht
theorem partOf_len (nm : ByteArray) (P : Prg) : (partOf nm P).funcs.length = P.funcs.length + if P.main = -1 then 1 else 0 := by
  unfold partOf
  split <;> simp
theorem partOf_globs (nm : ByteArray) (P : Prg) : (partOf nm P).globals = P.globals ∧ (partOf nm P).layouts = P.layouts := by
  unfold partOf
  split <;> exact ⟨rfl, rfl⟩

section
variable {p : Prg} {i : Nat} {nm : ByteArray}
theorem used_of {x : Ins} (hx : x ∈ (nth p.funcs i).code) (hc : callB x.op = true) (h0 : 0 ≤ x.b) : usedB p i x.b.toNat = true := by
  unfold usedB
  rw [Bool.or_eq_true]
  refine .inr ?_
  rw [List.any_eq_true]
  refine ⟨x, hx, ?_⟩
  rw [hc]
  simp
  omega
set_option maxHeartbeats 4000000 in
theorem part_instr {x : Ins} (hi : i < p.funcs.length) (hx : x ∈ (nth p.funcs i).code) (h : instrB p (nth p.funcs i) x = true) :
    instrB (partOf nm (partP p i)) { nth p.funcs i with code := (nth p.funcs i).code.map (reP p i) } (reP p i x) = true := by
  have hg := partOf_globs nm (partP p i)
  have g1 : (partOf nm (partP p i)).globals.length = p.globals.length := by rw [hg.1]; rfl
  have g2 : (partOf nm (partP p i)).layouts.length = p.layouts.length := by rw [hg.2]; rfl
  have hk := fun y r v n1 n2 n3 => operandB_keep (p := p) (q := partOf nm (partP p i)) (f := nth p.funcs i) (g := reP p i) (reP_op p i) g1 g2 x y r v n1 n2 n3
  cases hc : callB x.op with
  | false =>
    have e : reP p i x = x := by unfold reP; rw [hc]; rfl
    obtain ⟨⟨a1, a2⟩, ⟨a3, a4⟩, a5, a6⟩ := roles_plain x.op hc
    rw [e]
    unfold instrB
    rw [hk x _ _ a1 a2 (fun _ => rfl), hk x _ _ a3 a4 (fun _ => rfl), hk x _ _ a5 a6 (fun _ => rfl)]
    exact h
  | true =>
    obtain ⟨h0, h1⟩ := call_range h hc
    have hu := used_of hx hc h0
    have hb : x.b.toNat < p.funcs.length := by omega
    have e : reP p i x = { x with b := plc p i x.b.toNat } := by unfold reP; rw [hc]; rfl
    have hlt := us_lt hb hu
    have hlt2 : (plc p i x.b.toNat : Int) < (partOf nm (partP p i)).funcs.length := by rw [partOf_len, part_len]; omega
    have hpar : (nth (partOf nm (partP p i)).funcs (plc p i x.b.toNat)).params = (nth p.funcs x.b.toNat).params := by
      rw [partOf_nth _ _ _ (by rw [part_len]; exact hlt), close_params, part_nth hlt, partF_params, us_nth hb hu]
    have o102 : operandB p (nth p.funcs i) x 102 x.b = true → operandB (partOf nm (partP p i)) { nth p.funcs i with code := (nth p.funcs i).code.map (reP p i) } { x with b := plc p i x.b.toNat } 102 (plc p i x.b.toNat) = true := by
      intro h
      simp [operandB] at h ⊢
      rw [hpar]
      exact ⟨Int.ofNat_lt.1 hlt2, h.2.2⟩
    have o49 : operandB p (nth p.funcs i) x 49 x.b = true → operandB (partOf nm (partP p i)) { nth p.funcs i with code := (nth p.funcs i).code.map (reP p i) } { x with b := plc p i x.b.toNat } 49 (plc p i x.b.toNat) = true := by
      intro h
      simp [operandB] at h ⊢
      rw [hpar]
      exact ⟨Int.ofNat_lt.1 hlt2, h.2.2⟩
    rw [e]
    simp only [instrB, Bool.and_eq_true] at h ⊢
    obtain ⟨r1, r2, r3, r4, r5, r6⟩ := h
    have tl : instrTail { nth p.funcs i with code := (nth p.funcs i).code.map (reP p i) } { x with b := plc p i x.b.toNat } = true := by
      rcases (call_iff _).1 hc with e | e | e | e <;> (unfold instrTail at r6 ⊢; simp [e] at r6 ⊢; try exact r6)
    refine ⟨r1, r2, ?_, ?_, ?_, tl⟩
    · rcases (call_iff _).1 hc with e | e | e | e <;> rw [e] at r3 ⊢ <;> exact (hk _ _ _ (by decide) (by decide) (fun h => absurd h (by decide))).trans r3
    · rcases (call_iff _).1 hc with e | e | e | e <;> rw [e] at r4 ⊢
      · exact o102 r4
      · exact o102 r4
      · exact o102 r4
      · exact o49 r4
    · rcases (call_iff _).1 hc with e | e | e | e <;> rw [e] at r5 ⊢ <;> exact (hk _ _ _ (by decide) (by decide) (fun h => absurd h (by decide))).trans r5
theorem part_scan (hi : i < p.funcs.length) : ∀ (l : List Ins) (left : Int), (∀ x ∈ l, x ∈ (nth p.funcs i).code) → scanB p (nth p.funcs i) l left = true →
    scanB (partOf nm (partP p i)) { nth p.funcs i with code := (nth p.funcs i).code.map (reP p i) } (l.map (reP p i)) left = true
  | [], _, _, _ => rfl
  | x :: l, left, hm, h => by
    simp only [scanB, Bool.and_eq_true] at h
    simp only [List.map_cons, scanB, Bool.and_eq_true]
    have hb : x.op = 50 → (reP p i x).b = x.b := fun e => by
      unfold reP
      rw [show callB x.op = false by rw [e]; rfl]
      rfl
    refine ⟨by rw [reP_op]; exact h.1, part_instr hi (hm x (by simp)) h.2.1, ?_⟩
    rw [reP_op]
    by_cases e : x.op = 50
    · rw [if_pos e, hb e]
      have h3 := h.2.2
      rw [if_pos e] at h3
      exact part_scan hi l _ (fun y hy => hm y (by simp [hy])) h3
    · rw [if_neg e]
      have h3 := h.2.2
      rw [if_neg e] at h3
      exact part_scan hi l _ (fun y hy => hm y (by simp [hy])) h3
theorem part_def (hi : i < p.funcs.length) (h : funcB p (nth p.funcs i) = true) : funcB (partOf nm (partP p i)) { nth p.funcs i with code := (nth p.funcs i).code.map (reP p i) } = true := by
  simp only [funcB, Bool.and_eq_true] at h ⊢
  refine ⟨by rw [head_keep]; exact h.1, by rw [last_keep (reP_op p i)]; exact h.2.1, part_scan hi _ _ (fun _ hx => hx) h.2.2⟩
/-- A function that returns at once is valid in any program. -/
theorem ret_func (q : Prg) (f : Fun) (h1 : f.name.toList.isEmpty = false) (h2 : 0 ≤ f.params) (h3 : f.params ≤ f.regs) (h4 : f.regs ≤ 64) : funcB q { f with code := [retI] } = true := by
  have e1 : instrB q { f with code := [retI] } retI = true := by
    have : (0 : Int) ≤ f.regs := by omega
    simp only [instrB, Bool.and_eq_true]
    refine ⟨by decide, by decide, ?_, by rw [show roleN retI.op 1 = 45 from rfl]; simp [operandB, retI], by rw [show roleN retI.op 2 = 45 from rfl]; simp [operandB, retI], ?_⟩
    · rw [show roleN retI.op 0 = 82 from rfl]
      unfold operandB
      rw [if_neg (by decide), if_pos (by decide), Bool.and_eq_true, decide_eq_true_eq, decide_eq_true_eq]
      exact ⟨by decide, by show -1 < f.regs; omega⟩
    · simp [instrTail, retI]
  simp only [funcB, headB, lastOp, scanB, Bool.and_eq_true, e1, h1]
  simp [nth, retI]
  exact ⟨h2, h3, h4⟩
end

end Go.Proofs.Ytealeofgfgbheaa
