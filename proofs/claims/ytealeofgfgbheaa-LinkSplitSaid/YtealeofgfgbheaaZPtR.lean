/-
  What linking all parts of a program yields.
-/
import Derived.Test.YtealeofgfgbheaaZLkC
namespace Go.Proofs.Ytealeofgfgbheaa
set_option linter.unusedVariables false
set_option linter.unusedSimpArgs false
open Go.RowKit

section
variable {p : Prg} {idx : List Nat}
/-- A function behind the link. -/
def newF (p : Prg) (idx : List Nat) (i : Nat) : Fun := { nth p.funcs i with code := ((nth p.funcs i).code.map (reP p i)).map (reI (nuL (ptsL p idx) (partP p i))) }
theorem defsK_all (hv : validB p = true) {i : Nat} (hi : i < p.funcs.length) : defsK (partP p i) (partP p i).funcs.length = [defI p i] := by rw [defsK_end, defsP_part hv hi]
theorem fnd_self {l : List Nat} (hl : l.Nodup) {k : Nat} (hk : k < l.length) : fnd l (nth l k) = some (k : Int) := fnd_at l hl k _ (by rw [nth_eq _ _ hk]; simp)
theorem rK_pts (h : Idx p idx) : ∀ k, k ≤ idx.length → rK (ptsL p idx) k = (idx.take k).map (newF p idx) ++ (idx.drop k).map (defI p)
  | 0, _ => by rw [rK_zero, dL_pts h]; simp
  | k + 1, hk => by
    have hi := h.lt _ (nth_mem idx k hk)
    have hnm : (rK (ptsL p idx) k).map (fun f => f.name) = idx.map fun i => (nth p.funcs i).name := by rw [rK_names k (by rw [pts_len]; omega), dL_names h]
    rw [rK_succ (by rw [pts_len]; omega), nth_idx hk]
    unfold relK
    rw [defsK_all h.val hi]
    show relStep _ _ (defI p (nth idx k)) = _
    have hix : idxD (rK (ptsL p idx) k) (defI p (nth idx k)).name = k := by
      unfold idxD
      rw [hnm]
      show ((fnd _ (nth p.funcs (nth idx k)).name).getD 0).toNat = k
      rw [fnd_name h hi, fnd_self h.nodup hk]
      simp
    unfold relStep
    rw [hix, rK_pts h k (by omega)]
    have hl : ((idx.take k).map (newF p idx)).length = k := by simp; omega
    have hd : idx.drop k = nth idx k :: idx.drop (k + 1) := by rw [nth_eq _ _ hk, List.drop_eq_getElem_cons hk]
    have hn : nth ((idx.take k).map (newF p idx) ++ (idx.drop k).map (defI p)) k = defI p (nth idx k) := by
      rw [hd, List.map_cons]
      unfold nth
      rw [List.getD_eq_getElem?_getD, List.getElem?_append_right (by rw [hl]; exact Nat.le_refl _), hl, Nat.sub_self]
      rfl
    rw [hn, List.set_append_right _ _ (by rw [hl]; exact Nat.le_refl _), hl, Nat.sub_self, hd, List.map_cons, List.set_cons_zero, take_succ_atD idx k hk, List.map_append, List.append_assoc]
    rfl
theorem rL_pts (h : Idx p idx) : rK (ptsL p idx) (ptsL p idx).length = idx.map (newF p idx) := by
  rw [pts_len, rK_pts h _ (Nat.le_refl _)]
  simp
/-- All functions, in order. -/
theorem idx_all (hv : validB p = true) (h64 : p.funcs.length < 64) (hw : PrgWf p) : Idx p (List.range p.funcs.length) := ⟨hv, h64, hw, List.nodup_range, fun i hi => List.mem_range.1 hi⟩
theorem fnd_range {n k : Nat} (h : k < n) : fnd (List.range n) k = some (k : Int) := fnd_at _ List.nodup_range k k (by rw [List.getElem?_range h])
def reY (p : Prg) (x : Ins) : Ins := if x.op = 21 then { x with b := (fnd (onceY p) (nth p.layouts x.b.toNat)).getD 0 } else x
/-- The program that linking the parts of a program yields. -/
def backP (p : Prg) : Prg := ⟨(List.range p.funcs.length).map fun i => { nth p.funcs i with code := (nth p.funcs i).code.map (reY p) }, p.globals, onceY p, p.main⟩
theorem re_back (hv : validB p = true) (h64 : p.funcs.length < 64) (hw : PrgWf p) {i : Nat} (hi : i < p.funcs.length) {x : Ins} (hx : x ∈ (nth p.funcs i).code) :
    reI (nuL (ptsL p (List.range p.funcs.length)) (partP p i)) (reP p i x) = reY p x := by
  have h := idx_all hv h64 hw
  have h0 : 0 < (List.range p.funcs.length).length := by rw [List.length_range]; omega
  have hok := fok_of_funcB (valid_func hv i hi)
  obtain ⟨n, hn, he⟩ := List.getElem_of_mem hx
  have hins := hok.ins n hn
  rw [nth_eq _ _ hn, he] at hins
  have eNF := dL_names h
  have eNG := gL_pts h h0
  have eY := yL_pts h h0
  cases hc : callB x.op with
  | true =>
    obtain ⟨g0, g1⟩ := call_range hins hc
    have hu := used_of hx hc g0
    have hb : x.b.toNat < p.funcs.length := by omega
    have e2 : reP p i x = { x with b := plc p i x.b.toNat } := by unfold reP; rw [hc]; rfl
    have h4 := (call_iff _).1 hc
    have hn6 : Num6 x.op := by unfold Num6; omega
    rw [e2]
    unfold reI
    rw [if_pos hn6]
    unfold nuL numR
    rw [if_neg (by show ¬ x.op = 18; omega), if_neg (by show ¬ x.op = 21; omega)]
    have e3 : nth (partP p i).funcs ((plc p i x.b.toNat : Nat) : Int).toNat = partF p i x.b.toNat := by rw [Int.toNat_natCast, part_nth (us_lt hb hu), us_nth hb hu]
    unfold reY
    rw [if_neg (by omega)]
    show ({ x with b := (fnd _ (nth (partP p i).funcs ((plc p i x.b.toNat : Nat) : Int).toNat).name).getD 0 } : Ins) = x
    rw [e3, partF_name, eNF, fnd_name h hb, fnd_range hb]
    have e4 : (some ((x.b.toNat : Nat) : Int)).getD 0 = x.b := by simp; omega
    rw [e4]
  | false =>
    have e2 : reP p i x = x := by unfold reP; rw [hc]; rfl
    have h4 : ¬ (x.op = 26 ∨ x.op = 28 ∨ x.op = 31 ∨ x.op = 24) := fun e => by rw [(call_iff _).2 e] at hc; cases hc
    rw [e2]
    unfold reI
    by_cases h18 : x.op = 18
    · rw [if_pos (by unfold Num6; omega)]
      unfold nuL numR
      rw [if_pos h18]
      unfold reY
      rw [if_neg (by omega)]
      simp only [instrB, Bool.and_eq_true] at hins
      have h1 := hins.2.2.2.1
      rw [h18, show roleN 18 1 = 103 from rfl] at h1
      simp [operandB] at h1
      have hgn := globs_nodup ((valid_iff p).1 hv).2.2.2.2.2.2.1
      have hb : x.b.toNat < p.globals.length := by omega
      have e3 : fnd (p.globals.map fun g => g.name) (nth p.globals x.b.toNat).name = some ((x.b.toNat : Nat) : Int) := fnd_at _ hgn _ _ (by rw [nth_eq _ _ hb]; simp [hb])
      show ({ x with b := (fnd _ (nth p.globals x.b.toNat).name).getD 0 } : Ins) = x
      rw [eNG, e3]
      have e4 : (some ((x.b.toNat : Nat) : Int)).getD 0 = x.b := by simp; omega
      rw [e4]
    · by_cases h21 : x.op = 21
      · rw [if_pos (by unfold Num6; omega)]
        unfold nuL numR
        rw [if_neg h18, if_pos h21]
        unfold reY
        rw [if_pos h21, eY]
        rfl
      · rw [if_neg (by unfold Num6; omega)]
        unfold reY
        rw [if_neg h21]
theorem link_back (hv : validB p = true) (h64 : p.funcs.length < 64) (hw : PrgWf p) : linkL (ptsL p (List.range p.funcs.length)) = backP p ∧ missB (ptsL p (List.range p.funcs.length)) = false := by
  have h := idx_all hv h64 hw
  have hm := (valid_iff p).1 hv
  have h0 : 0 < (List.range p.funcs.length).length := by rw [List.length_range]; omega
  constructor
  · unfold linkL backP
    rw [rL_pts h, gL_pts h h0, yL_pts h h0, mL_pts h, fnd_range (by omega)]
    congr 1
    · refine List.map_congr_left fun i hi => ?_
      have hi' := List.mem_range.1 hi
      unfold newF
      rw [List.map_map]
      refine congrArg (fun c => ({ nth p.funcs i with code := c } : Fun)) ?_
      refine List.map_congr_left fun x hx => ?_
      exact re_back hv h64 hw hi' hx
    · simp; omega
  · cases hb : missB (ptsL p (List.range p.funcs.length)) with
    | false => rfl
    | true =>
      rcases (miss_pts h).1 hb with h1 | ⟨i, -, k, hk, -, hn⟩
      · exact absurd (List.mem_range.2 (by omega)) h1
      · exact absurd (List.mem_range.2 hk) hn
theorem split_pts (hv : validB p = true) (h64 : p.funcs.length < 64) : splitL p = ptsL p (List.range p.funcs.length) := by
  unfold splitL; rw [if_pos ⟨hv, h64⟩]; rfl
/-- Distinct layouts: the same program. -/
theorem once_same (hd : p.layouts.Nodup) : onceY p = p.layouts := by
  have key : ∀ k, k ≤ p.layouts.length → yJ [] p k = p.layouts.take k := by
    intro k
    induction k with
    | zero => intro _; simp [yJ]
    | succ k ih =>
      intro hk
      rw [yJ_succ [] p k hk, ih (by omega), take_succ_atD _ _ hk]
      unfold addY
      rw [if_neg]
      intro hm
      have h3 : (p.layouts.take (k + 1)).Nodup := List.Nodup.sublist (List.take_sublist _ _) hd
      rw [take_succ_atD _ _ hk, List.nodup_append] at h3
      exact h3.2.2 _ hm _ (by simp) rfl
  unfold onceY
  rw [key _ (Nat.le_refl _), List.take_length]
theorem back_same (hv : validB p = true) (hd : p.layouts.Nodup) : backP p = p := by
  unfold backP
  rw [once_same hd]
  have e : (List.range p.funcs.length).map (fun i => { nth p.funcs i with code := (nth p.funcs i).code.map (reY p) }) = p.funcs := by
    apply List.ext_getElem (by simp)
    intro i h1 h2
    rw [List.getElem_map, List.getElem_range, nth_eq _ _ h2]
    have e2 : p.funcs[i].code.map (reY p) = p.funcs[i].code := by
      rw [List.map_eq_iff]
      intro n
      rcases hx : p.funcs[i].code[n]? with _ | x
      · rfl
      · have hok := fok_of_funcB (valid_func hv i h2)
        obtain ⟨hn, hxe⟩ := List.getElem?_eq_some_iff.1 hx
        have hins := hok.ins n (by rw [nth_eq _ _ h2]; exact hn)
        rw [nth_eq _ _ h2, nth_eq _ _ hn, hxe] at hins
        show some x = some (reY p x)
        congr 1
        unfold reY
        split
        · next h21 =>
          simp only [instrB, Bool.and_eq_true] at hins
          have h3 := hins.2.2.2.1
          rw [h21, show roleN 21 1 = 108 from rfl] at h3
          simp [operandB] at h3
          have hb : x.b.toNat < p.layouts.length := by omega
          rw [once_same hd, fnd_at _ hd x.b.toNat _ (by rw [nth_eq _ _ hb]; simp [hb])]
          have e4 : (some ((x.b.toNat : Nat) : Int)).getD 0 = x.b := by simp; omega
          rw [e4]
        · rfl
    rw [e2]
  rw [e]
end

end Go.Proofs.Ytealeofgfgbheaa
