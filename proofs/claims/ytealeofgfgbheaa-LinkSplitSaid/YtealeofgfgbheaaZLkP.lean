/-
  Parts of programs in plain words: when a program is a part, and that the name of the added main function doesn't matter.
-/
import Derived.Test.YtealeofgfgbheaaZPrA
namespace Go.Proofs.Ytealeofgfgbheaa
set_option linter.unusedVariables false
set_option linter.unusedSimpArgs false
open Go.RowKit

theorem ba_ext {a b : ByteArray} (h : a.data.toList = b.data.toList) : a = b := by
  have h3 : a.data = b.data := Array.toList_inj.1 h
  cases a; cases b; simp_all
theorem sameName_eq (a b : ByteArray) : sameName a b = decide (a = b) := by
  unfold sameName
  rw [ByteArray.toList_eq, ByteArray.toList_eq, Bool.eq_iff_iff, beq_iff_eq, decide_eq_true_eq]
  exact ⟨ba_ext, fun h => by rw [h]⟩
def retI : Ins := ⟨30, -1, 0, 0, 0⟩
/-- The code that an import gets. -/
def closeF (f : Fun) : Fun := if f.code = [] then { f with code := [retI] } else f
def mainF (nm : ByteArray) : Fun := ⟨nm, 0, 0, [retI]⟩
/-- The program that a part becomes. -/
def partOf (nm : ByteArray) (p : Prg) : Prg := if p.main = -1 then { p with funcs := p.funcs.map closeF ++ [mainF nm], main := p.funcs.length } else { p with funcs := p.funcs.map closeF }
/-- A name that no function has: longer than all. -/
def freshN (p : Prg) : ByteArray := ⟨(120 :: p.funcs.flatMap fun f => f.name.data.toList).toArray⟩
/-- Imports are without registers but parameters, and none is the main function. -/
def impB (p : Prg) : Bool := (List.range p.funcs.length).all fun i => !(nth p.funcs i).code.isEmpty || ((nth p.funcs i).regs == (nth p.funcs i).params && !((i : Int) == p.main))
/-- Whether a program is a part. -/
def partB (p : Prg) : Bool := impB p && validB (partOf (freshN p) p)

/-- What validity asks. -/
theorem valid_iff (p : Prg) : validB p = true ↔ p.funcs.length ≤ 64 ∧ p.globals.length ≤ 64 ∧ laysB p.layouts = true ∧ 0 ≤ p.main ∧ p.main < (p.funcs.length : Int) ∧ (nth p.funcs p.main.toNat).params = 0 ∧ globsB p.globals = true ∧ (∀ i, i < p.funcs.length → funcB p (nth p.funcs i) = true) ∧ ∀ i, i < p.funcs.length → ∀ k, k < i → (nth p.funcs k).name ≠ (nth p.funcs i).name := by
  simp only [validB, topB, funsB, funOk, Bool.and_eq_true, decide_eq_true_eq, List.all_eq_true, List.mem_range, beq_iff_eq, sameName_eq, Bool.not_eq_true', decide_eq_false_iff_not]
  constructor
  · rintro ⟨⟨h1, h2, h3, h4, h5, h6⟩, h7, h8⟩
    exact ⟨h1, h2, h3, h4, h5, h6, h7, fun i hi => (h8 i hi).1, fun i hi => (h8 i hi).2⟩
  · rintro ⟨h1, h2, h3, h4, h5, h6, h7, h8, h9⟩
    exact ⟨⟨h1, h2, h3, h4, h5, h6⟩, h7, fun i hi => ⟨h8 i hi, h9 i hi⟩⟩

/-- The same for validity of functions: sizes and parameters. -/
structure Alike (p q : Prg) : Prop where
  len : q.funcs.length = p.funcs.length
  globs : q.globals.length = p.globals.length
  lays : q.layouts.length = p.layouts.length
  same : ∀ i, (nth q.funcs i).params = (nth p.funcs i).params
theorem Alike.operand {p q : Prg} (h : Alike p q) (f : Fun) (x : Ins) (r v : Int) : operandB q f x r v = operandB p f x r v := by
  unfold operandB
  rw [h.len, h.globs, h.lays, h.same]
theorem Alike.instr {p q : Prg} (h : Alike p q) (f : Fun) (x : Ins) : instrB q f x = instrB p f x := by
  unfold instrB
  rw [h.operand, h.operand, h.operand]
theorem Alike.scan {p q : Prg} (h : Alike p q) (f : Fun) : ∀ (l : List Ins) (n : Int), scanB q f l n = scanB p f l n
  | [], _ => rfl
  | x :: l, n => by simp only [scanB]; rw [h.instr, h.scan f l]
theorem Alike.func {p q : Prg} (h : Alike p q) (f : Fun) : funcB q f = funcB p f := by
  unfold funcB
  rw [h.scan]

theorem close_name (f : Fun) : (closeF f).name = f.name := by unfold closeF; split <;> rfl
theorem close_params (f : Fun) : (closeF f).params = f.params := by unfold closeF; split <;> rfl
theorem nth_snoc {α : Type} [Inhabited α] (l : List α) (x : α) : nth (l ++ [x]) l.length = x := by simp [nth]
theorem part_alike (n m : ByteArray) (p : Prg) : Alike (partOf n p) (partOf m p) := by
  unfold partOf
  split
  · refine ⟨by simp, rfl, rfl, fun i => ?_⟩
    dsimp only
    rcases Nat.lt_trichotomy i p.funcs.length with h | h | h
    · rw [nth_append_left _ _ _ (by simpa using h), nth_append_left _ _ _ (by simpa using h)]
    · subst h
      have e : ∀ k : ByteArray, nth (p.funcs.map closeF ++ [mainF k]) p.funcs.length = mainF k := fun k => by
        have := nth_snoc (p.funcs.map closeF) (mainF k)
        rwa [List.length_map] at this
      rw [e, e]; rfl
    · have e : ∀ k : ByteArray, nth (p.funcs.map closeF ++ [mainF k]) i = default := fun k => by
        unfold nth
        rw [List.getD_eq_getElem?_getD, List.getElem?_eq_none (by simp; omega)]; rfl
      rw [e, e]
  · exact ⟨rfl, rfl, rfl, fun _ => rfl⟩
/-- A valid part stays one whatever the added function is called. -/
theorem part_name {n m : ByteArray} {p : Prg} (hn : n.size ≠ 0) (hm : m.size ≠ 0) (h1 : ∀ f ∈ p.funcs, f.name ≠ m) (h : validB (partOf n p) = true) : validB (partOf m p) = true := by
  have ha := part_alike n m p
  by_cases hmain : p.main = -1
  · rw [valid_iff] at h ⊢
    obtain ⟨v1, v2, v3, v4, v5, v6, v7, v8, v9⟩ := h
    have e : ∀ k : ByteArray, partOf k p = { p with funcs := p.funcs.map closeF ++ [mainF k], main := p.funcs.length } := fun k => by unfold partOf; rw [if_pos hmain]
    have hl : ∀ k : ByteArray, (partOf k p).funcs.length = p.funcs.length + 1 := fun k => by rw [e]; simp
    have hmn : ∀ k : ByteArray, (partOf k p).main = p.funcs.length := fun k => by rw [e]
    have lo : ∀ (k : ByteArray) (i : Nat), i < p.funcs.length → nth (partOf k p).funcs i = closeF (nth p.funcs i) := fun k i hi => by
      rw [e]
      show nth (p.funcs.map closeF ++ [mainF k]) i = _
      rw [nth_append_left _ _ _ (by simpa using hi), nth_map _ _ _ hi]
    have la : ∀ k : ByteArray, nth (partOf k p).funcs p.funcs.length = mainF k := fun k => by
      rw [e]
      have := nth_snoc (p.funcs.map closeF) (mainF k)
      rwa [List.length_map] at this
    refine ⟨by rw [ha.len]; exact v1, by rw [ha.globs]; exact v2, ?_, by rw [hmn]; omega, by rw [hmn, hl]; omega, ?_, ?_, fun i hi => ?_, fun i hi k hk => ?_⟩
    · have : (partOf m p).layouts = (partOf n p).layouts := by rw [e, e]
      rw [this]; exact v3
    · rw [hmn, Int.toNat_natCast, la]; rfl
    · have : (partOf m p).globals = (partOf n p).globals := by rw [e, e]
      rw [this]; exact v7
    · rw [ha.func]
      rw [hl] at hi
      rcases Nat.lt_or_ge i p.funcs.length with h2 | h2
      · rw [lo m i h2, ← lo n i h2]; exact v8 i (by rw [hl]; omega)
      · have h3 : i = p.funcs.length := by omega
        subst h3
        have h4 := v8 p.funcs.length (by rw [hl]; omega)
        rw [la] at h4 ⊢
        have hne : ∀ k : ByteArray, k.size ≠ 0 → k.toList.isEmpty = false := fun k hk => by
          rw [ByteArray.toList_eq]
          cases hq : k.data.toList with
          | nil =>
            have h5 : k.size = k.data.toList.length := (Array.length_toList (xs := k.data)).symm
            rw [hq] at h5
            exact absurd h5 hk
          | cons x l => rfl
        have e3 : ∀ k : ByteArray, k.size ≠ 0 → funcB (partOf n p) (mainF k) = (headB (mainF ⟨#[1]⟩) && ((lastOp (mainF ⟨#[1]⟩) == 30 || lastOp (mainF ⟨#[1]⟩) == 16) && scanB (partOf n p) (mainF ⟨#[1]⟩) [retI] 0)) := fun k hk => by
          unfold funcB headB
          rw [show (mainF k).name.toList.isEmpty = false from hne k hk, show (mainF ⟨#[1]⟩).name.toList.isEmpty = false from hne ⟨#[1]⟩ (by decide)]
          rfl
        rw [e3 m hm, ← e3 n hn]; exact h4
    · rw [hl] at hi
      rw [lo m k (by omega), close_name]
      rcases Nat.lt_or_ge i p.funcs.length with h2 | h2
      · rw [lo m i h2, close_name]
        have := v9 i (by rw [hl]; omega) k hk
        rw [lo n k (by omega), lo n i h2, close_name, close_name] at this
        exact this
      · have h3 : i = p.funcs.length := by omega
        subst h3
        rw [la]
        exact h1 _ (nth_mem _ _ hk)
  · have e : partOf m p = partOf n p := by unfold partOf; rw [if_neg hmain, if_neg hmain]
    rw [e]; exact h
theorem fresh_size (p : Prg) : (freshN p).size ≠ 0 := by
  have : (freshN p).size = (120 :: p.funcs.flatMap fun f => f.name.data.toList).length := rfl
  rw [this, List.length_cons]; omega
theorem flat_ge {α β : Type} (f : α → List β) : ∀ (l : List α) (x : α), x ∈ l → (f x).length ≤ (l.flatMap f).length
  | y :: l, x, h => by
    rw [List.flatMap_cons, List.length_append]
    rcases List.mem_cons.1 h with rfl | h
    · omega
    · have := flat_ge f l x h; omega
theorem fresh_new (p : Prg) : ∀ f ∈ p.funcs, f.name ≠ freshN p := fun f hf e => by
  have h1 := flat_ge (fun f : Fun => f.name.data.toList) p.funcs f hf
  have h2 : f.name.data.toList.length = (freshN p).data.toList.length := by rw [e]
  have h3 : (freshN p).data.toList = 120 :: p.funcs.flatMap fun f => f.name.data.toList := by simp [freshN]
  rw [h3, List.length_cons] at h2
  omega
theorem part_any {m : ByteArray} {p : Prg} (hm : m.size ≠ 0) (h1 : ∀ f ∈ p.funcs, f.name ≠ m) : validB (partOf m p) = validB (partOf (freshN p) p) := by
  rw [Bool.eq_iff_iff]
  exact ⟨part_name hm (fresh_size p) (fresh_new p), part_name (fresh_size p) hm h1⟩

/-- The names that package link tries. -/
def tryN (k : Nat) : ByteArray := ⟨(([109, 97, 105, 110] ++ List.replicate k 39 : List UInt8)).toArray⟩
theorem tryN_size (k : Nat) : (tryN k).size = 4 + k := by
  show (([109, 97, 105, 110] ++ List.replicate k 39 : List UInt8)).toArray.size = _
  simp; omega
theorem tryN_inj {i j : Nat} (h : tryN i = tryN j) : i = j := by
  have := congrArg ByteArray.size h
  rw [tryN_size, tryN_size] at this
  omega
theorem tryN_succ (k : Nat) : tryN k ++ ⟨#[39]⟩ = tryN (k + 1) := by
  refine ba_ext ?_
  simp [tryN, List.replicate_succ']
/-- Not all of them are taken. -/
theorem tryN_free (L : List ByteArray) (k : Nat) (h : ∀ j, j ≤ k → tryN j ∈ L) : k < L.length := by
  refine Nat.lt_of_not_le fun hk => ?_
  have hx : ∀ j, j ≤ L.length → ∃ i, i < L.length ∧ nth L i = tryN j := fun j hj => by
    obtain ⟨i, hi, he⟩ := List.getElem_of_mem (h j (by omega))
    exact ⟨i, hi, by rw [nth_eq _ _ hi, he]⟩
  let f : Nat → Nat := fun j => if hj : j ≤ L.length then Classical.choose (hx j hj) else 0
  have hf : ∀ j (hj : j ≤ L.length), f j < L.length ∧ nth L (f j) = tryN j := fun j hj => by
    show (if hj : j ≤ L.length then Classical.choose (hx j hj) else 0) < _ ∧ nth L (if hj : j ≤ L.length then Classical.choose (hx j hj) else 0) = _
    rw [dif_pos hj]
    exact Classical.choose_spec (hx j hj)
  obtain ⟨i, j, h1, h2, h3⟩ := pigeon L.length f fun j hj => (hf j hj).1
  have h4 := (hf i (by omega)).2
  have h5 := (hf j h2).2
  rw [h3, h5] at h4
  exact absurd (tryN_inj h4) (by omega)

/-- The reference's closing: an import with registers stays without code. -/
def closeR (f : Fun) : Fun := if f.code = [] ∧ f.regs = f.params then { f with code := [retI] } else f
def partR (nm : ByteArray) (p : Prg) : Prg := if p.main = -1 then { p with funcs := p.funcs.map closeR ++ [mainF nm], main := p.funcs.length } else { p with funcs := p.funcs.map closeR }
def impR (p : Prg) : Bool := (List.range p.funcs.length).all fun i => !((nth p.funcs i).code.isEmpty && ((nth p.funcs i).regs == (nth p.funcs i).params)) || !((i : Int) == p.main)
theorem funcB_code {p : Prg} {f : Fun} (h : funcB p f = true) : f.code ≠ [] := by
  simp only [funcB, headB, Bool.and_eq_true, decide_eq_true_eq] at h
  intro e
  have := h.1.2.2.2.2.1
  rw [e] at this
  simp at this
theorem partR_nth (nm : ByteArray) (p : Prg) (i : Nat) (hi : i < p.funcs.length) : nth (partR nm p).funcs i = closeR (nth p.funcs i) := by
  unfold partR
  split
  · show nth (p.funcs.map closeR ++ [mainF nm]) i = _
    rw [nth_append_left _ _ _ (by simpa using hi), nth_map _ _ _ hi]
  · exact nth_map _ _ _ hi
theorem partR_len (nm : ByteArray) (p : Prg) : p.funcs.length ≤ (partR nm p).funcs.length := by
  unfold partR
  split <;> simp
/-- Both ways of telling a part agree. -/
theorem partR_eq (p : Prg) : (impR p && validB (partR (freshN p) p)) = partB p := by
  by_cases hall : ∀ i, i < p.funcs.length → (nth p.funcs i).code = [] → (nth p.funcs i).regs = (nth p.funcs i).params
  · have e : p.funcs.map closeR = p.funcs.map closeF := by
      refine List.map_congr_left fun f hf => ?_
      obtain ⟨i, hi, rfl⟩ := List.getElem_of_mem hf
      have := hall i hi
      rw [nth_eq _ _ hi] at this
      unfold closeR closeF
      by_cases h0 : p.funcs[i].code = []
      · rw [if_pos ⟨h0, this h0⟩, if_pos h0]
      · rw [if_neg (fun h => h0 h.1), if_neg h0]
    have e2 : partR (freshN p) p = partOf (freshN p) p := by unfold partR partOf; rw [e]
    have e3 : impR p = impB p := by
      unfold impR impB
      rw [Bool.eq_iff_iff, List.all_eq_true, List.all_eq_true]
      refine forall_congr' fun i => ?_
      rw [List.mem_range]
      refine forall_congr' fun hi => ?_
      have := hall i hi
      cases hc : (nth p.funcs i).code with
      | nil => rw [this hc]; simp
      | cons x l => simp
    unfold partB
    rw [e2, e3]
  · obtain ⟨i, hi, h1, h2⟩ : ∃ i, i < p.funcs.length ∧ (nth p.funcs i).code = [] ∧ (nth p.funcs i).regs ≠ (nth p.funcs i).params := by
      refine Classical.byContradiction fun hn => hall fun i hi h1 => Classical.byContradiction fun h2 => hn ⟨i, hi, h1, h2⟩
    have e1 : impB p = false := by
      unfold impB
      rw [List.all_eq_false]
      refine ⟨i, List.mem_range.2 hi, ?_⟩
      rw [h1]
      simp [h2]
    have e2 : validB (partR (freshN p) p) = false := by
      cases hv : validB (partR (freshN p) p) with
      | false => rfl
      | true =>
        have h3 := ((valid_iff _).1 hv).2.2.2.2.2.2.2.1 i (Nat.lt_of_lt_of_le hi (partR_len _ _))
        rw [partR_nth _ _ _ hi] at h3
        have h4 := funcB_code h3
        unfold closeR at h4
        rw [if_neg (fun h => h2 h.2)] at h4
        exact absurd h1 h4
    unfold partB
    rw [e1, e2]; simp

end Go.Proofs.Ytealeofgfgbheaa
