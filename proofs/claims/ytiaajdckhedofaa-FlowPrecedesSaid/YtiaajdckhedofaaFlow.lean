/-
  Blocks and instructions of a valid function: paths of one are paths of the other.
-/
import Derived.Test.YtiaajdckhedofaaJok
import Derived.Test.YtiaajdckhedofaaGraph
import Derived.Test.YtiaajdckhedofaaOrder
namespace Go.Proofs.Ytiaajdckhedofaa
set_option linter.unusedVariables false
set_option linter.unusedSimpArgs false
open Go.RowKit

/-- The blocks of the first m instructions. -/
structure Binv (c : List Ins) (m : Nat) : Prop where
  len : 0 < m → 0 < (bnd c m).length
  one : ∀ q, q < (bnd c m).length → (nth (bnd c m) q).1 < (nth (bnd c m) q).2 ∧ (nth (bnd c m) q).2 ≤ m ∧ lead c (nth (bnd c m) q).1 = true
  inn : ∀ q, q < (bnd c m).length → ∀ j, (nth (bnd c m) q).1 < j → j < (nth (bnd c m) q).2 → lead c j = false
  num : ∀ q, q < (bnd c m).length → ∀ j, (nth (bnd c m) q).1 ≤ j → j < (nth (bnd c m) q).2 → (bnd c (j + 1)).length = q + 1
  next : ∀ q, q + 1 < (bnd c m).length → (nth (bnd c m) (q + 1)).1 = (nth (bnd c m) q).2
  last : ∀ q, q + 1 = (bnd c m).length → (nth (bnd c m) q).2 = m
  first : 0 < (bnd c m).length → (nth (bnd c m) 0).1 = 0
  cover : ∀ k, k < m → ∃ q, q < (bnd c m).length ∧ (nth (bnd c m) q).1 ≤ k ∧ k < (nth (bnd c m) q).2

theorem binv (c : List Ins) : ∀ m, Binv c m := by
  intro m
  induction m with
  | zero => exact ⟨fun h => by omega, fun q hq => by simp [bnd] at hq, fun q hq => by simp [bnd] at hq, fun q hq => by simp [bnd] at hq, fun q hq => by simp [bnd] at hq, fun q hq => by simp [bnd] at hq, fun h => by simp [bnd] at h, fun k hk => by omega⟩
  | succ m ih =>
    cases hl : lead c m with
    | true =>
      have e : bnd c (m + 1) = bnd c m ++ [(m, m + 1)] := by rw [bnd, if_pos hl]
      have el := len_true c m hl
      have n1 : ∀ q, q < (bnd c m).length → nth (bnd c (m + 1)) q = nth (bnd c m) q := fun q hq => by rw [e]; exact nth_append_left _ _ _ hq
      have n2 : ∀ q, q = (bnd c m).length → nth (bnd c (m + 1)) q = (m, m + 1) := fun q hq => by rw [e]; exact nth_append_right' _ _ _ hq
      refine ⟨fun _ => by omega, fun q hq => ?_, fun q hq j h1 h2 => ?_, fun q hq j h1 h2 => ?_, fun q hq => ?_, fun q hq => ?_, fun _ => ?_, fun k hk => ?_⟩
      · rcases Nat.lt_or_ge q (bnd c m).length with h | h
        · rw [n1 q h]; have := ih.one q h; exact ⟨this.1, by omega, this.2.2⟩
        · rw [n2 q (by omega)]; exact ⟨by simp, by simp, hl⟩
      · rcases Nat.lt_or_ge q (bnd c m).length with h | h
        · rw [n1 q h] at h1 h2; exact ih.inn q h j h1 h2
        · rw [n2 q (by omega)] at h1 h2; simp at h1 h2; omega
      · rcases Nat.lt_or_ge q (bnd c m).length with h | h
        · rw [n1 q h] at h1 h2; exact ih.num q h j h1 h2
        · rw [n2 q (by omega)] at h1 h2
          simp at h1 h2
          obtain rfl : j = m := by omega
          omega
      · rcases Nat.lt_or_ge (q + 1) (bnd c m).length with h | h
        · rw [n1 q (by omega), n1 (q + 1) h]; exact ih.next q h
        · rw [n1 q (by omega), n2 (q + 1) (by omega), ih.last q (by omega)]
      · rw [n2 q (by omega)]
      · rcases Nat.lt_or_ge 0 (bnd c m).length with h | h
        · rw [n1 0 h]; exact ih.first h
        · rw [n2 0 (by omega)]
          rcases Nat.lt_or_ge 0 m with h2 | h2
          · have := ih.len h2; omega
          · simp; omega
      · rcases Nat.lt_or_ge k m with h | h
        · obtain ⟨q, h1, h2⟩ := ih.cover k h
          exact ⟨q, by omega, by rw [n1 q h1]; exact h2⟩
        · exact ⟨(bnd c m).length, by omega, by rw [n2 _ rfl]; simp; omega⟩
    | false =>
      have hm : 0 < m := by
        rcases Nat.eq_zero_or_pos m with h | h
        · subst h; rw [lead_zero] at hl; cases hl
        · exact h
      have hp := ih.len hm
      have e : bnd c (m + 1) = (bnd c m).set ((bnd c m).length - 1) ((nth (bnd c m) ((bnd c m).length - 1)).1, m + 1) := by rw [bnd, if_neg (by rw [hl]; simp)]
      have el := len_false c m hl
      have n1 : ∀ q, q + 1 < (bnd c m).length → nth (bnd c (m + 1)) q = nth (bnd c m) q := fun q hq => by
        rw [e, nth_set _ _ _ _ (by omega), if_neg (by omega)]
      have n2 : ∀ q, q + 1 = (bnd c m).length → nth (bnd c (m + 1)) q = ((nth (bnd c m) q).1, m + 1) := fun q hq => by
        rw [e, nth_set _ _ _ _ (by omega), if_pos (by omega), show (bnd c m).length - 1 = q by omega]
      refine ⟨fun _ => by omega, fun q hq => ?_, fun q hq j h1 h2 => ?_, fun q hq j h1 h2 => ?_, fun q hq => ?_, fun q hq => ?_, fun _ => ?_, fun k hk => ?_⟩
      · have := ih.one q (by omega)
        rcases Nat.lt_or_ge (q + 1) (bnd c m).length with h | h
        · rw [n1 q h]; exact ⟨this.1, by omega, this.2.2⟩
        · rw [n2 q (by omega)]; exact ⟨by simp; omega, by simp, this.2.2⟩
      · rcases Nat.lt_or_ge (q + 1) (bnd c m).length with h | h
        · rw [n1 q h] at h1 h2; exact ih.inn q (by omega) j h1 h2
        · rw [n2 q (by omega)] at h1 h2
          simp at h1 h2
          have h3 := ih.last q (by omega)
          rcases Nat.lt_or_ge j m with h4 | h4
          · exact ih.inn q (by omega) j h1 (by omega)
          · obtain rfl : j = m := by omega
            exact hl
      · rcases Nat.lt_or_ge (q + 1) (bnd c m).length with h | h
        · rw [n1 q h] at h1 h2; exact ih.num q (by omega) j h1 h2
        · rw [n2 q (by omega)] at h1 h2
          simp at h1 h2
          have h3 := ih.last q (by omega)
          rcases Nat.lt_or_ge j m with h4 | h4
          · exact ih.num q (by omega) j h1 (by omega)
          · obtain rfl : j = m := by omega
            omega
      · rw [n1 q (by omega)]
        rcases Nat.lt_or_ge (q + 1 + 1) (bnd c m).length with h | h
        · rw [n1 (q + 1) h]; exact ih.next q (by omega)
        · rw [n2 (q + 1) (by omega)]; exact ih.next q (by omega)
      · rw [n2 q (by omega)]
      · rcases Nat.lt_or_ge 1 (bnd c m).length with h | h
        · rw [n1 0 h]; exact ih.first hp
        · rw [n2 0 (by omega)]; exact ih.first hp
      · rcases Nat.lt_or_ge k m with h | h
        · obtain ⟨q, h1, h2, h3⟩ := ih.cover k h
          refine ⟨q, by omega, ?_⟩
          rcases Nat.lt_or_ge (q + 1) (bnd c m).length with h4 | h4
          · rw [n1 q h4]; exact ⟨h2, h3⟩
          · rw [n2 q (by omega)]; exact ⟨h2, by simp; omega⟩
        · have h5 := ih.one ((bnd c m).length - 1) (by omega)
          exact ⟨(bnd c m).length - 1, by omega, by rw [n2 _ (by omega)]; simp; omega⟩

def fr (c : List Ins) (q : Nat) : Nat := (nth (bnd c c.length) q).1
def to (c : List Ins) (q : Nat) : Nat := (nth (bnd c c.length) q).2
/-- The number of blocks. -/
def bN (c : List Ins) : Nat := (bnd c c.length).length

theorem numOf_eq (c : List Ins) (q j : Nat) (hq : q < bN c) (h1 : fr c q ≤ j) (h2 : j < to c q) : numOf c j = q := by
  unfold numOf
  rw [(binv c c.length).num q hq j h1 h2]; rfl
theorem numOf_in (c : List Ins) (k : Nat) (hk : k < c.length) : numOf c k < bN c ∧ fr c (numOf c k) ≤ k ∧ k < to c (numOf c k) := by
  obtain ⟨q, h1, h2, h3⟩ := (binv c c.length).cover k hk
  rw [numOf_eq c q k h1 h2 h3]
  exact ⟨h1, h2, h3⟩
theorem to_lead (c : List Ins) (q : Nat) (hq : q < bN c) (h : to c q < c.length) : lead c (to c q) = true := by
  rcases Nat.lt_or_ge (q + 1) (bN c) with h1 | h1
  · have := (binv c c.length).next q h1
    have h2 := ((binv c c.length).one (q + 1) h1).2.2
    rw [this] at h2; exact h2
  · have := (binv c c.length).last q (by unfold bN at *; omega)
    unfold to at h; omega
theorem lead_fr (c : List Ins) (q j : Nat) (hq : q < bN c) (h1 : fr c q ≤ j) (h2 : j < to c q) (h : lead c j = true) : j = fr c q := by
  rcases Nat.lt_or_ge (fr c q) j with h3 | h3
  · have := (binv c c.length).inn q hq j h3 h2
    rw [h] at this; cases this
  · omega
theorem fr_to (c : List Ins) (q : Nat) (hq : q < bN c) : fr c q < to c q ∧ to c q ≤ c.length ∧ lead c (fr c q) = true := (binv c c.length).one q hq
theorem blksL_at (c : List Ins) (q : Nat) (hq : q < bN c) : nth (blksL c) q = ⟨fr c q, to c q, setL (nums c (nth (bnd c c.length) q))⟩ := nth_map' _ _ _ hq
theorem nxL_mem (c : List Ins) (q : Nat) (hq : q < bN c) (y : Int) : y ∈ nxL c q ↔ ∃ x ∈ nextL c (headN c (to c q - 1)), y = (numOf c x.toNat : Int) := by
  unfold nxL
  rw [blksL_at c q hq, setL_mem]
  unfold nums to
  rw [List.mem_map]
  exact ⟨fun ⟨x, h, e⟩ => ⟨x, h, e.symm⟩, fun ⟨x, h, e⟩ => ⟨x, h, e.symm⟩⟩

/-- What makes j a leader. -/
def mkL (c : List Ins) (i j : Nat) : Prop := (jumps (nth c i).op ∧ (j = i + 1 ∨ j = (nth c i).c.toNat)) ∨ ((nth c i).op = 30 ∧ j = i + 1)
theorem leadStep_iff (c : List Ins) (i : Nat) (l : List Bool) (j : Nat) (hj : j < l.length) : nth (leadStep c i l) j = true ↔ nth l j = true ∨ mkL c i j := by
  unfold leadStep mkL
  by_cases h : jumps (nth c i).op
  · have h30 : ¬ (nth c i).op = 30 := by unfold jumps at h; omega
    rw [if_pos h, nth_set _ _ _ _ (by simpa using hj), nth_set _ _ _ _ hj]
    by_cases h1 : (nth c i).c.toNat = j
    · simp [h, h1]
    · by_cases h2 : i + 1 = j
      · simp [h, h1, h2]
      · have h1' : ¬ j = (nth c i).c.toNat := fun e => h1 e.symm
        have h2' : ¬ j = i + 1 := fun e => h2 e.symm
        simp [h1, h2, h1', h2']
  · rw [if_neg h]
    by_cases h3 : (nth c i).op = 30
    · rw [if_pos h3, nth_set _ _ _ _ hj]
      by_cases h2 : i + 1 = j
      · simp [h3, h2]
      · have h2' : ¬ j = i + 1 := fun e => h2 e.symm
        simp [h, h2, h2']
    · rw [if_neg h3]; simp [h, h3]
theorem leadN_iff (c : List Ins) (l : List Bool) (j : Nat) (hj : j < l.length) : ∀ m, nth (leadN c l m) j = true ↔ nth l j = true ∨ ∃ i, i < m ∧ mkL c i j
  | 0 => by simp [leadN]
  | m + 1 => by
    rw [leadN, leadStep_iff c m _ j (by rw [leadN_len]; exact hj), leadN_iff c l j hj m]
    constructor
    · rintro ((h | ⟨i, h, h2⟩) | h)
      · exact .inl h
      · exact .inr ⟨i, by omega, h2⟩
      · exact .inr ⟨m, by omega, h⟩
    · rintro (h | ⟨i, h, h2⟩)
      · exact .inl (.inl h)
      · rcases Nat.lt_or_ge i m with h3 | h3
        · exact .inl (.inr ⟨i, h3, h2⟩)
        · obtain rfl : i = m := by omega
          exact .inr h2
theorem lead_iff (c : List Ins) (j : Nat) (hj : j ≤ c.length) : lead c j = true ↔ j = 0 ∨ ∃ i, i < c.length ∧ mkL c i j := by
  unfold lead leadL
  rw [leadN_iff c _ j (by simp; omega), nth_set _ _ _ _ (by simp; omega)]
  have : nth (List.replicate (c.length + 1) false) j = false := by simp [nth, List.getElem?_replicate]; split <;> rfl
  rw [this]
  by_cases h : 0 = j
  · simp [h]
  · have h' : ¬ j = 0 := fun e => h e.symm
    simp [h, h']

section
variable {p : Prg} {f : Fun} (hf : Fok p f)
include hf

theorem Fok.leadCase (j : Nat) (hj : j < f.code.length) (h : lead f.code j = true) : (nth f.code j).op ≠ 51 := by
  rcases (lead_iff _ _ (by omega)).1 h with rfl | ⟨i, hi, h1⟩
  · exact hf.first
  · rcases h1 with ⟨h2, h3 | h3⟩ | ⟨h2, h3⟩
    · subst h3; exact hf.plain i hj (by unfold jumps at h2; omega) (by unfold jumps at h2; omega)
    · subst h3; exact (instr_jump (hf.ins i hi) h2).2.2
    · subst h3; exact hf.plain i hj (by omega) (by omega)

theorem Fok.next_in (k : Nat) (x : Int) (h : x ∈ nextL f.code k) : ∃ j : Nat, x = j ∧ j < f.code.length := by
  have := hf.jok.nx k (nextL_lt _ _ _ h) x h
  exact ⟨x.toNat, by omega, by omega⟩

omit hf in
theorem headN_self (c : List Ins) (k : Nat) (h : (nth c k).op ≠ 51) : headN c k = k := by
  cases k with
  | zero => rfl
  | succ k => rw [headN, if_neg h]
omit hf in
theorem headN_case (c : List Ins) : ∀ k j, headN c k < j → j ≤ k → (nth c j).op = 51 := by
  intro k
  induction k with
  | zero => intro j h1 h2; omega
  | succ k ih =>
    intro j h1 h2
    by_cases h : (nth c (k + 1)).op = 51
    · rw [headN, if_pos h] at h1
      rcases Nat.lt_or_ge j (k + 1) with h3 | h3
      · exact ih j h1 (by omega)
      · rw [show j = k + 1 by omega]; exact h
    · rw [headN, if_neg h] at h1; omega
theorem Fok.headOp (k : Nat) : (nth f.code (headN f.code k)).op ≠ 51 := by
  induction k with
  | zero => exact hf.first
  | succ k ih =>
    rw [headN]
    split
    · exact ih
    · assumption
theorem Fok.headSel (k : Nat) (hk : k < f.code.length) (h : headN f.code k < k) : (nth f.code (headN f.code k)).op = 50 ∧ (k : Int) ≤ headN f.code k + (nth f.code (headN f.code k)).b := by
  have h0 := hf.headOp k
  have h1 : (nth f.code (headN f.code k)).op = 50 := by
    rcases Classical.em ((nth f.code (headN f.code k)).op = 50) with h2 | h2
    · exact h2
    · exact absurd (headN_case f.code k _ (Nat.lt_succ_self _) h) (hf.plain _ (by omega) h2 h0)
  refine ⟨h1, ?_⟩
  obtain ⟨hb, _, hb2⟩ := hf.selEnd _ (by omega) h1
  rcases Int.lt_or_le (headN f.code k + (nth f.code (headN f.code k)).b) k with h2 | h2
  · exfalso
    have := hf.past _ (by omega) h1 (nth f.code (headN f.code k)).b.toNat (by omega) (by omega)
    exact this (headN_case f.code k _ (by omega) (by omega))
  · exact h2

/-- The head of a block's last instruction lies in the block. -/
theorem Fok.head_in (q : Nat) (hq : q < bN f.code) : fr f.code q ≤ headN f.code (to f.code q - 1) ∧ headN f.code (to f.code q - 1) ≤ to f.code q - 1 := by
  obtain ⟨h1, h2, h3⟩ := fr_to f.code q hq
  refine ⟨?_, headN_le _ _⟩
  rcases Nat.lt_or_ge (headN f.code (to f.code q - 1)) (fr f.code q) with h | h
  · exact absurd (headN_case f.code _ _ h (by omega)) (hf.leadCase _ (by omega) h3)
  · exact h

/-- What an instruction inside a block is followed by. -/
theorem Fok.inside (q i : Nat) (hq : q < bN f.code) (h1 : fr f.code q ≤ i) (h2 : i + 1 < to f.code q) (ho : (nth f.code i).op ≠ 51) :
    ∃ j : Nat, nextL f.code i = [(j : Int)] ∧ i < j ∧ j < f.code.length ∧ (nth f.code j).op ≠ 51 ∧ ∀ k, i < k → k < j → (nth f.code k).op = 51 := by
  obtain ⟨g1, g2, g3⟩ := fr_to f.code q hq
  have hl : lead f.code (i + 1) = false := (binv f.code f.code.length).inn q hq (i + 1) (by unfold fr at h1; omega) h2
  have hnl : ¬ mkL f.code i (i + 1) := fun h => by
    have := (lead_iff f.code (i + 1) (by omega)).2 (.inr ⟨i, by omega, h⟩)
    rw [hl] at this; cases this
  have hj : ¬ jumps (nth f.code i).op := fun h => hnl (.inl ⟨h, .inl rfl⟩)
  have h30 : ¬ (nth f.code i).op = 30 := fun h => hnl (.inr ⟨h, rfl⟩)
  unfold jumps at hj
  rw [nextL_in _ _ (by omega)]
  unfold nextIns
  rw [if_neg (by omega), if_neg (by omega), if_neg (by omega)]
  by_cases h50 : (nth f.code i).op = 50
  · rw [if_pos h50]
    obtain ⟨hb, hb2, hb3⟩ := hf.selEnd i (by omega) h50
    have hle := hf.le
    have e : wrapI ((i : Int) + 1 + (nth f.code i).b) = ((i + 1 + (nth f.code i).b.toNat : Nat) : Int) := by unfold wrapI wrap64; omega
    refine ⟨_, by rw [e], by omega, by omega, hf.past i (by omega) h50 _ (by omega) (by omega), fun k h3 h4 => ?_⟩
    have := hf.sel i (by omega) h50 (k - (i + 1)) (by omega) (by omega)
    rw [show i + 1 + (k - (i + 1)) = k by omega] at this
    exact this
  · rw [if_neg h50]
    exact ⟨i + 1, rfl, by omega, by omega, hf.plain i (by omega) h50 ho, fun k h3 h4 => by omega⟩

/-- What the last instruction of a block is followed by begins a block. -/
theorem Fok.leaves (q x : Nat) (hq : q < bN f.code) (h : (x : Int) ∈ nextL f.code (headN f.code (to f.code q - 1))) : lead f.code x = true := by
  obtain ⟨g1, g2, g3⟩ := fr_to f.code q hq
  obtain ⟨m1, m2⟩ := hf.head_in q hq
  have hx := hf.next_in _ _ h
  obtain ⟨x', hx1, hx2⟩ := hx
  obtain rfl : x = x' := by omega
  have hlt : headN f.code (to f.code q - 1) < f.code.length := by omega
  have hsel := hf.headSel (to f.code q - 1) (by omega)
  rw [nextL_in _ _ hlt] at h
  generalize headN f.code (to f.code q - 1) = hd at *
  have mk : ∀ j, mkL f.code hd j → j < f.code.length → lead f.code j = true := fun j h1 h2 => (lead_iff _ _ (by omega)).2 (.inr ⟨hd, hlt, h1⟩)
  have hto : to f.code q < f.code.length → (nth f.code (to f.code q)).op ≠ 51 := fun h => hf.leadCase _ h (to_lead _ q hq h)
  unfold nextIns at h
  split at h
  · simp at h
  · split at h
    · rename_i h16
      simp at h
      exact mk x (.inl ⟨.inl h16, .inr (by omega)⟩) hx2
    · split at h
      · rename_i h17
        rcases (pairL_mem _ _ _).1 h with e | e
        · exact mk x (.inl ⟨.inr h17, .inl (by omega)⟩) hx2
        · exact mk x (.inl ⟨.inr h17, .inr (by omega)⟩) hx2
      · split at h
        · rename_i h50
          obtain ⟨hb, hb2, hb3⟩ := hf.selEnd hd hlt h50
          have hle := hf.le
          have e : wrapI ((hd : Int) + 1 + (nth f.code hd).b) = (hd : Int) + 1 + (nth f.code hd).b := by unfold wrapI wrap64; omega
          rw [e] at h
          simp at h
          have : x = to f.code q := by
            have h6 : (to f.code q : Int) ≤ hd + 1 + (nth f.code hd).b := by
              rcases Nat.lt_or_ge hd (to f.code q - 1) with h5 | h5
              · have := (hsel h5).2; omega
              · omega
            rcases Int.lt_or_le (to f.code q) (hd + 1 + (nth f.code hd).b) with h5 | h5
            · exfalso
              have h7 := hf.sel hd hlt h50 (to f.code q - (hd + 1)) (by omega) (by omega)
              rw [show hd + 1 + (to f.code q - (hd + 1)) = to f.code q by omega] at h7
              exact hto (by omega) h7
            · omega
          rw [this]
          exact to_lead _ q hq (by omega)
        · rename_i h50
          simp at h
          have h8 : hd = to f.code q - 1 := by
            rcases Nat.lt_or_ge hd (to f.code q - 1) with h5 | h5
            · exact absurd (hsel h5).1 h50
            · omega
          have : x = to f.code q := by omega
          rw [this]
          exact to_lead _ q hq (by omega)

theorem Fok.through (wo : Int) (q : Nat) (hq : q < bN f.code) (hwo : ∀ i : Nat, fr f.code q ≤ i → i < to f.code q → (i : Int) ≠ wo) : ∀ d i : Nat, fr f.code q ≤ i → i ≤ headN f.code (to f.code q - 1) → headN f.code (to f.code q - 1) - i ≤ d → (nth f.code i).op ≠ 51 → Path f.code wo i → Path f.code wo (headN f.code (to f.code q - 1)) := by
  obtain ⟨m1, m2⟩ := hf.head_in q hq
  obtain ⟨g1, g2, g3⟩ := fr_to f.code q hq
  have hop := hf.headOp (to f.code q - 1)
  generalize headN f.code (to f.code q - 1) = hd at *
  intro d
  induction d with
  | zero => intro i h1 h2 h3 _ hp; rw [show hd = i by omega]; exact hp
  | succ d ih =>
    intro i h1 h2 h3 ho hp
    rcases Nat.lt_or_ge i hd with h4 | h4
    · obtain ⟨j, e1, e2, e3, e4, e5⟩ := hf.inside q i hq h1 (by omega) ho
      have hj : j ≤ hd := by
        rcases Nat.lt_or_ge hd j with h5 | h5
        · exact absurd (e5 hd h4 h5) hop
        · exact h5
      exact ih j (by omega) hj (by omega) e4 (.step i j hp (by rw [e1]; simp) (hwo j (by omega) (by omega)))
    · rw [show hd = i by omega]; exact hp

theorem Fok.path_of_blocks (wo : Int) (G : Nat → Prop) (hG : ∀ j, G j → j < bN f.code → ∀ i : Nat, fr f.code j ≤ i → i < to f.code j → (i : Int) ≠ wo) (q : Nat) (h : BP (nxL f.code) G q) : q < bN f.code ∧ Path f.code wo (fr f.code q) := by
  have hpos := (blksL_pos f.code hf.jok).1
  rw [blksL_len] at hpos
  induction h with
  | start h0 =>
    have e : fr f.code 0 = 0 := (binv f.code f.code.length).first hpos
    obtain ⟨g1, g2, g3⟩ := fr_to f.code 0 hpos
    refine ⟨hpos, ?_⟩
    have := hG 0 h0 hpos 0 (by omega) (by omega)
    rw [e]
    exact .start (fun e => this e.symm) (by omega)
  | step i j hp hx hj ih =>
    obtain ⟨hi, hpath⟩ := ih
    obtain ⟨x, hx1, hx2⟩ := (nxL_mem f.code i hi _).1 hx
    obtain ⟨x', rfl, hx3⟩ := hf.next_in _ _ hx1
    have hl := hf.leaves i x' hi hx1
    obtain ⟨n1, n2, n3⟩ := numOf_in f.code x' hx3
    have hjn : j = numOf f.code x' := by simp at hx2; omega
    rw [← hjn] at n1 n2 n3
    have hfr := lead_fr f.code j x' n1 n2 n3 hl
    obtain ⟨g1, g2, g3⟩ := fr_to f.code i hi
    obtain ⟨m1, m2⟩ := hf.head_in i hi
    refine ⟨n1, ?_⟩
    have hthr : Path f.code wo (headN f.code (to f.code i - 1)) := by
      refine hf.through wo i hi ?_ _ (fr f.code i) (Nat.le_refl _) m1 (Nat.le_refl _) (hf.leadCase _ (by omega) g3) hpath
      have : G i := by cases hp with
        | start h => exact h
        | step _ _ _ _ h => exact h
      exact hG i this hi
    rw [← hfr]
    exact .step _ _ hthr hx1 (hG j hj n1 x' n2 n3)

theorem Fok.blocks_of_path (k : Nat) (h : Path f.code (-1) k) : k < f.code.length ∧ (nth f.code k).op ≠ 51 ∧ BP (nxL f.code) (fun _ => True) (numOf f.code k) := by
  induction h with
  | start _ h0 =>
    refine ⟨h0, hf.first, ?_⟩
    have hpos := (blksL_pos f.code hf.jok).1
    rw [blksL_len] at hpos
    have e : fr f.code 0 = 0 := (binv f.code f.code.length).first hpos
    obtain ⟨g1, g2, g3⟩ := fr_to f.code 0 hpos
    rw [numOf_eq f.code 0 0 hpos (by omega) (by omega)]
    exact .start trivial
  | step i j _ hx _ ih =>
    obtain ⟨hi, ho, hb⟩ := ih
    obtain ⟨j', hj1, hj2⟩ := hf.next_in _ _ hx
    obtain rfl : j = j' := by omega
    obtain ⟨n1, n2, n3⟩ := numOf_in f.code i hi
    obtain ⟨m1, m2⟩ := hf.head_in _ n1
    obtain ⟨g1, g2, g3⟩ := fr_to f.code _ n1
    have hle : i ≤ headN f.code (to f.code (numOf f.code i) - 1) := by
      rcases Nat.lt_or_ge (headN f.code (to f.code (numOf f.code i) - 1)) i with h1 | h1
      · exact absurd (headN_case f.code _ i h1 (by omega)) ho
      · exact h1
    rcases Nat.lt_or_ge i (headN f.code (to f.code (numOf f.code i) - 1)) with h1 | h1
    · obtain ⟨y, e1, e2, e3, e4, e5⟩ := hf.inside _ i n1 n2 (by omega) ho
      rw [e1] at hx
      obtain rfl : j = y := by simp at hx; omega
      have hop := hf.headOp (to f.code (numOf f.code i) - 1)
      have hyle : j ≤ headN f.code (to f.code (numOf f.code i) - 1) := by
        rcases Nat.lt_or_ge (headN f.code (to f.code (numOf f.code i) - 1)) j with h5 | h5
        · exact absurd (e5 _ h1 h5) hop
        · exact h5
      refine ⟨e3, e4, ?_⟩
      rw [numOf_eq f.code _ j n1 (by omega) (by omega)]
      exact hb
    · have he : headN f.code (to f.code (numOf f.code i) - 1) = i := by omega
      have hl := hf.leaves _ j n1 (by rw [he]; exact hx)
      exact ⟨hj2, hf.leadCase j hj2 hl, .step _ _ hb ((nxL_mem _ _ n1 _).2 ⟨j, by rw [he]; exact hx, rfl⟩) trivial⟩

end

end Go.Proofs.Ytiaajdckhedofaa
