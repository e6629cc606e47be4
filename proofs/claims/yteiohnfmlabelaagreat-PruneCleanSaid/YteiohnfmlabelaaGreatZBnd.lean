/-
  Parts of the proof.
-/
import Derived.Test.YteiohnfmlabelaaGreatZAt
import Derived.Test.YteiohnfmlabelaaGreatZRNext
import Derived.Test.YteiohnfmlabelaaGreatZLeadG
import Derived.Test.YteiohnfmlabelaaGreatZREqual
namespace Go.Proofs.YteiohnfmlabelaaGreat
set_option linter.unusedVariables false
set_option linter.unusedSimpArgs false
open Go.RowKit

structure Blk where
  fr : Int
  to : Int
  next : List Int
instance : Inhabited Blk := ⟨⟨0, 0, []⟩⟩
/-- One block as its row holds it. -/
abbrev BRow := Int × Int × Slc
def bE : Enc BRow := ⟨3, fun x => [.int .i64 x.1, .int .i64 x.2.1, .slice x.2.2.a x.2.2.n x.2.2.c], fun _ => rfl, by simp [Value.oneCell'], by decide⟩


/-- Whether an instruction begins a block. -/
def lead (c : List Ins) (k : Nat) : Bool := nth (leadL c) k
/-- The blocks of the first k instructions. -/
def bnd (c : List Ins) : Nat → List (Nat × Nat)
  | 0 => []
  | k + 1 => if lead c k then bnd c k ++ [(k, k + 1)] else (bnd c k).set ((bnd c k).length - 1) ((nth (bnd c k) ((bnd c k).length - 1)).1, k + 1)
/-- The number of an instruction's block. -/
def numOf (c : List Ins) (k : Nat) : Nat := (bnd c (k + 1)).length - 1
/-- The numbers of the blocks that may follow. -/
def nums (c : List Ins) (b : Nat × Nat) : List Int := (nextL c (headN c (b.2 - 1))).map fun x => (numOf c x.toNat : Int)
def blkOf (c : List Ins) (b : Nat × Nat) : Blk := ⟨b.1, b.2, setL (nums c b)⟩
/-- The basic blocks of a function. -/
def blksL (c : List Ins) : List Blk := (bnd c c.length).map (blkOf c)

theorem nth_map' {α β : Type} [Inhabited α] [Inhabited β] (f : α → β) (l : List α) (i : Nat) (h : i < l.length) : nth (l.map f) i = f (nth l i) := by
  rw [nth_eq _ _ (by simpa using h), nth_eq _ _ h, List.getElem_map]

theorem leadStep_true (c : List Ins) (i : Nat) (l : List Bool) (j : Nat) (hj : j < l.length) (h : nth l j = true) : nth (leadStep c i l) j = true := by
  unfold leadStep
  split
  · rw [nth_set _ _ _ _ (by simpa using hj), nth_set _ _ _ _ hj, h]; simp
  · split
    · rw [nth_set _ _ _ _ hj, h]; simp
    · exact h
theorem lead_zero (c : List Ins) : lead c 0 = true := by
  unfold lead leadL
  generalize hn : c.length = n
  have hl : ∀ k, nth (leadN c ((List.replicate (n + 1) false).set 0 true) k) 0 = true := by
    intro k
    induction k with
    | zero => rfl
    | succ k ih => exact leadStep_true c k _ 0 (by rw [leadN_len]; simp) ih
  exact hl n
theorem bnd_pos (c : List Ins) (k : Nat) : 0 < (bnd c (k + 1)).length := by
  induction k with
  | zero => simp [bnd, lead_zero]
  | succ k ih =>
    rw [bnd]
    split
    · simp
    · rw [List.length_set]; exact ih
theorem bnd_le (c : List Ins) (k : Nat) : (bnd c k).length ≤ k := by
  induction k with
  | zero => exact Nat.le_refl _
  | succ k ih =>
    rw [bnd]
    split
    · simp; exact ih
    · rw [List.length_set]; omega
theorem bnd_mono (c : List Ins) (k : Nat) : (bnd c k).length ≤ (bnd c (k + 1)).length := by
  rw [bnd]
  split
  · simp
  · rw [List.length_set]; omega
theorem bnd_mono' (c : List Ins) (k m : Nat) (h : k ≤ m) : (bnd c k).length ≤ (bnd c m).length := by
  induction h with
  | refl => exact Nat.le_refl _
  | step h ih => exact Nat.le_trans ih (bnd_mono c _)
theorem numOf_lt (c : List Ins) (k : Nat) (h : k < c.length) : numOf c k < (bnd c c.length).length := by
  have h1 := bnd_pos c k
  have h2 := bnd_mono' c (k + 1) c.length h
  unfold numOf; omega

theorem nth_append_right' {α : Type} [Inhabited α] (l : List α) (x : α) (i : Nat) (h : i = l.length) : nth (l ++ [x]) i = x := by
  subst h
  rw [nth_eq _ _ (by simp)]; simp
def bRows (l : List (Nat × Nat)) : List BRow := l.map fun b => (b.1, b.2, (⟨none, 0, 0⟩ : Slc))
theorem bRows_len (l : List (Nat × Nat)) : (bRows l).length = l.length := by simp [bRows]

theorem nth_bRows (l : List (Nat × Nat)) (i : Nat) (h : i < l.length) : nth (bRows l) i = (((nth l i).1 : Int), ((nth l i).2 : Int), (⟨none, 0, 0⟩ : Slc)) := nth_map' _ _ _ h
theorem bRows_true (c : List Ins) (k : Nat) (h : lead c k = true) : (bRows (bnd c k) ++ [((k : Int), 0, (⟨none, 0, 0⟩ : Slc))]).set (bnd c k).length ((k : Int), (k : Int) + 1, (⟨none, 0, 0⟩ : Slc)) = bRows (bnd c (k + 1)) := by
  rw [bnd, if_pos h, List.set_append_right _ _ (by rw [bRows_len]; exact Nat.le_refl _), bRows_len, Nat.sub_self]
  simp [bRows]
theorem bRows_false (c : List Ins) (k m : Nat) (h : lead c k = false) (hm : (bnd c k).length = m + 1) : (bRows (bnd c k)).set m (((nth (bnd c k) m).1 : Int), (k : Int) + 1, (⟨none, 0, 0⟩ : Slc)) = bRows (bnd c (k + 1)) := by
  rw [bnd, if_neg (by rw [h]; simp), hm, Nat.add_sub_cancel]
  simp [bRows, List.map_set]
theorem len_true (c : List Ins) (k : Nat) (h : lead c k = true) : (bnd c (k + 1)).length = (bnd c k).length + 1 := by rw [bnd, if_pos h]; simp
theorem len_false (c : List Ins) (k : Nat) (h : lead c k = false) : (bnd c (k + 1)).length = (bnd c k).length := by rw [bnd, if_neg (by rw [h]; simp)]; simp

theorem bnd_in (c : List Ins) (k : Nat) : ∀ q, q < (bnd c k).length → (nth (bnd c k) q).1 < (nth (bnd c k) q).2 ∧ (nth (bnd c k) q).2 ≤ k := by
  induction k with
  | zero => intro q hq; simp [bnd] at hq
  | succ k ih =>
    intro q hq
    rw [bnd] at hq ⊢
    split at hq
    · rename_i h
      rw [if_pos h]
      rcases Nat.lt_or_ge q (bnd c k).length with h2 | h2
      · rw [nth_append_left _ _ _ h2]
        have := ih q h2
        omega
      · rw [nth_append_right' _ _ _ (by simp at hq; omega)]
        exact ⟨Nat.lt_succ_self _, Nat.le_refl _⟩
    · rename_i h
      rw [if_neg h]
      rw [List.length_set] at hq
      have := ih q hq
      rw [nth_set _ _ _ _ hq]
      split
      · rename_i e
        rw [← e]
        exact ⟨by omega, Nat.le_refl _⟩
      · omega

/-- The last block of the first i instructions. -/
def lastB (c : List Ins) (i : Nat) : Nat × Nat := nth (bnd c i) ((bnd c i).length - 1)
theorem lastB_true (c : List Ins) (i : Nat) (h : lead c i = true) : lastB c (i + 1) = (i, i + 1) := by
  unfold lastB
  rw [bnd, if_pos h, nth_append_right' _ _ _ (by simp)]
theorem lastB_false (c : List Ins) (i : Nat) (h0 : 0 < i) (h : lead c i = false) : lastB c (i + 1) = ((lastB c i).1, i + 1) := by
  have hp := bnd_pos c (i - 1)
  rw [Nat.sub_add_cancel h0] at hp
  unfold lastB
  rw [bnd, if_neg (by rw [h]; simp), List.length_set, nth_set _ _ _ _ (by omega), if_pos rfl]
theorem dropLast_true (c : List Ins) (i : Nat) (h : lead c i = true) : (bnd c (i + 1)).dropLast = bnd c i := by
  rw [bnd, if_pos h, List.dropLast_concat]
theorem dropLast_set {α : Type} (l : List α) (x : α) : (l.set (l.length - 1) x).dropLast = l.dropLast := by
  rw [List.dropLast_eq_take, List.dropLast_eq_take, List.length_set, List.take_set_of_le (Nat.le_refl _)]
theorem dropLast_false (c : List Ins) (i : Nat) (h : lead c i = false) : (bnd c (i + 1)).dropLast = (bnd c i).dropLast := by
  rw [bnd, if_neg (by rw [h]; simp), dropLast_set]
theorem dropLast_last {α : Type} [Inhabited α] (l : List α) (h : 0 < l.length) : l.dropLast ++ [nth l (l.length - 1)] = l := by
  have hne : l ≠ [] := by intro e; rw [e] at h; cases h
  rw [nth_eq _ _ (by omega), ← List.getLast_eq_getElem hne]
  exact List.dropLast_concat_getLast hne
/-- What is known of the last block. -/
theorem lastB_in (c : List Ins) (i : Nat) (h0 : 0 < i) : (lastB c i).1 < i ∧ (lastB c i).2 = i ∧ ∀ k, (lastB c i).1 ≤ k → k < i → (bnd c (k + 1)).length = (bnd c i).length := by
  induction i with
  | zero => omega
  | succ i ih =>
    cases h : lead c i with
    | true =>
      rw [lastB_true c i h]
      refine ⟨Nat.lt_succ_self _, rfl, fun k h1 h2 => ?_⟩
      have : k = i := by simp at h1; omega
      rw [this]
    | false =>
      have hi : 0 < i := by
        rcases Nat.eq_zero_or_pos i with e | e
        · subst e; rw [lead_zero] at h; cases h
        · exact e
      rw [lastB_false c i hi h]
      obtain ⟨h1, h2, h3⟩ := ih hi
      refine ⟨by simp; omega, rfl, fun k h4 h5 => ?_⟩
      rcases Nat.lt_succ_iff_lt_or_eq.1 h5 with e | e
      · rw [h3 k h4 e, len_false c i h]
      · rw [e]

/-- The blocks that flow has made before it looks at instruction i. -/
def doneL (c : List Ins) (i : Nat) : List (Nat × Nat) := if i ≤ c.length then (bnd c i).dropLast else bnd c c.length
def fromI (c : List Ins) (i : Nat) : Nat := if i ≤ c.length then (lastB c i).1 else c.length
theorem doneL_false (c : List Ins) (i : Nat) (hi : i < c.length) (h : lead c i = false) : doneL c (i + 1) = doneL c i := by
  unfold doneL; rw [if_pos (by omega), if_pos (by omega), dropLast_false c i h]
theorem fromI_false (c : List Ins) (i : Nat) (h0 : 0 < i) (hi : i < c.length) (h : lead c i = false) : fromI c (i + 1) = fromI c i := by
  unfold fromI; rw [if_pos (by omega), if_pos (by omega), lastB_false c i h0 h]
theorem doneL_true (c : List Ins) (i : Nat) (hi : i ≤ c.length) (h : i < c.length → lead c i = true) : doneL c (i + 1) = bnd c i := by
  unfold doneL
  split
  · exact dropLast_true c i (h (by omega))
  · have : i = c.length := by omega
    rw [this]
theorem fromI_true (c : List Ins) (i : Nat) (hi : i ≤ c.length) (h : i < c.length → lead c i = true) : fromI c (i + 1) = i := by
  unfold fromI
  split
  · rw [lastB_true c i (h (by omega))]
  · omega
theorem doneL_len (c : List Ins) (i : Nat) (hi : i ≤ c.length) : (doneL c i).length = (bnd c i).length - 1 := by
  unfold doneL; rw [if_pos hi, List.length_dropLast]
theorem doneL_last (c : List Ins) (i : Nat) (h0 : 0 < i) (hi : i ≤ c.length) : doneL c i ++ [(fromI c i, i)] = bnd c i := by
  have hp := bnd_pos c (i - 1)
  rw [Nat.sub_add_cancel h0] at hp
  unfold doneL fromI
  rw [if_pos hi, if_pos hi]
  have e : ((lastB c i).1, i) = nth (bnd c i) ((bnd c i).length - 1) := by
    have := (lastB_in c i h0).2.1
    show _ = lastB c i
    exact Prod.ext rfl this.symm
  rw [e]
  exact dropLast_last _ hp


end Go.Proofs.YteiohnfmlabelaaGreat

namespace Go.Proofs.YteiohnfmlabelaaGreat
set_option linter.unusedVariables false
set_option linter.unusedSimpArgs false
open Go.RowKit

theorem Keep.store {lo : Nat} (w : World) (a : Addr) (u : Value) (h : a.block < lo) : Keep lo w (w.setCell a u) := fun k hk _ => Go.Deep.blk_setCell_other _ _ _ _ (by omega)

/-- The rows of the blocks, while the numbers of the next blocks are put in: those below i are done, those above are empty. -/
structure Stage (c : List Ins) (base lo : Nat) (w : World) (v : Value) (rows : List BRow) (i : Nat) : Prop where
  len : rows.length = (bnd c c.length).length
  own : OwnE bE base 37 w v rows
  fr : ∀ q, q < rows.length → (nth rows q).1 = ((nth (bnd c c.length) q).1 : Int) ∧ (nth rows q).2.1 = ((nth (bnd c c.length) q).2 : Int)
  done : ∀ q, q < i → q < rows.length → IntsAt lo w (nth rows q).2.2.val (setL (nums c (nth (bnd c c.length) q)))
  rest : ∀ q, i < q → q < rows.length → (nth rows q).2.2 = ⟨none, 0, 0⟩

theorem Stage.keep {c : List Ins} {base lo : Nat} {w w' : World} {v : Value} {rows : List BRow} {i : Nat} (h : Stage c base lo w v rows i) (hb : Keep base w w') (hl : base ≤ lo) : Stage c base lo w' v rows i :=
  ⟨h.len, h.own.ofBlock fun k hk => hb k (h.own.lt k hk).1 (h.own.lt k hk).2, h.fr, fun q hq hq2 => (h.done q hq hq2).keep (hb.mono hl), h.rest⟩
theorem Stage.below {c : List Ins} {base lo : Nat} {w w' : World} {v : Value} {rows : List BRow} {i : Nat} (h : Stage c base lo w v rows i) (hb : Below w.heap.size w w') : Stage c base lo w' v rows i :=
  ⟨h.len, h.own.ofBlock fun k hk => hb.block k (h.own.lt k hk).2, h.fr, fun q hq hq2 => (h.done q hq hq2).below hb, h.rest⟩
theorem Stage.put {c : List Ins} {base lo : Nat} {w : World} {g n cap : Nat} {rows : List BRow} {i : Nat} (h : Stage c base lo w (.slice (some ⟨g, 0, none⟩) n cap) rows i) (hi : i < rows.length) (hg : g < lo) (x : Slc) :
    Stage c base lo (w.setCell ⟨g, i * 3 + 2, none⟩ (.slice x.a x.n x.c)) (.slice (some ⟨g, 0, none⟩) n cap) (rows.set i ((nth rows i).1, (nth rows i).2.1, x)) i := by
  refine ⟨by rw [List.length_set]; exact h.len, h.own.put i 2 _ _ hi (by decide) rfl, fun q hq => ?_, fun q hq hq2 => ?_, fun q hq hq2 => ?_⟩
  · rw [List.length_set] at hq
    rw [nth_set _ _ _ _ hq]
    split
    · rename_i e; subst e; exact h.fr q hq
    · exact h.fr q hq
  · rw [List.length_set] at hq2
    rw [nth_set _ _ _ _ hq2, if_neg (by omega)]
    exact (h.done q hq hq2).keep (Keep.store _ _ _ hg)
  · rw [List.length_set] at hq2
    rw [nth_set _ _ _ _ hq2, if_neg (by omega)]
    exact h.rest q hq hq2
theorem Stage.next {c : List Ins} {base lo : Nat} {w : World} {v : Value} {rows : List BRow} {i : Nat} (h : Stage c base lo w v rows i) (hd : i < rows.length → IntsAt lo w (nth rows i).2.2.val (setL (nums c (nth (bnd c c.length) i)))) : Stage c base lo w v rows (i + 1) := by
  refine ⟨h.len, h.own, h.fr, fun q hq hq2 => ?_, fun q hq hq2 => h.rest q (by omega) hq2⟩
  rcases Nat.lt_succ_iff_lt_or_eq.1 hq with e | e
  · exact h.done q e hq2
  · subst e; exact hd hq2

theorem Stage.setAt {c : List Ins} {base lo : Nat} {w w' : World} {v : Value} {rows : List BRow} {i : Nat} (h : Stage c base lo w v rows i) (hk : Keep lo w w') (x : Slc) (ho : OwnE bE base 37 w' v (rows.set i ((nth rows i).1, (nth rows i).2.1, x))) :
    Stage c base lo w' v (rows.set i ((nth rows i).1, (nth rows i).2.1, x)) i := by
  refine ⟨by rw [List.length_set]; exact h.len, ho, fun q hq => ?_, fun q hq hq2 => ?_, fun q hq hq2 => ?_⟩
  · rw [List.length_set] at hq
    rw [nth_set _ _ _ _ hq]
    split
    · rename_i e; subst e; exact h.fr q hq
    · exact h.fr q hq
  · rw [List.length_set] at hq2
    rw [nth_set _ _ _ _ hq2, if_neg (by omega)]
    exact (h.done q hq hq2).keep hk
  · rw [List.length_set] at hq2
    rw [nth_set _ _ _ _ hq2, if_neg (by omega)]
    exact h.rest q hq hq2
theorem set_nth_self {α : Type} [Inhabited α] (l : List α) (i : Nat) (h : i < l.length) : l.set i (nth l i) = l := by
  rw [nth_eq _ _ h]; exact List.set_getElem_self h

/-- A slice of blocks. -/
def BlksAt (lo : Nat) (w : World) (v : Value) (l : List Blk) : Prop := ∃ rows : List BRow, rows.length = l.length ∧ SlE bE lo w v rows ∧ ∀ q, q < l.length → (nth rows q).1 = (nth l q).fr ∧ (nth rows q).2.1 = (nth l q).to ∧ IntsAt lo w (nth rows q).2.2.val (nth l q).next
theorem BlksAt.keep {lo : Nat} {w w' : World} {v : Value} {l : List Blk} (h : BlksAt lo w v l) (hk : Keep lo w w') : BlksAt lo w' v l := by
  obtain ⟨rows, h1, h2, h3⟩ := h
  exact ⟨rows, h1, h2.keep hk, fun q hq => ⟨(h3 q hq).1, (h3 q hq).2.1, (h3 q hq).2.2.keep hk⟩⟩
theorem BlksAt.below {lo : Nat} {w w' : World} {v : Value} {l : List Blk} (h : BlksAt lo w v l) (hk : Below w.heap.size w w') : BlksAt lo w' v l := h.keep (Keep.below hk)
theorem BlksAt.mono {lo lo' : Nat} {w : World} {v : Value} {l : List Blk} (h : BlksAt lo w v l) (hk : lo' ≤ lo) : BlksAt lo' w v l := by
  obtain ⟨rows, h1, h2, h3⟩ := h
  exact ⟨rows, h1, h2.mono hk, fun q hq => ⟨(h3 q hq).1, (h3 q hq).2.1, (h3 q hq).2.2.mono hk⟩⟩
theorem Stage.end {c : List Ins} {base lo : Nat} {w : World} {v : Value} {rows : List BRow} {i : Nat} (h : Stage c base lo w v rows i) (hi : rows.length ≤ i) (hl : base ≤ lo) (hc : c.length ≤ 1000) : BlksAt base w v (blksL c) := by
  have hlen : rows.length = (blksL c).length := by rw [h.len, blksL, List.length_map]
  have hle := bnd_le c c.length
  refine ⟨rows, hlen, h.own.sl (Nat.le_refl _) (by rw [h.len]; omega), fun q hq => ?_⟩
  have hq2 : q < (bnd c c.length).length := by rw [← h.len, hlen]; exact hq
  rw [blksL, nth_map' _ _ _ hq2]
  exact ⟨(h.fr q (by omega)).1, (h.fr q (by omega)).2, (h.done q (by omega) (by omega)).mono hl⟩
theorem Stage.start {c : List Ins} {base lo : Nat} {w : World} {v : Value} (h : OwnE bE base 37 w v (bRows (bnd c c.length))) : Stage c base lo w v (bRows (bnd c c.length)) 0 :=
  ⟨bRows_len _, h, fun q hq => by rw [bRows_len] at hq; rw [nth_bRows _ _ hq]; exact ⟨rfl, rfl⟩, fun q hq => by omega, fun q _ hq => by rw [bRows_len] at hq; rw [nth_bRows _ _ hq]⟩
theorem rows_nil (c : List Ins) (hq : 0 < (bnd c c.length).length) : (nth (bRows (bnd c c.length)) 0).2.2 = ⟨none, 0, 0⟩ := by rw [nth_bRows _ _ hq]

/-- The union, one by one. -/
def foldW (l : List Int) : List Int := l.foldl withL []
theorem withL_len (l : List Int) (n : Int) : (withL l n).length ≤ l.length + 1 := by
  unfold withL
  split
  · omega
  · simp; omega
theorem foldW_setL (l : List Int) : foldW l = setL l := foldl_setL l
theorem withL_pos (l : List Int) (n : Int) : 0 < (withL l n).length := by
  unfold withL
  split
  · omega
  · simp; omega
theorem foldl_withL_len (l : List Int) : ∀ acc : List Int, (l.foldl withL acc).length ≤ acc.length + l.length := by
  induction l with
  | nil => intro acc; simp
  | cons x l ih =>
    intro acc
    rw [List.foldl_cons]
    have := ih (withL acc x)
    have h2 := withL_len acc x
    simp only [List.length_cons]; omega
theorem foldW_len (l : List Int) : (foldW l).length ≤ l.length := by have := foldl_withL_len l []; simpa [foldW] using this
theorem foldW_snoc (l : List Int) (x : Int) : foldW (l ++ [x]) = withL (foldW l) x := by simp [foldW]
theorem take_succ_nth {α : Type} [Inhabited α] (l : List α) (k : Nat) (h : k < l.length) : l.take (k + 1) = l.take k ++ [nth l k] := by
  rw [nth_eq _ _ h, List.take_add_one, List.getElem?_eq_getElem h]; rfl
theorem nextL_len (c : List Ins) (k : Nat) : (nextL c k).length ≤ 2 := by
  unfold nextL
  split
  · unfold nextIns pairL
    repeat' split
    all_goals simp
  · simp

end Go.Proofs.YteiohnfmlabelaaGreat

/-
  A list of blocks, cell by cell.
-/
namespace Go.Proofs.YteiohnfmlabelaaGreat
set_option linter.unusedVariables false
set_option linter.unusedSimpArgs false
open Go.RowKit

theorem BlksAt.open {lo : Nat} {w : World} {v : Value} {l : List Blk} (h : BlksAt lo w v l) : ∃ a c b o, ∃ S : Nat → Slc, v = .slice a l.length c ∧ (0 < l.length → a = some ⟨b, o, none⟩) ∧
    (∀ i, i < l.length → w.cell? ⟨b, o + i * 3, none⟩ = some (.int .i64 (nth l i).fr)) ∧ (∀ i, i < l.length → w.cell? ⟨b, o + i * 3 + 1, none⟩ = some (.int .i64 (nth l i).to)) ∧
    (∀ i, i < l.length → w.cell? ⟨b, o + i * 3 + 2, none⟩ = some (.slice (S i).a (nth l i).next.length (S i).c)) ∧
    (∀ i, i < l.length → IntsAt lo w (.slice (S i).a (nth l i).next.length (S i).c) (nth l i).next) ∧
    (0 < l.length → b < w.heap.size) ∧ (0 < l.length → lo ≤ b) ∧ l.length ≤ c ∧ c ≤ maxLen ∧ l.length ≤ 140737488355328 := by
  obtain ⟨rows, e1, hsl, hrow⟩ := h
  unfold SlE at hsl
  rw [e1] at hsl
  obtain ⟨a, c, b, o, rfl, hnil, hp, hc, h1, h2, h3⟩ := hsl
  have c0 : ∀ i, i < l.length → w.cell? ⟨b, o + i * 3, none⟩ = some (.int .i64 (nth l i).fr) := fun i hi => by
    have := hc i 0 hi (by decide)
    rw [← (hrow i hi).1]; exact this
  have hlen : ∀ i, i < l.length → (nth rows i).2.2.n = (nth l i).next.length := fun i hi => SlE.len (hrow i hi).2.2
  refine ⟨a, c, b, o, fun i => (nth rows i).2.2, rfl, fun h0 => (hp h0).1, c0, fun i hi => ?_, fun i hi => ?_, fun i hi => ?_, fun h0 => World.block_lt_of_cell? _ _ (c0 0 h0), fun h0 => (hp h0).2, h1, h2, h3⟩
  · have := hc i 1 hi (by decide)
    rw [← (hrow i hi).2.1]; exact this
  · have := hc i 2 hi (by decide)
    rw [← hlen i hi]; exact this
  · have := (hrow i hi).2.2
    rw [← hlen i hi]; exact this

end Go.Proofs.YteiohnfmlabelaaGreat
