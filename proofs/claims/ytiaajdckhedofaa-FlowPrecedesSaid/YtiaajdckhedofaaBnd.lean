import Derived.Test.YtiaajdckhedofaaLead
import Derived.Test.YtiaajdckhedofaaAppend
import Derived.Test.YtiaajdckhedofaaPAt
import Derived.Test.YtiaajdckhedofaaRNext
import Derived.Test.YtiaajdckhedofaaSpec09
namespace Go.Proofs.Ytiaajdckhedofaa
set_option linter.unusedVariables false
set_option linter.unusedSimpArgs false
open Go.RowKit

structure Blk where
  fr : Int
  to : Int
  next : List Int
instance : Inhabited Blk := ⟨⟨0, 0, []⟩⟩
/-- One block as its row holds it. -/
abbrev BRow := Int × Int × Slc
def bE : Enc BRow := ⟨3, fun x => [.int .i64 x.1, .int .i64 x.2.1, .slice x.2.2.a x.2.2.n x.2.2.c], fun _ => rfl, by simp [Value.oneCell'], by decide⟩

theorem nth_flatMap {α : Type} [Inhabited α] (E : Enc α) (l : List α) (i k : Nat) (hi : i < l.length) (hk : k < E.sz) : (l.flatMap E.enc)[i * E.sz + k]? = some (nth (E.enc (nth l i)) k) := by
  induction l generalizing i with
  | nil => simp at hi
  | cons x l ih =>
    rw [List.flatMap_cons]
    cases i with
    | zero =>
      rw [Nat.zero_mul, Nat.zero_add, List.getElem?_append_left (by rw [E.len]; exact hk), List.getElem?_eq_getElem (by rw [E.len]; exact hk), nth_eq _ _ (by rw [E.len]; exact hk)]
      congr 1
    | succ i =>
      have e : (i + 1) * E.sz + k = (E.enc x).length + (i * E.sz + k) := by rw [E.len, Nat.add_mul]; omega
      rw [e, List.getElem?_append_right (by omega), Nat.add_sub_cancel_left, ih i (by simpa using hi)]
      rfl
theorem set_flatMap {α : Type} [Inhabited α] (E : Enc α) (l : List α) (i k : Nat) (u : Value) (x' : α) (hi : i < l.length) (hk : k < E.sz) (hx : E.enc x' = (E.enc (nth l i)).set k u) : (l.flatMap E.enc).set (i * E.sz + k) u = (l.set i x').flatMap E.enc := by
  induction l generalizing i with
  | nil => simp at hi
  | cons x l ih =>
    rw [List.flatMap_cons]
    cases i with
    | zero =>
      rw [Nat.zero_mul, Nat.zero_add, List.set_append_left _ _ (by rw [E.len]; exact hk), List.set_cons_zero, List.flatMap_cons, hx]
      rfl
    | succ i =>
      have e : (i + 1) * E.sz + k = (E.enc x).length + (i * E.sz + k) := by rw [E.len, Nat.add_mul]; omega
      rw [e, List.set_append_right _ _ (by omega), Nat.add_sub_cancel_left, ih i (by simpa using hi) hx, List.set_cons_succ, List.flatMap_cons]

section
variable {α : Type} [Inhabited α] {E : Enc α} {base : Nat} {e : TypeId} {w : World}

omit [Inhabited α] in
theorem OwnE.open {v : Value} {l : List α} (h : OwnE E base e w v l) (h0 : 0 < l.length) :
    ∃ g cap, v = .slice (some ⟨g, 0, none⟩) l.length cap ∧ base ≤ g ∧ g < w.heap.size := by
  rcases h.2 with ⟨_, hn⟩ | ⟨g, cap, cur, hv, hb, hg, _⟩
  · omega
  · exact ⟨g, cap, hv, hb, (Array.getElem?_eq_some_iff.1 hg).1⟩
omit [Inhabited α] in
theorem OwnE.anySlice {v : Value} {l : List α} (h : OwnE E base e w v l) : ∃ a cap, v = .slice a l.length cap := by
  rcases h.2 with ⟨hv, hn⟩ | ⟨g, cap, cur, hv, hb, hg, _⟩
  · exact ⟨none, 0, by rw [hv, hn]⟩
  · exact ⟨_, _, hv⟩
theorem OwnE.cellAt {g n cap : Nat} {l : List α} (h : OwnE E base e w (.slice (some ⟨g, 0, none⟩) n cap) l) (i k : Nat) (hi : i < l.length) (hk : k < E.sz) : w.cell? ⟨g, i * E.sz + k, none⟩ = some (nth (E.enc (nth l i)) k) := by
  have hn : l.length = n := by
    rcases h.2 with ⟨h', _⟩ | ⟨g', cap', cur, h', _⟩
    · simp at h'
    · simp at h'; omega
  subst hn
  have hlt : i * E.sz + k < l.length * E.sz := by
    have : (i + 1) * E.sz ≤ l.length * E.sz := Nat.mul_le_mul_right _ hi
    rw [Nat.add_mul] at this; omega
  rw [World.ownsRow.cellAt h _ hlt]
  exact nth_flatMap E l i k hi hk
omit [Inhabited α] in
theorem OwnE.frozenAt {g n cap : Nat} {l : List α} (h : OwnE E base e w (.slice (some ⟨g, 0, none⟩) n cap) l) (j : Nat) : w.frozen? ⟨g, j, none⟩ = false := by
  have hn : l.length = n := by
    rcases h.2 with ⟨h', _⟩ | ⟨g', cap', cur, h', _⟩
    · simp at h'
    · simp at h'; omega
  subst hn
  exact World.ownsRow.frozenAt h j
theorem OwnE.put {g n cap : Nat} {l : List α} (h : OwnE E base e w (.slice (some ⟨g, 0, none⟩) n cap) l) (i k : Nat) (u : Value) (x' : α) (hi : i < l.length) (hk : k < E.sz) (hx : E.enc x' = (E.enc (nth l i)).set k u) :
    OwnE E base e (w.setCell ⟨g, i * E.sz + k, none⟩ u) (.slice (some ⟨g, 0, none⟩) n cap) (l.set i x') := by
  have hn : l.length = n := by
    rcases h.2 with ⟨h', _⟩ | ⟨g', cap', cur, h', _⟩
    · simp at h'
    · simp at h'; omega
  subst hn
  have := (World.ownsRow.stored h (i * E.sz + k) u).1
  unfold OwnE
  rw [List.length_set, ← set_flatMap E l i k u x' hi hk hx]
  exact this
omit [Inhabited α] in
theorem OwnE.ofBlock {w' : World} {v : Value} {l : List α} (h : OwnE E base e w v l) (hb : ∀ k, v.ownBlock = some k → w'.heap[k]? = w.heap[k]?) : OwnE E base e w' v l := by
  refine ⟨h.1, ?_⟩
  rcases h.2 with h0 | ⟨g, cap, cur, hv, hbg, hg, r⟩
  · exact .inl h0
  · exact .inr ⟨g, cap, cur, hv, hbg, by rw [hb g (by rw [hv]; rfl)]; exact hg, r⟩
omit [Inhabited α] in
theorem OwnE.other {v : Value} {l : List α} (h : OwnE E base e w v l) (a : Addr) (u : Value) (ha : ∀ k, v.ownBlock = some k → k ≠ a.block) : OwnE E base e (w.setCell a u) v l :=
  h.ofBlock fun k hk => Go.Deep.blk_setCell_other _ _ _ _ (ha k hk)
end

end Go.Proofs.Ytiaajdckhedofaa

namespace Go.Proofs.Ytiaajdckhedofaa
set_option linter.unusedVariables false
set_option linter.unusedSimpArgs false
open Go.RowKit

/-- Whether an instruction begins a block. -/
def lead (c : List Ins) (k : Nat) : Bool := nth (leadL c) k
/-- The blocks of the first k instructions. -/
def bnd (c : List Ins) : Nat → List (Nat × Nat)
  | 0 => []
  | k + 1 => if lead c k then bnd c k ++ [(k, k + 1)] else (bnd c k).set ((bnd c k).length - 1) ((nth (bnd c k) ((bnd c k).length - 1)).1, k + 1)
/-- The number of an instruction's block. -/
def numOf (c : List Ins) (k : Nat) : Nat := (bnd c (k + 1)).length - 1
/-- The numbers of the blocks that may follow. -/
def nums (c : List Ins) (b : Nat × Nat) : List Int := (nextL c (headN c (b.2 - 1))).map fun x => (numOf c x.toNat : Int)
def blkOf (c : List Ins) (b : Nat × Nat) : Blk := ⟨b.1, b.2, setL (nums c b)⟩
/-- The basic blocks of a function. -/
def blksL (c : List Ins) : List Blk := (bnd c c.length).map (blkOf c)

theorem nth_map' {α β : Type} [Inhabited α] [Inhabited β] (f : α → β) (l : List α) (i : Nat) (h : i < l.length) : nth (l.map f) i = f (nth l i) := by
  rw [nth_eq _ _ (by simpa using h), nth_eq _ _ h, List.getElem_map]

theorem leadStep_true (c : List Ins) (i : Nat) (l : List Bool) (j : Nat) (hj : j < l.length) (h : nth l j = true) : nth (leadStep c i l) j = true := by
  unfold leadStep
  split
  · rw [nth_set _ _ _ _ (by simpa using hj), nth_set _ _ _ _ hj, h]; simp
  · split
    · rw [nth_set _ _ _ _ hj, h]; simp
    · exact h
theorem lead_zero (c : List Ins) : lead c 0 = true := by
  unfold lead leadL
  generalize hn : c.length = n
  have hl : ∀ k, nth (leadN c ((List.replicate (n + 1) false).set 0 true) k) 0 = true := by
    intro k
    induction k with
    | zero => rfl
    | succ k ih => exact leadStep_true c k _ 0 (by rw [leadN_len]; simp) ih
  exact hl n
theorem bnd_pos (c : List Ins) (k : Nat) : 0 < (bnd c (k + 1)).length := by
  induction k with
  | zero => simp [bnd, lead_zero]
  | succ k ih =>
    rw [bnd]
    split
    · simp
    · rw [List.length_set]; exact ih
theorem bnd_le (c : List Ins) (k : Nat) : (bnd c k).length ≤ k := by
  induction k with
  | zero => exact Nat.le_refl _
  | succ k ih =>
    rw [bnd]
    split
    · simp; exact ih
    · rw [List.length_set]; omega
theorem bnd_mono (c : List Ins) (k : Nat) : (bnd c k).length ≤ (bnd c (k + 1)).length := by
  rw [bnd]
  split
  · simp
  · rw [List.length_set]; omega
theorem bnd_mono' (c : List Ins) (k m : Nat) (h : k ≤ m) : (bnd c k).length ≤ (bnd c m).length := by
  induction h with
  | refl => exact Nat.le_refl _
  | step h ih => exact Nat.le_trans ih (bnd_mono c _)
theorem numOf_lt (c : List Ins) (k : Nat) (h : k < c.length) : numOf c k < (bnd c c.length).length := by
  have h1 := bnd_pos c k
  have h2 := bnd_mono' c (k + 1) c.length h
  unfold numOf; omega

theorem nth_append_right' {α : Type} [Inhabited α] (l : List α) (x : α) (i : Nat) (h : i = l.length) : nth (l ++ [x]) i = x := by
  subst h
  rw [nth_eq _ _ (by simp)]; simp
def bRows (l : List (Nat × Nat)) : List BRow := l.map fun b => (b.1, b.2, (⟨none, 0, 0⟩ : Slc))
theorem bRows_len (l : List (Nat × Nat)) : (bRows l).length = l.length := by simp [bRows]

theorem nth_bRows (l : List (Nat × Nat)) (i : Nat) (h : i < l.length) : nth (bRows l) i = (((nth l i).1 : Int), ((nth l i).2 : Int), (⟨none, 0, 0⟩ : Slc)) := nth_map' _ _ _ h
theorem bRows_true (c : List Ins) (k : Nat) (h : lead c k = true) : (bRows (bnd c k) ++ [((k : Int), 0, (⟨none, 0, 0⟩ : Slc))]).set (bnd c k).length ((k : Int), (k : Int) + 1, (⟨none, 0, 0⟩ : Slc)) = bRows (bnd c (k + 1)) := by
  rw [bnd, if_pos h, List.set_append_right _ _ (by rw [bRows_len]; exact Nat.le_refl _), bRows_len, Nat.sub_self]
  simp [bRows]
theorem bRows_false (c : List Ins) (k m : Nat) (h : lead c k = false) (hm : (bnd c k).length = m + 1) : (bRows (bnd c k)).set m (((nth (bnd c k) m).1 : Int), (k : Int) + 1, (⟨none, 0, 0⟩ : Slc)) = bRows (bnd c (k + 1)) := by
  rw [bnd, if_neg (by rw [h]; simp), hm, Nat.add_sub_cancel]
  simp [bRows, List.map_set]
theorem len_true (c : List Ins) (k : Nat) (h : lead c k = true) : (bnd c (k + 1)).length = (bnd c k).length + 1 := by rw [bnd, if_pos h]; simp
theorem len_false (c : List Ins) (k : Nat) (h : lead c k = false) : (bnd c (k + 1)).length = (bnd c k).length := by rw [bnd, if_neg (by rw [h]; simp)]; simp

theorem bnd_in (c : List Ins) (k : Nat) : ∀ q, q < (bnd c k).length → (nth (bnd c k) q).1 < (nth (bnd c k) q).2 ∧ (nth (bnd c k) q).2 ≤ k := by
  induction k with
  | zero => intro q hq; simp [bnd] at hq
  | succ k ih =>
    intro q hq
    rw [bnd] at hq ⊢
    split at hq
    · rename_i h
      rw [if_pos h]
      rcases Nat.lt_or_ge q (bnd c k).length with h2 | h2
      · rw [nth_append_left _ _ _ h2]
        have := ih q h2
        omega
      · rw [nth_append_right' _ _ _ (by simp at hq; omega)]
        exact ⟨Nat.lt_succ_self _, Nat.le_refl _⟩
    · rename_i h
      rw [if_neg h]
      rw [List.length_set] at hq
      have := ih q hq
      rw [nth_set _ _ _ _ hq]
      split
      · rename_i e
        rw [← e]
        exact ⟨by omega, Nat.le_refl _⟩
      · omega

/-- The last block of the first i instructions. -/
def lastB (c : List Ins) (i : Nat) : Nat × Nat := nth (bnd c i) ((bnd c i).length - 1)
theorem lastB_true (c : List Ins) (i : Nat) (h : lead c i = true) : lastB c (i + 1) = (i, i + 1) := by
  unfold lastB
  rw [bnd, if_pos h, nth_append_right' _ _ _ (by simp)]
theorem lastB_false (c : List Ins) (i : Nat) (h0 : 0 < i) (h : lead c i = false) : lastB c (i + 1) = ((lastB c i).1, i + 1) := by
  have hp := bnd_pos c (i - 1)
  rw [Nat.sub_add_cancel h0] at hp
  unfold lastB
  rw [bnd, if_neg (by rw [h]; simp), List.length_set, nth_set _ _ _ _ (by omega), if_pos rfl]
theorem dropLast_true (c : List Ins) (i : Nat) (h : lead c i = true) : (bnd c (i + 1)).dropLast = bnd c i := by
  rw [bnd, if_pos h, List.dropLast_concat]
theorem dropLast_set {α : Type} (l : List α) (x : α) : (l.set (l.length - 1) x).dropLast = l.dropLast := by
  rw [List.dropLast_eq_take, List.dropLast_eq_take, List.length_set, List.take_set_of_le (Nat.le_refl _)]
theorem dropLast_false (c : List Ins) (i : Nat) (h : lead c i = false) : (bnd c (i + 1)).dropLast = (bnd c i).dropLast := by
  rw [bnd, if_neg (by rw [h]; simp), dropLast_set]
theorem dropLast_last {α : Type} [Inhabited α] (l : List α) (h : 0 < l.length) : l.dropLast ++ [nth l (l.length - 1)] = l := by
  have hne : l ≠ [] := by intro e; rw [e] at h; cases h
  rw [nth_eq _ _ (by omega), ← List.getLast_eq_getElem hne]
  exact List.dropLast_concat_getLast hne
/-- What is known of the last block. -/
theorem lastB_in (c : List Ins) (i : Nat) (h0 : 0 < i) : (lastB c i).1 < i ∧ (lastB c i).2 = i ∧ ∀ k, (lastB c i).1 ≤ k → k < i → (bnd c (k + 1)).length = (bnd c i).length := by
  induction i with
  | zero => omega
  | succ i ih =>
    cases h : lead c i with
    | true =>
      rw [lastB_true c i h]
      refine ⟨Nat.lt_succ_self _, rfl, fun k h1 h2 => ?_⟩
      have : k = i := by simp at h1; omega
      rw [this]
    | false =>
      have hi : 0 < i := by
        rcases Nat.eq_zero_or_pos i with e | e
        · subst e; rw [lead_zero] at h; cases h
        · exact e
      rw [lastB_false c i hi h]
      obtain ⟨h1, h2, h3⟩ := ih hi
      refine ⟨by simp; omega, rfl, fun k h4 h5 => ?_⟩
      rcases Nat.lt_succ_iff_lt_or_eq.1 h5 with e | e
      · rw [h3 k h4 e, len_false c i h]
      · rw [e]

/-- The blocks that flow has made before it looks at instruction i. -/
def doneL (c : List Ins) (i : Nat) : List (Nat × Nat) := if i ≤ c.length then (bnd c i).dropLast else bnd c c.length
def fromI (c : List Ins) (i : Nat) : Nat := if i ≤ c.length then (lastB c i).1 else c.length
theorem doneL_false (c : List Ins) (i : Nat) (hi : i < c.length) (h : lead c i = false) : doneL c (i + 1) = doneL c i := by
  unfold doneL; rw [if_pos (by omega), if_pos (by omega), dropLast_false c i h]
theorem fromI_false (c : List Ins) (i : Nat) (h0 : 0 < i) (hi : i < c.length) (h : lead c i = false) : fromI c (i + 1) = fromI c i := by
  unfold fromI; rw [if_pos (by omega), if_pos (by omega), lastB_false c i h0 h]
theorem doneL_true (c : List Ins) (i : Nat) (hi : i ≤ c.length) (h : i < c.length → lead c i = true) : doneL c (i + 1) = bnd c i := by
  unfold doneL
  split
  · exact dropLast_true c i (h (by omega))
  · have : i = c.length := by omega
    rw [this]
theorem fromI_true (c : List Ins) (i : Nat) (hi : i ≤ c.length) (h : i < c.length → lead c i = true) : fromI c (i + 1) = i := by
  unfold fromI
  split
  · rw [lastB_true c i (h (by omega))]
  · omega
theorem doneL_len (c : List Ins) (i : Nat) (hi : i ≤ c.length) : (doneL c i).length = (bnd c i).length - 1 := by
  unfold doneL; rw [if_pos hi, List.length_dropLast]
theorem doneL_last (c : List Ins) (i : Nat) (h0 : 0 < i) (hi : i ≤ c.length) : doneL c i ++ [(fromI c i, i)] = bnd c i := by
  have hp := bnd_pos c (i - 1)
  rw [Nat.sub_add_cancel h0] at hp
  unfold doneL fromI
  rw [if_pos hi, if_pos hi]
  have e : ((lastB c i).1, i) = nth (bnd c i) ((bnd c i).length - 1) := by
    have := (lastB_in c i h0).2.1
    show _ = lastB c i
    exact Prod.ext rfl this.symm
  rw [e]
  exact dropLast_last _ hp

/-- append of one element: the row's block. -/
theorem wpList_append_one {α : Type} [Inhabited α] (E : Enc α) {P : Program} {w : World} {ops : Array Oper} {rest : List Oper} {o : Oper} {a : Act} {Q : Exit → Act → World → Prop} (hgd : o.guard = none) (s x : Operand) (t : TypeId)
    (ho : o.op = .call { callee := .builtin .append, args := #[s, x], argTypes := #[t, t] })
    (base lo : Nat) (e : TypeId) (z : Value) (bytes : Nat) (ht : P.underlying t = some (.slice e)) (hinfo : (P.info? e).map (fun i => (i.zero, i.size, i.bytes)) = some (some z, E.sz, bytes)) (hz : z.cells.size = E.sz)
    (l : List α) (y : α) (hown : OwnE E base e w (a.eval s) l) (hsrc : SlE E lo w (a.eval x) [y]) (hb : (l.length + 1) * bytes ≤ 140737488355328) (hm : l.length + 1 ≤ maxLen) (hbase : base ≤ w.heap.size)
    (hK : ∀ g cap w', OwnE E base e w' (.slice (some ⟨g, 0, none⟩) (l.length + 1) cap) (l ++ [y]) → base ≤ g → g < w'.heap.size → Below base w w' → wpList P ops Q rest (a.put o.dst (.slice (some ⟨g, 0, none⟩) (l.length + 1) cap)) w') : wpList P ops Q (o :: rest) a w := by
  refine wpList_append_E E hgd s x t ho base lo e z bytes ht hinfo hz l [y] hown hsrc (by simpa using hb) (by simpa using hm) hbase ?_
  intro v' w' h1 h2
  obtain ⟨g, cap, rfl, hg, hl⟩ := h1.open (by simp)
  rw [List.length_append, List.length_singleton] at h1 ⊢
  exact hK g cap w' h1 hg hl (Below.grownE (Below.refl _ _) hown h2 hbase (Nat.le_refl _))

theorem step_append_one {α : Type} [Inhabited α] (E : Enc α) {P : Program} {w : World} {ops : Array Oper} {o : Oper} {a : Act} {K : Act → World → Prop} {Q : Exit → Act → World → Prop} {F : Prop} (hgd : o.guard = none) (s x : Operand) (t : TypeId)
    (ho : o.op = .call { callee := .builtin .append, args := #[s, x], argTypes := #[t, t] })
    (base lo : Nat) (e : TypeId) (z : Value) (bytes : Nat) (ht : P.underlying t = some (.slice e)) (hinfo : (P.info? e).map (fun i => (i.zero, i.size, i.bytes)) = some (some z, E.sz, bytes)) (hz : z.cells.size = E.sz)
    (l : List α) (y : α) (hown : OwnE E base e w (a.eval s) l) (hsrc : SlE E lo w (a.eval x) [y]) (hb : (l.length + 1) * bytes ≤ 140737488355328) (hm : l.length + 1 ≤ maxLen) (hbase : base ≤ w.heap.size)
    (hK : ∀ g cap w', OwnE E base e w' (.slice (some ⟨g, 0, none⟩) (l.length + 1) cap) (l ++ [y]) → base ≤ g → g < w'.heap.size → Below base w w' → K (a.put o.dst (.slice (some ⟨g, 0, none⟩) (l.length + 1) cap)) w') :
    if Region.wanted o (yielded ops a.tmps) = true then Oper.wp P o a w K Q else F := by
  refine step_append_E E hgd s x t ho base lo e z bytes ht hinfo hz l [y] hown hsrc (by simpa using hb) (by simpa using hm) hbase ?_
  intro v' w' h1 h2
  obtain ⟨g, cap, rfl, hg, hl⟩ := h1.open (by simp)
  rw [List.length_append, List.length_singleton] at h1 ⊢
  exact hK g cap w' h1 hg hl (Below.grownE (Below.refl _ _) hown h2 hbase (Nat.le_refl _))

end Go.Proofs.Ytiaajdckhedofaa

namespace Go.Proofs.Ytiaajdckhedofaa
set_option linter.unusedVariables false
set_option linter.unusedSimpArgs false
open Go.RowKit

abbrev Inc (l : List Int) : Prop := l.Pairwise (· < ·)
theorem inc_ext : ∀ l l' : List Int, Inc l → Inc l' → (∀ x, x ∈ l ↔ x ∈ l') → l = l'
  | [], [], _, _, _ => rfl
  | [], b :: l', _, _, h => by have := (h b).2 (List.mem_cons_self ..); cases this
  | a :: l, [], _, _, h => by have := (h a).1 (List.mem_cons_self ..); cases this
  | a :: l, b :: l', h1, h2, h => by
    obtain ⟨ha, hl⟩ := List.pairwise_cons.1 h1
    obtain ⟨hb, hl'⟩ := List.pairwise_cons.1 h2
    have e : a = b := by
      rcases List.mem_cons.1 ((h a).1 (List.mem_cons_self ..)) with e | e
      · exact e
      · rcases List.mem_cons.1 ((h b).2 (List.mem_cons_self ..)) with e2 | e2
        · exact e2.symm
        · have := hb a e; have := ha b e2; omega
    subst e
    congr 1
    refine inc_ext l l' hl hl' fun x => ⟨fun hx => ?_, fun hx => ?_⟩
    · rcases List.mem_cons.1 ((h x).1 (List.mem_cons_of_mem _ hx)) with e | e
      · have := ha x hx; omega
      · exact e
    · rcases List.mem_cons.1 ((h x).2 (List.mem_cons_of_mem _ hx)) with e | e
      · have := hb x hx; omega
      · exact e

theorem sortI_mem (l : List Int) (x : Int) : x ∈ sortI l ↔ x ∈ l := List.mem_mergeSort
theorem sortI_le (l : List Int) : (sortI l).Pairwise (· ≤ ·) := by
  have := List.pairwise_mergeSort (le := fun x y : Int => decide (x ≤ y)) (fun a b c h1 h2 => by simp at *; omega) (fun a b => by simp; omega) l
  exact this.imp (fun h => by simpa using h)
theorem sorted_at (l : List Int) (h : l.Pairwise (· ≤ ·)) (i j : Nat) (hij : i ≤ j) (hj : j < l.length) : l.toArray[i]! ≤ l.toArray[j]! := by
  have hi : i < l.length := by omega
  simp only [List.getElem!_toArray, getElem!_pos, hi, hj]
  rcases Nat.lt_or_eq_of_le hij with e | e
  · exact List.pairwise_iff_getElem.1 h i j hi hj e
  · subst e; exact Int.le_refl _
theorem upTo_mem (l : List Int) (h : l.Pairwise (· ≤ ·)) (m : Nat) : m ≤ l.length → (∀ x, x ∈ Lib.compactUpTo l.toArray m ↔ ∃ j, j < m ∧ x = l.toArray[j]!) ∧ Inc (Lib.compactUpTo l.toArray m) := by
  induction m with
  | zero => intro _; simp [Lib.compactUpTo, Inc]
  | succ m ih =>
    intro hm
    obtain ⟨h1, h2⟩ := ih (by omega)
    rw [Lib.compactUpTo_succ]
    by_cases hk : Lib.keeps l.toArray m = true
    · rw [if_pos hk]
      refine ⟨fun x => ?_, ?_⟩
      · rw [List.mem_append, h1, List.mem_singleton]
        constructor
        · rintro (⟨j, hj, rfl⟩ | rfl)
          · exact ⟨j, by omega, rfl⟩
          · exact ⟨m, by omega, rfl⟩
        · rintro ⟨j, hj, rfl⟩
          rcases Nat.lt_succ_iff_lt_or_eq.1 hj with e | e
          · exact .inl ⟨j, e, rfl⟩
          · exact .inr (by rw [e])
      · refine List.pairwise_append.2 ⟨h2, List.pairwise_singleton _ _, fun a ha b hb => ?_⟩
        rw [List.mem_singleton] at hb
        subst hb
        obtain ⟨j, hj, rfl⟩ := (h1 a).1 ha
        have a1 := sorted_at l h j (m - 1) (by omega) (by omega)
        have a2 := sorted_at l h (m - 1) m (by omega) (by omega)
        have hne : l.toArray[m]! ≠ l.toArray[m - 1]! := by
          simp only [Lib.keeps, decide_eq_true_eq] at hk
          exact hk.resolve_left (by omega)
        omega
    · rw [if_neg hk, List.append_nil]
      have hd : 0 < m ∧ l.toArray[m]! = l.toArray[m - 1]! := by
        simp only [Lib.keeps, decide_eq_true_eq, not_or, Classical.not_not] at hk
        exact ⟨by omega, hk.2⟩
      refine ⟨fun x => ?_, h2⟩
      rw [h1]
      constructor
      · rintro ⟨j, hj, rfl⟩; exact ⟨j, by omega, rfl⟩
      · rintro ⟨j, hj, rfl⟩
        rcases Nat.lt_succ_iff_lt_or_eq.1 hj with e | e
        · exact ⟨j, e, rfl⟩
        · exact ⟨m - 1, by omega, by rw [e]; exact hd.2⟩
theorem setL_mem (l : List Int) (x : Int) : x ∈ setL l ↔ x ∈ l := by
  unfold setL Lib.compact
  rw [(upTo_mem _ (sortI_le l) _ (Nat.le_refl _)).1, ← sortI_mem]
  constructor
  · rintro ⟨j, hj, rfl⟩
    simp only [List.getElem!_toArray, getElem!_pos, hj]
    exact List.getElem_mem _
  · intro hx
    obtain ⟨j, hj, rfl⟩ := List.mem_iff_getElem.1 hx
    exact ⟨j, hj, by simp only [List.getElem!_toArray, getElem!_pos, hj]⟩
theorem setL_inc (l : List Int) : Inc (setL l) := (upTo_mem _ (sortI_le l) _ (Nat.le_refl _)).2

theorem mem_takeWhile_imp' (p : Int → Bool) : ∀ (l : List Int) (x : Int), x ∈ l.takeWhile p → p x = true
  | [], _, h => by cases h
  | y :: l, x, h => by
    rw [List.takeWhile_cons] at h
    split at h
    · rcases List.mem_cons.1 h with e | e
      · rw [e]; assumption
      · exact mem_takeWhile_imp' p l x e
    · cases h
theorem withK_split (l : List Int) (n : Int) : l.take (withK l n) = l.takeWhile (fun x => decide (x < n)) ∧ l.drop (withK l n) = l.dropWhile (fun x => decide (x < n)) := by
  have h := List.takeWhile_append_dropWhile (p := fun x => decide (x < n)) (l := l)
  unfold withK
  generalize l.takeWhile (fun x => decide (x < n)) = a at *
  generalize l.dropWhile (fun x => decide (x < n)) = b at *
  subst h
  simp
theorem withL_inc (l : List Int) (n : Int) (h : Inc l) : Inc (withL l n) ∧ ∀ x, x ∈ withL l n ↔ x ∈ l ∨ x = n := by
  obtain ⟨e1, e2⟩ := withK_split l n
  have hsp := List.take_append_drop (withK l n) l
  have hlt : ∀ x ∈ l.take (withK l n), x < n := by
    rw [e1]; intro x hx
    have := mem_takeWhile_imp' _ _ _ hx
    simpa using this
  unfold withL
  split
  · rename_i hc
    refine ⟨h, fun x => ⟨fun hx => .inl hx, fun hx => hx.elim id fun e => ?_⟩⟩
    rw [e, ← hc.2]
    exact nth_mem l _ hc.1
  · rename_i hc
    have hgt : ∀ x ∈ l.drop (withK l n), n < x := by
      intro x hx
      rcases Nat.lt_or_ge (withK l n) l.length with hk | hk
      · have hd : l.drop (withK l n) = nth l (withK l n) :: l.drop (withK l n + 1) := by rw [nth_eq _ _ hk]; exact List.drop_eq_getElem_cons hk
        have hge : ¬ nth l (withK l n) < n := by
          intro hlt2
          have h3 : (l.dropWhile (fun x => decide (x < n))) ≠ [] := by rw [← e2, hd]; simp
          have h4 := List.head_dropWhile_not (fun x : Int => decide (x < n)) h3
          have h5 : (l.dropWhile (fun x => decide (x < n))).head h3 = nth l (withK l n) := by
            have : ∀ (a : List Int) (ha : a ≠ []) (b : List Int) (y : Int), a = y :: b → a.head ha = y := by rintro _ _ b y rfl; rfl
            exact this _ _ _ _ (by rw [← e2]; exact hd)
          rw [h5] at h4
          simp at h4; omega
        have hne : nth l (withK l n) ≠ n := fun e => hc ⟨hk, e⟩
        have hinc : Inc (l.drop (withK l n)) := List.Pairwise.sublist (List.drop_sublist _ _) h
        rw [hd] at hx hinc
        rcases List.mem_cons.1 hx with e | e
        · omega
        · have := (List.pairwise_cons.1 hinc).1 x e; omega
      · rw [List.drop_of_length_le hk] at hx; cases hx
    refine ⟨?_, fun x => ?_⟩
    · refine List.pairwise_append.2 ⟨List.Pairwise.sublist (List.take_sublist _ _) h, List.pairwise_cons.2 ⟨hgt, List.Pairwise.sublist (List.drop_sublist _ _) h⟩, fun a ha b hb => ?_⟩
      have h1 := hlt a ha
      rcases List.mem_cons.1 hb with e | e
      · omega
      · have := hgt b e; omega
    · rw [List.mem_append, List.mem_cons]
      constructor
      · rintro (hx | hx | hx)
        · exact .inl (List.mem_of_mem_take hx)
        · exact .inr hx
        · exact .inl (List.mem_of_mem_drop hx)
      · rintro (hx | hx)
        · rw [← hsp, List.mem_append] at hx
          exact hx.elim .inl fun h => .inr (.inr h)
        · exact .inr (.inl hx)
theorem foldl_withL_inc (l : List Int) : ∀ acc, Inc acc → Inc (l.foldl withL acc) ∧ ∀ x, x ∈ l.foldl withL acc ↔ x ∈ acc ∨ x ∈ l := by
  induction l with
  | nil => intro acc h; exact ⟨h, fun x => by simp⟩
  | cons y l ih =>
    intro acc h
    obtain ⟨h1, h2⟩ := withL_inc acc y h
    obtain ⟨h3, h4⟩ := ih _ h1
    rw [List.foldl_cons]
    refine ⟨h3, fun x => ?_⟩
    rw [h4, h2, List.mem_cons, or_assoc]
theorem foldl_setL (l : List Int) : l.foldl withL [] = setL l := by
  obtain ⟨h1, h2⟩ := foldl_withL_inc l [] List.Pairwise.nil
  exact inc_ext _ _ h1 (setL_inc l) fun x => by rw [h2, setL_mem]; simp

end Go.Proofs.Ytiaajdckhedofaa

namespace Go.Proofs.Ytiaajdckhedofaa
set_option linter.unusedVariables false
set_option linter.unusedSimpArgs false
open Go.RowKit

theorem Keep.store {lo : Nat} (w : World) (a : Addr) (u : Value) (h : a.block < lo) : Keep lo w (w.setCell a u) := fun k hk _ => Go.Deep.blk_setCell_other _ _ _ _ (by omega)

/-- The rows of the blocks, while the numbers of the next blocks are put in: those below i are done, those above are empty. -/
structure Stage (c : List Ins) (base lo : Nat) (w : World) (v : Value) (rows : List BRow) (i : Nat) : Prop where
  len : rows.length = (bnd c c.length).length
  own : OwnE bE base 37 w v rows
  fr : ∀ q, q < rows.length → (nth rows q).1 = ((nth (bnd c c.length) q).1 : Int) ∧ (nth rows q).2.1 = ((nth (bnd c c.length) q).2 : Int)
  done : ∀ q, q < i → q < rows.length → IntsAt lo w (nth rows q).2.2.val (setL (nums c (nth (bnd c c.length) q)))
  rest : ∀ q, i < q → q < rows.length → (nth rows q).2.2 = ⟨none, 0, 0⟩

theorem Stage.keep {c : List Ins} {base lo : Nat} {w w' : World} {v : Value} {rows : List BRow} {i : Nat} (h : Stage c base lo w v rows i) (hb : Keep base w w') (hl : base ≤ lo) : Stage c base lo w' v rows i :=
  ⟨h.len, h.own.ofBlock fun k hk => hb k (h.own.lt k hk).1 (h.own.lt k hk).2, h.fr, fun q hq hq2 => (h.done q hq hq2).keep (hb.mono hl), h.rest⟩
theorem Stage.below {c : List Ins} {base lo : Nat} {w w' : World} {v : Value} {rows : List BRow} {i : Nat} (h : Stage c base lo w v rows i) (hb : Below w.heap.size w w') : Stage c base lo w' v rows i :=
  ⟨h.len, h.own.ofBlock fun k hk => hb.block k (h.own.lt k hk).2, h.fr, fun q hq hq2 => (h.done q hq hq2).below hb, h.rest⟩
theorem Stage.put {c : List Ins} {base lo : Nat} {w : World} {g n cap : Nat} {rows : List BRow} {i : Nat} (h : Stage c base lo w (.slice (some ⟨g, 0, none⟩) n cap) rows i) (hi : i < rows.length) (hg : g < lo) (x : Slc) :
    Stage c base lo (w.setCell ⟨g, i * 3 + 2, none⟩ (.slice x.a x.n x.c)) (.slice (some ⟨g, 0, none⟩) n cap) (rows.set i ((nth rows i).1, (nth rows i).2.1, x)) i := by
  refine ⟨by rw [List.length_set]; exact h.len, h.own.put i 2 _ _ hi (by decide) rfl, fun q hq => ?_, fun q hq hq2 => ?_, fun q hq hq2 => ?_⟩
  · rw [List.length_set] at hq
    rw [nth_set _ _ _ _ hq]
    split
    · rename_i e; subst e; exact h.fr q hq
    · exact h.fr q hq
  · rw [List.length_set] at hq2
    rw [nth_set _ _ _ _ hq2, if_neg (by omega)]
    exact (h.done q hq hq2).keep (Keep.store _ _ _ hg)
  · rw [List.length_set] at hq2
    rw [nth_set _ _ _ _ hq2, if_neg (by omega)]
    exact h.rest q hq hq2
theorem Stage.next {c : List Ins} {base lo : Nat} {w : World} {v : Value} {rows : List BRow} {i : Nat} (h : Stage c base lo w v rows i) (hd : i < rows.length → IntsAt lo w (nth rows i).2.2.val (setL (nums c (nth (bnd c c.length) i)))) : Stage c base lo w v rows (i + 1) := by
  refine ⟨h.len, h.own, h.fr, fun q hq hq2 => ?_, fun q hq hq2 => h.rest q (by omega) hq2⟩
  rcases Nat.lt_succ_iff_lt_or_eq.1 hq with e | e
  · exact h.done q e hq2
  · subst e; exact hd hq2

theorem Stage.setAt {c : List Ins} {base lo : Nat} {w w' : World} {v : Value} {rows : List BRow} {i : Nat} (h : Stage c base lo w v rows i) (hk : Keep lo w w') (x : Slc) (ho : OwnE bE base 37 w' v (rows.set i ((nth rows i).1, (nth rows i).2.1, x))) :
    Stage c base lo w' v (rows.set i ((nth rows i).1, (nth rows i).2.1, x)) i := by
  refine ⟨by rw [List.length_set]; exact h.len, ho, fun q hq => ?_, fun q hq hq2 => ?_, fun q hq hq2 => ?_⟩
  · rw [List.length_set] at hq
    rw [nth_set _ _ _ _ hq]
    split
    · rename_i e; subst e; exact h.fr q hq
    · exact h.fr q hq
  · rw [List.length_set] at hq2
    rw [nth_set _ _ _ _ hq2, if_neg (by omega)]
    exact (h.done q hq hq2).keep hk
  · rw [List.length_set] at hq2
    rw [nth_set _ _ _ _ hq2, if_neg (by omega)]
    exact h.rest q hq hq2
theorem set_nth_self {α : Type} [Inhabited α] (l : List α) (i : Nat) (h : i < l.length) : l.set i (nth l i) = l := by
  rw [nth_eq _ _ h]; exact List.set_getElem_self h

/-- A slice of blocks. -/
def BlksAt (lo : Nat) (w : World) (v : Value) (l : List Blk) : Prop := ∃ rows : List BRow, rows.length = l.length ∧ SlE bE lo w v rows ∧ ∀ q, q < l.length → (nth rows q).1 = (nth l q).fr ∧ (nth rows q).2.1 = (nth l q).to ∧ IntsAt lo w (nth rows q).2.2.val (nth l q).next
theorem BlksAt.keep {lo : Nat} {w w' : World} {v : Value} {l : List Blk} (h : BlksAt lo w v l) (hk : Keep lo w w') : BlksAt lo w' v l := by
  obtain ⟨rows, h1, h2, h3⟩ := h
  exact ⟨rows, h1, h2.keep hk, fun q hq => ⟨(h3 q hq).1, (h3 q hq).2.1, (h3 q hq).2.2.keep hk⟩⟩
theorem BlksAt.below {lo : Nat} {w w' : World} {v : Value} {l : List Blk} (h : BlksAt lo w v l) (hk : Below w.heap.size w w') : BlksAt lo w' v l := h.keep (Keep.below hk)
theorem BlksAt.mono {lo lo' : Nat} {w : World} {v : Value} {l : List Blk} (h : BlksAt lo w v l) (hk : lo' ≤ lo) : BlksAt lo' w v l := by
  obtain ⟨rows, h1, h2, h3⟩ := h
  exact ⟨rows, h1, h2.mono hk, fun q hq => ⟨(h3 q hq).1, (h3 q hq).2.1, (h3 q hq).2.2.mono hk⟩⟩
theorem Stage.end {c : List Ins} {base lo : Nat} {w : World} {v : Value} {rows : List BRow} {i : Nat} (h : Stage c base lo w v rows i) (hi : rows.length ≤ i) (hl : base ≤ lo) (hc : c.length ≤ 1000) : BlksAt base w v (blksL c) := by
  have hlen : rows.length = (blksL c).length := by rw [h.len, blksL, List.length_map]
  have hle := bnd_le c c.length
  refine ⟨rows, hlen, h.own.sl (Nat.le_refl _) (by rw [h.len]; omega), fun q hq => ?_⟩
  have hq2 : q < (bnd c c.length).length := by rw [← h.len, hlen]; exact hq
  rw [blksL, nth_map' _ _ _ hq2]
  exact ⟨(h.fr q (by omega)).1, (h.fr q (by omega)).2, (h.done q (by omega) (by omega)).mono hl⟩
theorem Stage.start {c : List Ins} {base lo : Nat} {w : World} {v : Value} (h : OwnE bE base 37 w v (bRows (bnd c c.length))) : Stage c base lo w v (bRows (bnd c c.length)) 0 :=
  ⟨bRows_len _, h, fun q hq => by rw [bRows_len] at hq; rw [nth_bRows _ _ hq]; exact ⟨rfl, rfl⟩, fun q hq => by omega, fun q _ hq => by rw [bRows_len] at hq; rw [nth_bRows _ _ hq]⟩
theorem rows_nil (c : List Ins) (hq : 0 < (bnd c c.length).length) : (nth (bRows (bnd c c.length)) 0).2.2 = ⟨none, 0, 0⟩ := by rw [nth_bRows _ _ hq]

/-- The union, one by one. -/
def foldW (l : List Int) : List Int := l.foldl withL []
theorem withL_len (l : List Int) (n : Int) : (withL l n).length ≤ l.length + 1 := by
  unfold withL
  split
  · omega
  · simp; omega
theorem foldW_setL (l : List Int) : foldW l = setL l := foldl_setL l
theorem withL_pos (l : List Int) (n : Int) : 0 < (withL l n).length := by
  unfold withL
  split
  · omega
  · simp; omega
theorem foldl_withL_len (l : List Int) : ∀ acc : List Int, (l.foldl withL acc).length ≤ acc.length + l.length := by
  induction l with
  | nil => intro acc; simp
  | cons x l ih =>
    intro acc
    rw [List.foldl_cons]
    have := ih (withL acc x)
    have h2 := withL_len acc x
    simp only [List.length_cons]; omega
theorem foldW_len (l : List Int) : (foldW l).length ≤ l.length := by have := foldl_withL_len l []; simpa [foldW] using this
theorem foldW_snoc (l : List Int) (x : Int) : foldW (l ++ [x]) = withL (foldW l) x := by simp [foldW]
theorem take_succ_nth {α : Type} [Inhabited α] (l : List α) (k : Nat) (h : k < l.length) : l.take (k + 1) = l.take k ++ [nth l k] := by
  rw [nth_eq _ _ h, List.take_add_one, List.getElem?_eq_getElem h]; rfl
theorem nextL_len (c : List Ins) (k : Nat) : (nextL c k).length ≤ 2 := by
  unfold nextL
  split
  · unfold nextIns pairL
    repeat' split
    all_goals simp
  · simp

end Go.Proofs.Ytiaajdckhedofaa

/-
  A list of blocks, cell by cell.
-/
namespace Go.Proofs.Ytiaajdckhedofaa
set_option linter.unusedVariables false
set_option linter.unusedSimpArgs false
open Go.RowKit

theorem BlksAt.open {lo : Nat} {w : World} {v : Value} {l : List Blk} (h : BlksAt lo w v l) : ∃ a c b o, ∃ S : Nat → Slc, v = .slice a l.length c ∧ (0 < l.length → a = some ⟨b, o, none⟩) ∧
    (∀ i, i < l.length → w.cell? ⟨b, o + i * 3, none⟩ = some (.int .i64 (nth l i).fr)) ∧ (∀ i, i < l.length → w.cell? ⟨b, o + i * 3 + 1, none⟩ = some (.int .i64 (nth l i).to)) ∧
    (∀ i, i < l.length → w.cell? ⟨b, o + i * 3 + 2, none⟩ = some (.slice (S i).a (nth l i).next.length (S i).c)) ∧
    (∀ i, i < l.length → IntsAt lo w (.slice (S i).a (nth l i).next.length (S i).c) (nth l i).next) ∧
    (0 < l.length → b < w.heap.size) ∧ (0 < l.length → lo ≤ b) ∧ l.length ≤ c ∧ c ≤ maxLen ∧ l.length ≤ 140737488355328 := by
  obtain ⟨rows, e1, hsl, hrow⟩ := h
  unfold SlE at hsl
  rw [e1] at hsl
  obtain ⟨a, c, b, o, rfl, hnil, hp, hc, h1, h2, h3⟩ := hsl
  have c0 : ∀ i, i < l.length → w.cell? ⟨b, o + i * 3, none⟩ = some (.int .i64 (nth l i).fr) := fun i hi => by
    have := hc i 0 hi (by decide)
    rw [← (hrow i hi).1]; exact this
  have hlen : ∀ i, i < l.length → (nth rows i).2.2.n = (nth l i).next.length := fun i hi => SlE.len (hrow i hi).2.2
  refine ⟨a, c, b, o, fun i => (nth rows i).2.2, rfl, fun h0 => (hp h0).1, c0, fun i hi => ?_, fun i hi => ?_, fun i hi => ?_, fun h0 => World.block_lt_of_cell? _ _ (c0 0 h0), fun h0 => (hp h0).2, h1, h2, h3⟩
  · have := hc i 1 hi (by decide)
    rw [← (hrow i hi).2.1]; exact this
  · have := hc i 2 hi (by decide)
    rw [← hlen i hi]; exact this
  · have := (hrow i hi).2.2
    rw [← hlen i hi]; exact this

end Go.Proofs.Ytiaajdckhedofaa
