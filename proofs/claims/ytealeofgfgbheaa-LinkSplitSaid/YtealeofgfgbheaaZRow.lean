/-
  Rows of the call's own, element by element; increasing lists.
-/
import Derived.Deep.Heap
import Derived.Test.YtealeofgfgbheaaZAppend
import Derived.Test.YtealeofgfgbheaaZRowB
namespace Go.Proofs.Ytealeofgfgbheaa
set_option linter.unusedVariables false
set_option linter.unusedSimpArgs false
open Go.RowKit

theorem nth_flatMap {α : Type} [Inhabited α] (E : Enc α) (l : List α) (i k : Nat) (hi : i < l.length) (hk : k < E.sz) : (l.flatMap E.enc)[i * E.sz + k]? = some (nth (E.enc (nth l i)) k) := by
  induction l generalizing i with
  | nil => simp at hi
  | cons x l ih =>
    rw [List.flatMap_cons]
    cases i with
    | zero =>
      rw [Nat.zero_mul, Nat.zero_add, List.getElem?_append_left (by rw [E.len]; exact hk), List.getElem?_eq_getElem (by rw [E.len]; exact hk), nth_eq _ _ (by rw [E.len]; exact hk)]
      congr 1
    | succ i =>
      have e : (i + 1) * E.sz + k = (E.enc x).length + (i * E.sz + k) := by rw [E.len, Nat.add_mul]; omega
      rw [e, List.getElem?_append_right (by omega), Nat.add_sub_cancel_left, ih i (by simpa using hi)]
      rfl
theorem set_flatMap {α : Type} [Inhabited α] (E : Enc α) (l : List α) (i k : Nat) (u : Value) (x' : α) (hi : i < l.length) (hk : k < E.sz) (hx : E.enc x' = (E.enc (nth l i)).set k u) : (l.flatMap E.enc).set (i * E.sz + k) u = (l.set i x').flatMap E.enc := by
  induction l generalizing i with
  | nil => simp at hi
  | cons x l ih =>
    rw [List.flatMap_cons]
    cases i with
    | zero =>
      rw [Nat.zero_mul, Nat.zero_add, List.set_append_left _ _ (by rw [E.len]; exact hk), List.set_cons_zero, List.flatMap_cons, hx]
      rfl
    | succ i =>
      have e : (i + 1) * E.sz + k = (E.enc x).length + (i * E.sz + k) := by rw [E.len, Nat.add_mul]; omega
      rw [e, List.set_append_right _ _ (by omega), Nat.add_sub_cancel_left, ih i (by simpa using hi) hx, List.set_cons_succ, List.flatMap_cons]

section
variable {α : Type} [Inhabited α] {E : Enc α} {base : Nat} {e : TypeId} {w : World}

omit [Inhabited α] in
theorem OwnE.open {v : Value} {l : List α} (h : OwnE E base e w v l) (h0 : 0 < l.length) :
    ∃ g cap, v = .slice (some ⟨g, 0, none⟩) l.length cap ∧ base ≤ g ∧ g < w.heap.size := by
  rcases h.2 with ⟨_, hn⟩ | ⟨g, cap, cur, hv, hb, hg, _⟩
  · omega
  · exact ⟨g, cap, hv, hb, (Array.getElem?_eq_some_iff.1 hg).1⟩
omit [Inhabited α] in
theorem OwnE.anySlice {v : Value} {l : List α} (h : OwnE E base e w v l) : ∃ a cap, v = .slice a l.length cap := by
  rcases h.2 with ⟨hv, hn⟩ | ⟨g, cap, cur, hv, hb, hg, _⟩
  · exact ⟨none, 0, by rw [hv, hn]⟩
  · exact ⟨_, _, hv⟩
theorem OwnE.cellAt {g n cap : Nat} {l : List α} (h : OwnE E base e w (.slice (some ⟨g, 0, none⟩) n cap) l) (i k : Nat) (hi : i < l.length) (hk : k < E.sz) : w.cell? ⟨g, i * E.sz + k, none⟩ = some (nth (E.enc (nth l i)) k) := by
  have hn : l.length = n := by
    rcases h.2 with ⟨h', _⟩ | ⟨g', cap', cur, h', _⟩
    · simp at h'
    · simp at h'; omega
  subst hn
  have hlt : i * E.sz + k < l.length * E.sz := by
    have : (i + 1) * E.sz ≤ l.length * E.sz := Nat.mul_le_mul_right _ hi
    rw [Nat.add_mul] at this; omega
  rw [World.ownsRow.cellAt h _ hlt]
  exact nth_flatMap E l i k hi hk
omit [Inhabited α] in
theorem OwnE.frozenAt {g n cap : Nat} {l : List α} (h : OwnE E base e w (.slice (some ⟨g, 0, none⟩) n cap) l) (j : Nat) : w.frozen? ⟨g, j, none⟩ = false := by
  have hn : l.length = n := by
    rcases h.2 with ⟨h', _⟩ | ⟨g', cap', cur, h', _⟩
    · simp at h'
    · simp at h'; omega
  subst hn
  exact World.ownsRow.frozenAt h j
theorem OwnE.put {g n cap : Nat} {l : List α} (h : OwnE E base e w (.slice (some ⟨g, 0, none⟩) n cap) l) (i k : Nat) (u : Value) (x' : α) (hi : i < l.length) (hk : k < E.sz) (hx : E.enc x' = (E.enc (nth l i)).set k u) :
    OwnE E base e (w.setCell ⟨g, i * E.sz + k, none⟩ u) (.slice (some ⟨g, 0, none⟩) n cap) (l.set i x') := by
  have hn : l.length = n := by
    rcases h.2 with ⟨h', _⟩ | ⟨g', cap', cur, h', _⟩
    · simp at h'
    · simp at h'; omega
  subst hn
  have := (World.ownsRow.stored h (i * E.sz + k) u).1
  unfold OwnE
  rw [List.length_set, ← set_flatMap E l i k u x' hi hk hx]
  exact this
omit [Inhabited α] in
theorem OwnE.ofBlock {w' : World} {v : Value} {l : List α} (h : OwnE E base e w v l) (hb : ∀ k, v.ownBlock = some k → w'.heap[k]? = w.heap[k]?) : OwnE E base e w' v l := by
  refine ⟨h.1, ?_⟩
  rcases h.2 with h0 | ⟨g, cap, cur, hv, hbg, hg, r⟩
  · exact .inl h0
  · exact .inr ⟨g, cap, cur, hv, hbg, by rw [hb g (by rw [hv]; rfl)]; exact hg, r⟩
omit [Inhabited α] in
theorem OwnE.other {v : Value} {l : List α} (h : OwnE E base e w v l) (a : Addr) (u : Value) (ha : ∀ k, v.ownBlock = some k → k ≠ a.block) : OwnE E base e (w.setCell a u) v l :=
  h.ofBlock fun k hk => Go.Deep.blk_setCell_other _ _ _ _ (ha k hk)
end

/-- append of one element: the row's block. -/
theorem wpList_append_one {α : Type} [Inhabited α] (E : Enc α) {P : Program} {w : World} {ops : Array Oper} {rest : List Oper} {o : Oper} {a : Act} {Q : Exit → Act → World → Prop} (hgd : o.guard = none) (s x : Operand) (t : TypeId)
    (ho : o.op = .call { callee := .builtin .append, args := #[s, x], argTypes := #[t, t] })
    (base lo : Nat) (e : TypeId) (z : Value) (bytes : Nat) (ht : P.underlying t = some (.slice e)) (hinfo : (P.info? e).map (fun i => (i.zero, i.size, i.bytes)) = some (some z, E.sz, bytes)) (hz : z.cells.size = E.sz)
    (l : List α) (y : α) (hown : OwnE E base e w (a.eval s) l) (hsrc : SlE E lo w (a.eval x) [y]) (hb : (l.length + 1) * bytes ≤ 140737488355328) (hm : l.length + 1 ≤ maxLen) (hbase : base ≤ w.heap.size)
    (hK : ∀ g cap w', OwnE E base e w' (.slice (some ⟨g, 0, none⟩) (l.length + 1) cap) (l ++ [y]) → base ≤ g → g < w'.heap.size → Below base w w' → wpList P ops Q rest (a.put o.dst (.slice (some ⟨g, 0, none⟩) (l.length + 1) cap)) w') : wpList P ops Q (o :: rest) a w := by
  refine wpList_append_E E hgd s x t ho base lo e z bytes ht hinfo hz l [y] hown hsrc (by simpa using hb) (by simpa using hm) hbase ?_
  intro v' w' h1 h2
  obtain ⟨g, cap, rfl, hg, hl⟩ := h1.open (by simp)
  rw [List.length_append, List.length_singleton] at h1 ⊢
  exact hK g cap w' h1 hg hl (Below.grownE (Below.refl _ _) hown h2 hbase (Nat.le_refl _))

theorem step_append_one {α : Type} [Inhabited α] (E : Enc α) {P : Program} {w : World} {ops : Array Oper} {o : Oper} {a : Act} {K : Act → World → Prop} {Q : Exit → Act → World → Prop} {F : Prop} (hgd : o.guard = none) (s x : Operand) (t : TypeId)
    (ho : o.op = .call { callee := .builtin .append, args := #[s, x], argTypes := #[t, t] })
    (base lo : Nat) (e : TypeId) (z : Value) (bytes : Nat) (ht : P.underlying t = some (.slice e)) (hinfo : (P.info? e).map (fun i => (i.zero, i.size, i.bytes)) = some (some z, E.sz, bytes)) (hz : z.cells.size = E.sz)
    (l : List α) (y : α) (hown : OwnE E base e w (a.eval s) l) (hsrc : SlE E lo w (a.eval x) [y]) (hb : (l.length + 1) * bytes ≤ 140737488355328) (hm : l.length + 1 ≤ maxLen) (hbase : base ≤ w.heap.size)
    (hK : ∀ g cap w', OwnE E base e w' (.slice (some ⟨g, 0, none⟩) (l.length + 1) cap) (l ++ [y]) → base ≤ g → g < w'.heap.size → Below base w w' → K (a.put o.dst (.slice (some ⟨g, 0, none⟩) (l.length + 1) cap)) w') :
    if Region.wanted o (yielded ops a.tmps) = true then Oper.wp P o a w K Q else F := by
  refine step_append_E E hgd s x t ho base lo e z bytes ht hinfo hz l [y] hown hsrc (by simpa using hb) (by simpa using hm) hbase ?_
  intro v' w' h1 h2
  obtain ⟨g, cap, rfl, hg, hl⟩ := h1.open (by simp)
  rw [List.length_append, List.length_singleton] at h1 ⊢
  exact hK g cap w' h1 hg hl (Below.grownE (Below.refl _ _) hown h2 hbase (Nat.le_refl _))


abbrev Inc (l : List Int) : Prop := l.Pairwise (· < ·)
theorem inc_ext : ∀ l l' : List Int, Inc l → Inc l' → (∀ x, x ∈ l ↔ x ∈ l') → l = l'
  | [], [], _, _, _ => rfl
  | [], b :: l', _, _, h => by have := (h b).2 (List.mem_cons_self ..); cases this
  | a :: l, [], _, _, h => by have := (h a).1 (List.mem_cons_self ..); cases this
  | a :: l, b :: l', h1, h2, h => by
    obtain ⟨ha, hl⟩ := List.pairwise_cons.1 h1
    obtain ⟨hb, hl'⟩ := List.pairwise_cons.1 h2
    have e : a = b := by
      rcases List.mem_cons.1 ((h a).1 (List.mem_cons_self ..)) with e | e
      · exact e
      · rcases List.mem_cons.1 ((h b).2 (List.mem_cons_self ..)) with e2 | e2
        · exact e2.symm
        · have := hb a e; have := ha b e2; omega
    subst e
    congr 1
    refine inc_ext l l' hl hl' fun x => ⟨fun hx => ?_, fun hx => ?_⟩
    · rcases List.mem_cons.1 ((h x).1 (List.mem_cons_of_mem _ hx)) with e | e
      · have := ha x hx; omega
      · exact e
    · rcases List.mem_cons.1 ((h x).2 (List.mem_cons_of_mem _ hx)) with e | e
      · have := hb x hx; omega
      · exact e

theorem sortI_mem (l : List Int) (x : Int) : x ∈ sortI l ↔ x ∈ l := List.mem_mergeSort
theorem sortI_le (l : List Int) : (sortI l).Pairwise (· ≤ ·) := by
  have := List.pairwise_mergeSort (le := fun x y : Int => decide (x ≤ y)) (fun a b c h1 h2 => by simp at *; omega) (fun a b => by simp; omega) l
  exact this.imp (fun h => by simpa using h)
theorem sorted_at (l : List Int) (h : l.Pairwise (· ≤ ·)) (i j : Nat) (hij : i ≤ j) (hj : j < l.length) : l.toArray[i]! ≤ l.toArray[j]! := by
  have hi : i < l.length := by omega
  simp only [List.getElem!_toArray, getElem!_pos, hi, hj]
  rcases Nat.lt_or_eq_of_le hij with e | e
  · exact List.pairwise_iff_getElem.1 h i j hi hj e
  · subst e; exact Int.le_refl _
theorem upTo_mem (l : List Int) (h : l.Pairwise (· ≤ ·)) (m : Nat) : m ≤ l.length → (∀ x, x ∈ Lib.compactUpTo l.toArray m ↔ ∃ j, j < m ∧ x = l.toArray[j]!) ∧ Inc (Lib.compactUpTo l.toArray m) := by
  induction m with
  | zero => intro _; simp [Lib.compactUpTo, Inc]
  | succ m ih =>
    intro hm
    obtain ⟨h1, h2⟩ := ih (by omega)
    rw [Lib.compactUpTo_succ]
    by_cases hk : Lib.keeps l.toArray m = true
    · rw [if_pos hk]
      refine ⟨fun x => ?_, ?_⟩
      · rw [List.mem_append, h1, List.mem_singleton]
        constructor
        · rintro (⟨j, hj, rfl⟩ | rfl)
          · exact ⟨j, by omega, rfl⟩
          · exact ⟨m, by omega, rfl⟩
        · rintro ⟨j, hj, rfl⟩
          rcases Nat.lt_succ_iff_lt_or_eq.1 hj with e | e
          · exact .inl ⟨j, e, rfl⟩
          · exact .inr (by rw [e])
      · refine List.pairwise_append.2 ⟨h2, List.pairwise_singleton _ _, fun a ha b hb => ?_⟩
        rw [List.mem_singleton] at hb
        subst hb
        obtain ⟨j, hj, rfl⟩ := (h1 a).1 ha
        have a1 := sorted_at l h j (m - 1) (by omega) (by omega)
        have a2 := sorted_at l h (m - 1) m (by omega) (by omega)
        have hne : l.toArray[m]! ≠ l.toArray[m - 1]! := by
          simp only [Lib.keeps, decide_eq_true_eq] at hk
          exact hk.resolve_left (by omega)
        omega
    · rw [if_neg hk, List.append_nil]
      have hd : 0 < m ∧ l.toArray[m]! = l.toArray[m - 1]! := by
        simp only [Lib.keeps, decide_eq_true_eq, not_or, Classical.not_not] at hk
        exact ⟨by omega, hk.2⟩
      refine ⟨fun x => ?_, h2⟩
      rw [h1]
      constructor
      · rintro ⟨j, hj, rfl⟩; exact ⟨j, by omega, rfl⟩
      · rintro ⟨j, hj, rfl⟩
        rcases Nat.lt_succ_iff_lt_or_eq.1 hj with e | e
        · exact ⟨j, e, rfl⟩
        · exact ⟨m - 1, by omega, by rw [e]; exact hd.2⟩
theorem setL_mem (l : List Int) (x : Int) : x ∈ setL l ↔ x ∈ l := by
  unfold setL Lib.compact
  rw [(upTo_mem _ (sortI_le l) _ (Nat.le_refl _)).1, ← sortI_mem]
  constructor
  · rintro ⟨j, hj, rfl⟩
    simp only [List.getElem!_toArray, getElem!_pos, hj]
    exact List.getElem_mem _
  · intro hx
    obtain ⟨j, hj, rfl⟩ := List.mem_iff_getElem.1 hx
    exact ⟨j, hj, by simp only [List.getElem!_toArray, getElem!_pos, hj]⟩
theorem setL_inc (l : List Int) : Inc (setL l) := (upTo_mem _ (sortI_le l) _ (Nat.le_refl _)).2

theorem mem_takeWhile_imp' (p : Int → Bool) : ∀ (l : List Int) (x : Int), x ∈ l.takeWhile p → p x = true
  | [], _, h => by cases h
  | y :: l, x, h => by
    rw [List.takeWhile_cons] at h
    split at h
    · rcases List.mem_cons.1 h with e | e
      · rw [e]; assumption
      · exact mem_takeWhile_imp' p l x e
    · cases h
theorem withK_split (l : List Int) (n : Int) : l.take (withK l n) = l.takeWhile (fun x => decide (x < n)) ∧ l.drop (withK l n) = l.dropWhile (fun x => decide (x < n)) := by
  have h := List.takeWhile_append_dropWhile (p := fun x => decide (x < n)) (l := l)
  unfold withK
  generalize l.takeWhile (fun x => decide (x < n)) = a at *
  generalize l.dropWhile (fun x => decide (x < n)) = b at *
  subst h
  simp
theorem withL_inc (l : List Int) (n : Int) (h : Inc l) : Inc (withL l n) ∧ ∀ x, x ∈ withL l n ↔ x ∈ l ∨ x = n := by
  obtain ⟨e1, e2⟩ := withK_split l n
  have hsp := List.take_append_drop (withK l n) l
  have hlt : ∀ x ∈ l.take (withK l n), x < n := by
    rw [e1]; intro x hx
    have := mem_takeWhile_imp' _ _ _ hx
    simpa using this
  unfold withL
  split
  · rename_i hc
    refine ⟨h, fun x => ⟨fun hx => .inl hx, fun hx => hx.elim id fun e => ?_⟩⟩
    rw [e, ← hc.2]
    exact nth_mem l _ hc.1
  · rename_i hc
    have hgt : ∀ x ∈ l.drop (withK l n), n < x := by
      intro x hx
      rcases Nat.lt_or_ge (withK l n) l.length with hk | hk
      · have hd : l.drop (withK l n) = nth l (withK l n) :: l.drop (withK l n + 1) := by rw [nth_eq _ _ hk]; exact List.drop_eq_getElem_cons hk
        have hge : ¬ nth l (withK l n) < n := by
          intro hlt2
          have h3 : (l.dropWhile (fun x => decide (x < n))) ≠ [] := by rw [← e2, hd]; simp
          have h4 := List.head_dropWhile_not (fun x : Int => decide (x < n)) h3
          have h5 : (l.dropWhile (fun x => decide (x < n))).head h3 = nth l (withK l n) := by
            have : ∀ (a : List Int) (ha : a ≠ []) (b : List Int) (y : Int), a = y :: b → a.head ha = y := by rintro _ _ b y rfl; rfl
            exact this _ _ _ _ (by rw [← e2]; exact hd)
          rw [h5] at h4
          simp at h4; omega
        have hne : nth l (withK l n) ≠ n := fun e => hc ⟨hk, e⟩
        have hinc : Inc (l.drop (withK l n)) := List.Pairwise.sublist (List.drop_sublist _ _) h
        rw [hd] at hx hinc
        rcases List.mem_cons.1 hx with e | e
        · omega
        · have := (List.pairwise_cons.1 hinc).1 x e; omega
      · rw [List.drop_of_length_le hk] at hx; cases hx
    refine ⟨?_, fun x => ?_⟩
    · refine List.pairwise_append.2 ⟨List.Pairwise.sublist (List.take_sublist _ _) h, List.pairwise_cons.2 ⟨hgt, List.Pairwise.sublist (List.drop_sublist _ _) h⟩, fun a ha b hb => ?_⟩
      have h1 := hlt a ha
      rcases List.mem_cons.1 hb with e | e
      · omega
      · have := hgt b e; omega
    · rw [List.mem_append, List.mem_cons]
      constructor
      · rintro (hx | hx | hx)
        · exact .inl (List.mem_of_mem_take hx)
        · exact .inr hx
        · exact .inl (List.mem_of_mem_drop hx)
      · rintro (hx | hx)
        · rw [← hsp, List.mem_append] at hx
          exact hx.elim .inl fun h => .inr (.inr h)
        · exact .inr (.inl hx)
theorem foldl_withL_inc (l : List Int) : ∀ acc, Inc acc → Inc (l.foldl withL acc) ∧ ∀ x, x ∈ l.foldl withL acc ↔ x ∈ acc ∨ x ∈ l := by
  induction l with
  | nil => intro acc h; exact ⟨h, fun x => by simp⟩
  | cons y l ih =>
    intro acc h
    obtain ⟨h1, h2⟩ := withL_inc acc y h
    obtain ⟨h3, h4⟩ := ih _ h1
    rw [List.foldl_cons]
    refine ⟨h3, fun x => ?_⟩
    rw [h4, h2, List.mem_cons, or_assoc]
theorem foldl_setL (l : List Int) : l.foldl withL [] = setL l := by
  obtain ⟨h1, h2⟩ := foldl_withL_inc l [] List.Pairwise.nil
  exact inc_ext _ _ h1 (setL_inc l) fun x => by rw [h2, setL_mem]; simp


end Go.Proofs.Ytealeofgfgbheaa
