/-
  Whether names are distinct and not empty, as package code checks it.
-/
import Derived.Test.YtealeofgfgbheaaShelf
import Derived.Sort.OwnSorted
import Derived.Lib.OwnBridge
import Derived.Test.YtealeofgfgbheaaZAppend
import Derived.Test.YtealeofgfgbheaaZSpecC
namespace Go.Proofs.Ytealeofgfgbheaa
set_option linter.unusedVariables false
set_option linter.unusedSimpArgs false
open Go.RowKit Go.Sort Go.Lib

def strE : Enc ByteArray := ⟨1, fun x => [.string x], fun _ => rfl, by simp [Value.oneCell'], by decide⟩
def bytesL (l : List ByteArray) : List (List UInt8) := l.map fun x => x.data.toList
theorem flat_str (l : List ByteArray) : l.flatMap strE.enc = l.map Value.string := by
  induction l with
  | nil => rfl
  | cons x l ih => rw [List.flatMap_cons, ih]; rfl
theorem map_enc (l : List ByteArray) : l.map Value.string = (bytesL l).map encStr := by
  unfold bytesL
  rw [List.map_map]
  refine List.map_congr_left fun x _ => ?_
  simp [encStr]

/-! ### The plain law. -/
theorem filter_len {α : Type} (g : α → Bool) : ∀ l : List α, (l.filter g).length = l.length ↔ ∀ x ∈ l, g x = true := by
  intro l
  induction l with
  | nil => simp
  | cons a l ih =>
    have hle := List.length_filter_le g l
    cases h : g a with
    | true => simp [List.filter_cons, h, ih]
    | false =>
      simp [List.filter_cons, h]
      omega

theorem compact_len (T : List (List UInt8)) : (Lib.compact T).length = T.length ↔ ∀ j, j + 1 < T.length → nth T (j + 1) ≠ nth T j := by
  have e : ∀ j, j < T.length → T.toArray[j]! = nth T j := fun j hj => by
    rw [nth_eq _ _ hj]; simp [hj]
  unfold Lib.compact Lib.compactUpTo
  rw [List.length_map]
  have h1 := filter_len (Lib.keeps T.toArray) (List.range T.length)
  rw [List.length_range] at h1
  rw [h1]
  constructor
  · intro h j hj
    have := h (j + 1) (by simpa using hj)
    simp only [Lib.keeps, decide_eq_true_eq] at this
    rcases this with h0 | h0
    · omega
    · rw [e _ hj, Nat.add_sub_cancel, e j (by omega)] at h0
      exact h0
  · intro h j hj
    have hj' : j < T.length := by simpa using hj
    simp only [Lib.keeps, decide_eq_true_eq]
    cases j with
    | zero => exact .inl rfl
    | succ j =>
      right
      rw [e _ hj', Nat.add_sub_cancel, e j (by omega)]
      exact h j hj'

theorem sorted_nodup (T : List (List UInt8)) (hs : T.Pairwise (· ≤ ·)) : (∀ j, j + 1 < T.length → nth T (j + 1) ≠ nth T j) ↔ T.Nodup := by
  have hle : ∀ i j, i ≤ j → j < T.length → nth T i ≤ nth T j := by
    intro i j hij hj
    rcases Nat.lt_or_ge i j with h | h
    · rw [nth_eq _ _ (by omega), nth_eq _ _ hj]
      exact List.pairwise_iff_getElem.1 hs i j (by omega) hj h
    · rw [show i = j by omega]; exact List.le_refl _
  constructor
  · intro h
    refine List.pairwise_iff_getElem.2 fun i j hi hj hij he => ?_
    rw [← nth_eq _ _ hi, ← nth_eq _ _ hj] at he
    have h1 := hle i (i + 1) (by omega) (by omega)
    have h2 := hle (i + 1) j (by omega) hj
    rw [← he] at h2
    exact h i (by omega) (List.le_antisymm h2 h1)
  · intro h j hj he
    rw [nth_eq _ _ hj, nth_eq _ _ (by omega)] at he
    exact (List.pairwise_iff_getElem.1 h) j (j + 1) (by omega) hj (by omega) he.symm

def sortS (S : List (List UInt8)) : List (List UInt8) := S.mergeSort fun x y => decide (x ≤ y)
theorem sortS_le (S : List (List UInt8)) : (sortS S).Pairwise (· ≤ ·) := by
  have := List.pairwise_mergeSort (le := fun x y : List UInt8 => decide (x ≤ y)) (fun a b c h1 h2 => by
    simp only [decide_eq_true_eq] at *; exact List.le_trans h1 h2) (fun a b => by
    simp only [Bool.or_eq_true, decide_eq_true_eq]; exact List.le_total a b) S
  refine List.pairwise_iff_getElem.2 fun i j hi hj hij => ?_
  unfold sortS at hi hj ⊢
  simpa using List.pairwise_iff_getElem.1 this i j hi hj hij
theorem sortS_len (S : List (List UInt8)) : (sortS S).length = S.length := by simp [sortS]
theorem sortS_mem (S : List (List UInt8)) (x : List UInt8) : x ∈ sortS S ↔ x ∈ S := List.mem_mergeSort

theorem sameName_iff (a b : ByteArray) : sameName a b = true ↔ a.data.toList = b.data.toList := by
  unfold sameName
  rw [beq_iff_eq]
  have h : ∀ x : ByteArray, x.toList = x.data.toList := fun x => ByteArray.toList_eq x
  rw [h, h]

theorem uniqueB_iff (l : List ByteArray) : uniqueB l = true ↔ (∀ x ∈ bytesL l, x ≠ []) ∧ (bytesL l).Nodup := by
  unfold uniqueB
  simp only [List.all_eq_true, List.mem_range, Bool.and_eq_true, Bool.not_eq_true']
  have hn : ∀ i, i < l.length → nth (bytesL l) i = (nth l i).data.toList := fun i hi => by unfold bytesL; exact nth_map _ _ _ hi
  have hlen : (bytesL l).length = l.length := by simp [bytesL]
  constructor
  · intro h
    refine ⟨fun x hx => ?_, List.pairwise_iff_getElem.2 fun i j hi hj hij he => ?_⟩
    · obtain ⟨i, hi, rfl⟩ := List.mem_iff_getElem.1 hx
      rw [hlen] at hi
      have h1 := (h i hi).1
      rw [← nth_eq _ _ (by rw [hlen]; exact hi), hn i hi]
      rw [ByteArray.toList_eq] at h1
      simpa using h1
    · rw [hlen] at hi hj
      rw [← nth_eq _ _ (by rw [hlen]; exact hi), ← nth_eq _ _ (by rw [hlen]; exact hj), hn i hi, hn j hj] at he
      have h1 := (h j hj).2 i hij
      rw [(sameName_iff _ _).2 he] at h1
      cases h1
  · rintro ⟨h1, h2⟩ i hi
    refine ⟨?_, fun k hk => ?_⟩
    · have := h1 (nth (bytesL l) i) (nth_mem _ _ (by rw [hlen]; exact hi))
      rw [hn i hi] at this
      rw [ByteArray.toList_eq]
      simpa using this
    · cases hs : sameName (nth l k) (nth l i) with
      | false => rfl
      | true =>
        exfalso
        have he := (sameName_iff _ _).1 hs
        rw [← hn k (by omega), ← hn i hi, nth_eq _ _ (by rw [hlen]; omega), nth_eq _ _ (by rw [hlen]; exact hi)] at he
        exact (List.pairwise_iff_getElem.1 h2) k i (by rw [hlen]; omega) (by rw [hlen]; exact hi) hk he

theorem nodup_perm {α : Type} {l l' : List α} (h : l.Perm l') : l.Nodup ↔ l'.Nodup := h.nodup_iff

theorem unique_law (l : List ByteArray) : (!decide ([] ∈ sortS (bytesL l)) && decide ((Lib.compact (sortS (bytesL l))).length = l.length)) = uniqueB l := by
  rw [Bool.eq_iff_iff, uniqueB_iff]
  simp only [Bool.and_eq_true, Bool.not_eq_true', decide_eq_false_iff_not, decide_eq_true_eq]
  have hlen : l.length = (sortS (bytesL l)).length := by rw [sortS_len]; simp [bytesL]
  rw [hlen, compact_len, sorted_nodup _ (sortS_le _), nodup_perm (show (sortS (bytesL l)).Perm (bytesL l) from List.mergeSort_perm _ _), sortS_mem]
  constructor
  · rintro ⟨h1, h2⟩
    exact ⟨fun x hx he => h1 (by rw [← he]; exact hx), h2⟩
  · rintro ⟨h1, h2⟩
    exact ⟨fun h => h1 _ h rfl, h2⟩

/-! ### The walk. -/
theorem own_casesS {base : Nat} {e : TypeId} {w : World} {v : Value} {l : List ByteArray} (h : OwnE strE base e w v l) :
    (v = .slice none 0 0 ∧ l = []) ∨ ∃ g cap cur, v = .slice (some ⟨g, 0, none⟩) l.length cap ∧ base ≤ g ∧ w.heap[g]? = some (.cells cur e (0, 0)) ∧ l.length ≤ cap ∧ cap ≤ maxLen ∧ cur.size = cap * 1 ∧ cur.toList.take l.length = l.map Value.string := by
  unfold OwnE at h
  rw [flat_str] at h
  rcases h.2 with ⟨rfl, h0⟩ | ⟨g, cap, cur, rfl, hb, hg, hn, hm, hs, ht⟩
  · exact .inl ⟨rfl, List.eq_nil_of_length_eq_zero h0⟩
  · exact .inr ⟨g, cap, cur, rfl, hb, hg, hn, hm, hs, by rw [show strE.sz = 1 from rfl, Nat.mul_one] at ht; exact ht⟩

set_option maxRecDepth 100000 in
set_option maxHeartbeats 4000000 in
theorem unique_nil (a : Option Addr) (c : Nat) (w : World) :
    Calls Try.prog 49 #[.slice a 0 c] w fun e w' => e = .returned (.bool true) ∧ Below w.heap.size w w' := by
  go_enter Try.func49, Try.ntmps49
  go_wp2_with fail
  cases a with
  | none =>
    refine (Try.slices_Clone_string_nil _ _ _).mono ?_
    rintro e w1 ⟨rfl, rfl⟩
    go_wp2_with fail
    refine (Try.slices_Sort_string_none _ _ _).mono ?_
    rintro e w2 ⟨rfl, rfl⟩
    go_wp2_with fail
    refine (Try.slices_Contains_string_empty _ _ _ _).mono ?_
    rintro e w3 ⟨rfl, rfl⟩
    go_wp2_with fail
    refine (Try.slices_Compact_string_empty _ _ _).mono ?_
    rintro e w4 ⟨rfl, rfl⟩
    go_wp2_with fail
    go_ret
    exact ⟨rfl, Below.refl _ _⟩
  | some a =>
    refine (Try.slices_Clone_string_zero _ _ _).mono ?_
    rintro e w1 ⟨v1, rfl, hown, _, hb1⟩
    have HB1 := hid hb1
    obtain ⟨a1, c1, rfl⟩ : ∃ a1 c1, v1 = .slice a1 0 c1 := by
      rcases hown.2 with ⟨rfl, _⟩ | ⟨g, cap, cur, rfl, _⟩
      · exact ⟨_, _, rfl⟩
      · exact ⟨_, _, rfl⟩
    clear hown hb1
    go_wp2_with fail
    refine (Try.slices_Sort_string_none _ _ _).mono ?_
    rintro e w2 ⟨rfl, rfl⟩
    go_wp2_with fail
    refine (Try.slices_Contains_string_empty _ _ _ _).mono ?_
    rintro e w3 ⟨rfl, rfl⟩
    go_wp2_with fail
    refine (Try.slices_Compact_string_empty _ _ _).mono ?_
    rintro e w4 ⟨rfl, rfl⟩
    go_wp2_with fail
    go_ret
    exact ⟨rfl, HB1.out⟩

def bytesOfL (T : List (List UInt8)) : List ByteArray := T.map fun b => ⟨b.toArray⟩
theorem mem_bytesOfL (T : List (List UInt8)) : (⟨#[]⟩ : ByteArray) ∈ bytesOfL T ↔ [] ∈ T := by
  unfold bytesOfL
  rw [List.mem_map]
  constructor
  · rintro ⟨b, hb, he⟩
    have : b = [] := by
      have h2 : (⟨b.toArray⟩ : ByteArray).data = #[] := by rw [he]
      simpa using h2
    rw [← this]; exact hb
  · intro h
    exact ⟨[], h, rfl⟩

theorem own_cell {base : Nat} {e : TypeId} {w : World} {g cap n : Nat} {cur : Array Value} {l : List ByteArray} (hn : n = l.length) (hg : w.heap[g]? = some (.cells cur e (0, 0))) (ht : cur.toList.take n = l.map Value.string) :
    ∀ j, j < l.length → w.cell? ⟨g, 0 + j, none⟩ = some (.string (l.getD j ByteArray.empty)) := by
  intro j hj
  subst hn
  have h1 : (cur.toList.take l.length)[j]? = (l.map Value.string)[j]? := by rw [ht]
  rw [List.getElem?_take_of_lt hj] at h1
  simp only [World.cell?, hg, Nat.zero_add]
  simp only [Option.isSome_none, Bool.false_eq_true, if_false]
  rw [← Array.getElem?_toList, h1]
  simp [hj]

set_option maxRecDepth 100000 in
set_option maxHeartbeats 4000000 in
theorem unique_calls (base : Nat) (w : World) (v : Value) (l : List ByteArray) (h : OwnE strE base 9 w v l) (hl : l.length ≤ 1000) :
    Calls Try.prog 49 #[v] w fun e w' => e = .returned (.bool (uniqueB l)) ∧ Below w.heap.size w w' := by
  rcases own_casesS h with ⟨rfl, rfl⟩ | ⟨g, cap, cur, rfl, hb, hg, hc, hm, hs, ht⟩
  · exact unique_nil none 0 w
  by_cases h0 : l.length = 0
  · obtain rfl : l = [] := List.eq_nil_of_length_eq_zero h0
    exact unique_nil _ _ w
  have hcell := own_cell (base := 0) (cap := cap) rfl hg ht
  have HU := hid (unique_law l)
  have hlen : (bytesL l).length = l.length := by simp [bytesL]
  clear hg ht hs cur h
  go_enter Try.func49, Try.ntmps49
  go_wp2_with fail
  refine (Try.slices_Clone_string g 0 l.length cap l w (Nat.le_refl _) (by omega) hcell).mono ?_
  rintro e w1 ⟨v1, rfl, hown, hne, hb1⟩
  rw [List.take_length, map_enc] at hown
  rcases hown.2 with ⟨h1, _⟩ | ⟨g1, cap1, cur1, rfl, hgb, hg1, hc1, hm1, hs1, ht1⟩
  · exact absurd h1 hne
  rw [Nat.mul_one, ← hlen] at ht1
  rw [← hlen] at hc1
  have hH1 := holds_of_block hg1 ht1
  have hlt1 : g1 < w1.heap.size := (Array.getElem?_eq_some_iff.1 hg1).1
  have hsort := Try.slices_Sort_string g1 0 cap1 (bytesL l) w1 hH1 hlt1 (by omega)
  rw [hlen] at hsort
  have HB1 := hid hb1
  clear hcell hb1 hown hne
  go_wp2_with fail
  refine hsort.mono ?_
  rintro e w2 ⟨rfl, q, os, hw2⟩
  have hso : w2.ownsRow w.heap.size 9 1 (.slice (some ⟨g1, 0, none⟩) (bytesL l).length cap1) (bytesL l).length ((sortS (bytesL l)).map encStr) := by
    rw [hw2]
    exact ownsRow_sorted (sortS_len _) hgb hg1 hc1 hm1 hs1
  have hgr : w1.grownBy w2 (some g1) := by rw [hw2]; exact grownBy_sorted _
  have HB2 := hid (Below.grown HB1.out hgr HB1.out.size (fun k hk => by cases hk; exact hgb))
  clear hw2 hgr hsort hH1 hg1 ht1 hs1 hlt1
  rcases hso.2 with ⟨h1, _⟩ | ⟨g2, cap2, cur2, he2, _, hg2, hc2, hm2, hs2, ht2⟩
  · cases h1
  cases he2
  have hSL := sortS_len (bytesL l)
  rw [Nat.mul_one] at ht2
  have ht3 : cur2.toList.take (sortS (bytesL l)).length = (sortS (bytesL l)).map encStr := by rw [hSL]; exact ht2
  have hH2 := holds_of_block hg2 ht3
  have henc : (sortS (bytesL l)).map encStr = (bytesOfL (sortS (bytesL l))).map Value.string := by
    unfold bytesOfL
    rw [List.map_map]
    rfl
  have hBL : (bytesOfL (sortS (bytesL l))).length = l.length := by unfold bytesOfL; rw [List.length_map, hSL, hlen]
  have hcell2 := own_cell (base := 0) (cap := cap1) (n := (bytesL l).length) (l := bytesOfL (sortS (bytesL l))) (by rw [hBL, hlen]) hg2 (by rw [← henc]; exact ht2)
  have hcon := Try.slices_Contains_string g1 0 l.length cap1 (bytesOfL (sortS (bytesL l))) ⟨#[]⟩ w2 (by omega) (by omega) hcell2
  have hcv : Lib.containsS ((bytesOfL (sortS (bytesL l))).take l.length) ⟨#[]⟩ = decide ([] ∈ sortS (bytesL l)) := by
    rw [← hBL, List.take_length, Bool.eq_iff_iff, Lib.containsS_iff, mem_bytesOfL, decide_eq_true_eq]
  rw [hcv] at hcon
  have hcmp := Try.slices_Compact_string g1 0 cap1 (sortS (bytesL l)) w2 hH2 (by omega) (by omega)
  rw [hSL, hlen] at hcmp
  have HLE := hid (Lib.compact_length_le (sortS (bytesL l)))
  clear hcell2 hcv hH2 hg2 ht2 ht3 henc hso
  rw [hSL, hlen] at HLE
  generalize hT : Lib.compact (sortS (bytesL l)) = T at *
  generalize hD : decide ([] ∈ sortS (bytesL l)) = D at *
  have HCMP := hid hcmp
  clear hcmp
  go_wp2_with fail
  refine hcon.mono ?_
  rintro e w3 ⟨rfl, rfl⟩
  cases D with
  | true =>
    have HR := hid (show uniqueB l = false by rw [← HU.out]; rfl)
    clear HU hcon
    go_wp2_with fail
    go_ret
    exact ⟨ret_bool (by rw [HR.out]), HB2.out⟩
  | false =>
    clear hcon
    go_wp2_with fail
    refine HCMP.out.mono ?_
    rintro e w4 ⟨rfl, q2, hw4⟩
    have HB4 : Hid (Below w.heap.size w w4) := by
      rw [hw4]
      refine hid (Below.grown (w := w3) (row := some g1) HB2.out ⟨rfl, rfl, rfl, by simp [putRow, mapBlock, Sort.ahead], fun k hk hne => ?_⟩ HB2.out.size (fun k hk => by cases hk; exact hgb))
      have : g1 ≠ k := fun e => hne (by rw [e])
      simp [putRow, mapBlock, Sort.ahead, Array.getElem?_modify, this]
    clear hw4
    by_cases hle : T.length = l.length
    · have HR := hid (show uniqueB l = true by rw [← HU.out]; simp [hle])
      have g9 : ((T.length : Int) == (l.length : Int)) = true := by simp [hle]
      clear HU hle
      go_wp2_with fail
      go_ret
      exact ⟨ret_bool (by rw [HR.out]), HB4.out⟩
    · have HR := hid (show uniqueB l = false by rw [← HU.out]; simp [hle])
      have g9 : ((T.length : Int) == (l.length : Int)) = false := beq_eq_false_iff_ne.2 (by omega)
      clear HU hle
      go_wp2_with fail
      go_ret
      exact ⟨ret_bool (by rw [HR.out]), HB4.out⟩

end Go.Proofs.Ytealeofgfgbheaa
