/-
  Dominance is a partial order; the reverse postorder respects it.
-/
import Derived.Test.YtiaajdckhedofaaFlow
import Derived.Test.YtiaajdckhedofaaRDom
namespace Go.Proofs.Ytiaajdckhedofaa
set_option linter.unusedVariables false
set_option linter.unusedSimpArgs false
open Go.RowKit

theorem domN_eq (c : List Ins) (a b : Nat) : domN c a b = (nth (reachB c (-1)) (headN c a) && (nth (reachB c (-1)) (headN c b) && !nth (reachB c (headN c a : Nat)) (headN c b))) := rfl
theorem domL_in (c : List Ins) (a b : Nat) (ha : a < c.length) (hb : b < c.length) : domL c a b = domN c a b := by
  unfold domL; rw [if_pos (by omega)]; rfl

theorem headN_lt (c : List Ins) (k : Nat) (h : k < c.length) : headN c k < c.length := by
  have := headN_le c k; omega
theorem domN_iff (c : List Ins) (a b : Nat) (ha : a < c.length) (hb : b < c.length) : domN c a b = true ↔ Path c (-1) (headN c a) ∧ Path c (-1) (headN c b) ∧ ¬ Path c (headN c a : Nat) (headN c b) := by
  have h1 := headN_lt c a ha
  have h2 := headN_lt c b hb
  rw [domN_eq, reachB_at _ _ _ h1, reachB_at _ _ _ h2, reachB_at _ _ _ h2]
  simp

theorem dom_self (c : List Ins) (a : Nat) (ha : a < c.length) : domL c a a = nth (reachL c) a := by
  have h1 := headN_lt c a ha
  rw [domL_in c a a ha ha, reachL_at c a ha, Bool.eq_iff_iff, domN_iff c a a ha ha, reachB_at _ _ _ h1]
  simp only [decide_eq_true_eq]
  exact ⟨fun h => h.1, fun h => ⟨h, h, fun h2 => h2.ne rfl⟩⟩

theorem path_zero (c : List Ins) (j : Nat) : ¬ Path c ((0 : Nat) : Int) j := by
  intro h
  induction h with
  | start h _ => exact h rfl
  | step i j _ _ _ ih => exact ih

theorem dom_zero (c : List Ins) (b : Nat) (hb : b < c.length) : domL c 0 b = nth (reachL c) b := by
  have h0 : 0 < c.length := by omega
  have h1 := headN_lt c b hb
  have e : domL c 0 b = domL c ((0 : Nat) : Int) b := rfl
  rw [e, domL_in c 0 b h0 hb, reachL_at c b hb, Bool.eq_iff_iff, domN_iff c 0 b h0 hb, reachB_at _ _ _ h1]
  simp only [decide_eq_true_eq]
  have e0 : headN c 0 = 0 := rfl
  rw [e0]
  exact ⟨fun h => h.2.1, fun h => ⟨.start (by decide) h0, h, path_zero c _⟩⟩

theorem anti_aux (c : List Ins) (x y : Nat) (hxy : x ≠ y) (j : Nat) (h : Path c (-1) j) : (Path c x j ∧ Path c y j) ∨ (j = x ∧ Path c y x) ∨ (j = y ∧ Path c x y) ∨ Path c x y ∨ Path c y x := by
  induction h with
  | start _ h0 =>
    rcases Nat.eq_zero_or_pos x with h1 | h1
    · subst h1; exact .inr (.inl ⟨rfl, .start (by omega) h0⟩)
    · rcases Nat.eq_zero_or_pos y with h2 | h2
      · subst h2; exact .inr (.inr (.inl ⟨rfl, .start (by omega) h0⟩))
      · exact .inl ⟨.start (by omega) h0, .start (by omega) h0⟩
  | step i j _ hx _ ih =>
    rcases ih with ⟨h1, h2⟩ | ⟨_, h⟩ | ⟨_, h⟩ | h | h
    · by_cases h3 : j = x
      · subst h3; exact .inr (.inl ⟨rfl, .step i j h2 hx (by omega)⟩)
      · by_cases h4 : j = y
        · subst h4; exact .inr (.inr (.inl ⟨rfl, .step i j h1 hx (by omega)⟩))
        · exact .inl ⟨.step i j h1 hx (by omega), .step i j h2 hx (by omega)⟩
    · exact .inr (.inr (.inr (.inr h)))
    · exact .inr (.inr (.inr (.inl h)))
    · exact .inr (.inr (.inr (.inl h)))
    · exact .inr (.inr (.inr (.inr h)))

theorem dom_anti (c : List Ins) (a b : Nat) (ha : a < c.length) (hb : b < c.length) (h1 : domL c a b = true) (h2 : domL c b a = true) : headN c a = headN c b := by
  rw [domL_in c a b ha hb] at h1
  rw [domL_in c b a hb ha] at h2
  obtain ⟨p1, p2, p3⟩ := (domN_iff c a b ha hb).1 h1
  obtain ⟨q1, q2, q3⟩ := (domN_iff c b a hb ha).1 h2
  rcases Classical.em (headN c a = headN c b) with h | h
  · exact h
  · exfalso
    rcases anti_aux c _ _ h _ p1 with ⟨h3, _⟩ | ⟨_, h3⟩ | ⟨h3, _⟩ | h3 | h3
    · exact h3.ne rfl
    · exact q3 h3
    · exact h h3
    · exact p3 h3
    · exact q3 h3

theorem trans_aux (c : List Ins) (x y : Nat) (j : Nat) (h : Path c x j) : Path c y j ∨ Path c x y := by
  generalize hw : (x : Int) = wo at h
  induction h with
  | start h1 h0 =>
    rcases Nat.eq_zero_or_pos y with h2 | h2
    · subst h2; exact .inr (.start (by omega) h0)
    · exact .inl (.start (by omega) h0)
  | step i j hp hx hne ih =>
    rcases ih with h | h
    · by_cases h3 : j = y
      · subst h3; exact .inr (.step i j hp hx hne)
      · exact .inl (.step i j h hx (by omega))
    · exact .inr h

theorem dom_trans (c : List Ins) (a b d : Nat) (ha : a < c.length) (hb : b < c.length) (hd : d < c.length) (h1 : domL c a b = true) (h2 : domL c b d = true) : domL c a d = true := by
  rw [domL_in c a b ha hb] at h1
  rw [domL_in c b d hb hd] at h2
  rw [domL_in c a d ha hd]
  obtain ⟨p1, p2, p3⟩ := (domN_iff c a b ha hb).1 h1
  obtain ⟨q1, q2, q3⟩ := (domN_iff c b d hb hd).1 h2
  refine (domN_iff c a d ha hd).2 ⟨p1, q2, fun h => ?_⟩
  rcases trans_aux c _ (headN c b) _ h with h3 | h3
  · exact q3 h3
  · exact p3 h3

/-- How many of the first m blocks begin with a reachable instruction. -/
noncomputable def cntR (c : List Ins) (m : Nat) : Nat := ((List.range m).filter fun q => nth (reachL c) (fr c q)).length
theorem cntR_succ (c : List Ins) (m : Nat) : cntR c (m + 1) = if nth (reachL c) (fr c m) = true then cntR c m + 1 else cntR c m := by
  unfold cntR
  rw [List.range_succ, List.filter_append, List.length_append]
  split
  · rename_i h; simp [h]
  · rename_i h; simp [h]

theorem reverse_pw {α : Type} (R : α → α → Prop) (l : List α) (h : l.Pairwise R) : l.reverse.Pairwise (fun a b => R b a) := List.pairwise_reverse.2 h

section
variable {p : Prg} {f : Fun} (hf : Fok p f)
include hf

open Classical in
/-- What is known of the reverse postorder. -/
theorem Fok.order : (orderL f.code).length = cntR f.code (bN f.code) ∧ 0 < (orderL f.code).length ∧ nth (orderL f.code) 0 = 0 ∧ (∀ i, i < (orderL f.code).length → 0 ≤ nth (orderL f.code) i ∧ nth (orderL f.code) i < bN f.code) ∧
    ∀ i k, k < i → i < (orderL f.code).length → nth (orderL f.code) k ≠ nth (orderL f.code) i ∧ domL f.code (fr f.code (nth (orderL f.code) i).toNat) (fr f.code (nth (orderL f.code) k).toNat) = false := by
  have hbl : (blksL f.code).length = bN f.code := blksL_len f.code
  have hpos := (blksL_pos f.code hf.jok).1
  obtain ⟨D, h1, h2, h3, h4, h5⟩ := dfs_all (nxL f.code) (blksL f.code).length hpos (nxL_in f.code hf.jok)
  have hO : orderL f.code = ((D ++ [0]).map toI).reverse := by unfold orderL; rw [h1]
  have hO2 : orderL f.code = ((D ++ [0]).reverse).map toI := by rw [hO, List.map_reverse]
  have hreach : ∀ q, q < bN f.code → (nth (reachL f.code) (fr f.code q) = true ↔ q ∈ D ++ [0]) := by
    intro q hq
    obtain ⟨g1, g2, g3⟩ := fr_to f.code q hq
    have hlt : fr f.code q < f.code.length := by omega
    rw [reachL_at _ _ hlt, headN_self _ _ (hf.leadCase _ hlt g3), reachB_at _ _ _ hlt, decide_eq_true_eq, h5 q]
    constructor
    · intro h
      have := (hf.blocks_of_path _ h).2.2
      rwa [numOf_eq f.code q _ hq (Nat.le_refl _) g1] at this
    · intro h
      exact (hf.path_of_blocks (-1) _ (fun j _ _ i _ _ => by omega) q h).2
  have hlen : (orderL f.code).length = (D ++ [0]).length := by rw [hO2]; simp
  refine ⟨?_, by rw [hlen]; simp, by rw [hO]; simp [nth, toI], fun i hi => ?_, fun i k hk hi => ?_⟩
  · rw [hlen]
    unfold cntR
    refine List.Perm.length_eq ?_
    refine (List.perm_ext_iff_of_nodup h2 ((List.nodup_range).filter _)).2 fun q => ?_
    simp only [List.mem_filter, List.mem_range]
    constructor
    · intro h
      have := h4 q h
      rw [hbl] at this
      exact ⟨this, (hreach q this).2 h⟩
    · rintro ⟨hq, h⟩
      exact (hreach q hq).1 h
  · rw [hO2] at hi ⊢
    rw [nth_map' _ _ _ (by simpa using hi)]
    have := h4 (nth (D ++ [0]).reverse i) (List.mem_reverse.1 (nth_mem _ _ (by simpa using hi)))
    rw [hbl] at this
    unfold toI
    omega
  · have hpw := reverse_pw _ _ h3
    have hnd : (D ++ [0]).reverse.Pairwise (fun a b => a ≠ b) := by
      refine List.pairwise_reverse.2 (List.pairwise_iff_getElem.2 fun i j hi hj hij e => ?_)
      exact (List.pairwise_iff_getElem.1 h2) i j hi hj hij e.symm
    rw [hO2] at hi ⊢
    have hi' : i < ((D ++ [0]).reverse).length := by simpa using hi
    have hk' : k < ((D ++ [0]).reverse).length := by omega
    rw [nth_map' _ _ _ hi', nth_map' _ _ _ hk']
    have hav := List.pairwise_iff_getElem.1 hpw k i hk' hi' hk
    have hne := (List.pairwise_iff_getElem.1 hnd) k i hk' hi' hk
    rw [← nth_eq _ _ hk', ← nth_eq _ _ hi'] at hav hne
    have hbk := h4 _ (List.mem_reverse.1 (nth_mem _ _ hk'))
    have hbi := h4 _ (List.mem_reverse.1 (nth_mem _ _ hi'))
    generalize nth ((D ++ [0]).reverse) k = qa at *
    generalize nth ((D ++ [0]).reverse) i = qb at *
    rw [hbl] at hbk hbi
    refine ⟨by unfold toI; omega, ?_⟩
    have ea : (toI qa).toNat = qa := by unfold toI; omega
    have eb : (toI qb).toNat = qb := by unfold toI; omega
    rw [ea, eb]
    obtain ⟨a1, a2, a3⟩ := fr_to f.code qa hbk
    obtain ⟨b1, b2, b3⟩ := fr_to f.code qb hbi
    have hla : fr f.code qa < f.code.length := by omega
    have hlb : fr f.code qb < f.code.length := by omega
    rw [domL_in _ _ _ hlb hla]
    rw [← Bool.not_eq_true, domN_iff _ _ _ hlb hla, headN_self _ _ (hf.leadCase _ hla a3), headN_self _ _ (hf.leadCase _ hlb b3)]
    rintro ⟨_, _, h6⟩
    refine h6 (hf.path_of_blocks (fr f.code qb : Nat) _ (fun j hj hjb i hi1 hi2 he => ?_) qa hav).2
    have hii : i = fr f.code qb := by omega
    have e1 := numOf_eq f.code j i hjb hi1 hi2
    have e2 := numOf_eq f.code qb i hbi (by omega) (by omega)
    exact hj (e1.symm.trans e2)

end

end Go.Proofs.Ytiaajdckhedofaa
