/-
  What linking collects, part by part, in plain words.
-/
import Derived.Test.YtealeofgfgbheaaZLkM
namespace Go.Proofs.Ytealeofgfgbheaa
set_option linter.unusedVariables false
set_option linter.unusedSimpArgs false
open Go.RowKit

def dK (L : List Prg) (k : Nat) : List Fun := (L.take k).flatMap defsP
def mK (L : List Prg) : Nat → Int
  | 0 => -1
  | k + 1 => mainK (dK L k) (mK L k) (nth L k) (nth L k).funcs.length
def gK (L : List Prg) (k : Nat) : List Glob := (L.take k).foldl (fun G P => addK G P.globals P.globals.length) []
def yJ (Y : List (List Int)) (P : Prg) (j : Nat) : List (List Int) := (P.layouts.take j).foldl addY Y
def yK (L : List Prg) (k : Nat) : List (List Int) := (L.take k).foldl (fun Y P => yJ Y P P.layouts.length) []
abbrev dL (L : List Prg) : List Fun := dK L L.length
abbrev gL (L : List Prg) : List Glob := gK L L.length
abbrev yL (L : List Prg) : List (List Int) := yK L L.length
abbrev mL (L : List Prg) : Int := mK L L.length
def nuL (L : List Prg) (P : Prg) : Int → Int → Int := numR ((dL L).map fun f => f.name) ((gL L).map fun g => g.name) (yL L) P
def rK (L : List Prg) (k : Nat) : List Fun := (L.take k).foldl (fun D P => relK (nuL L P) D P P.funcs.length) (dL L)
/-- The program that linking yields. -/
def linkL (L : List Prg) : Prg := ⟨rK L L.length, gL L, yL L, mL L⟩
/-- Whether something is missing. -/
def missB (L : List Prg) : Bool := decide (mL L < 0) || !((List.range L.length).all fun k => resB (dL L) (nth L k))

section
variable {L : List Prg} {k : Nat}
theorem dK_succ (h : k < L.length) : dK L (k + 1) = dK L k ++ defsP (nth L k) := by
  unfold dK; rw [take_succ_atD _ _ h, List.flatMap_append]; simp
theorem gK_succ (h : k < L.length) : gK L (k + 1) = addK (gK L k) (nth L k).globals (nth L k).globals.length := by
  unfold gK; rw [take_succ_atD _ _ h, List.foldl_append]; rfl
theorem yJ_succ (Y : List (List Int)) (P : Prg) (j : Nat) (h : j < P.layouts.length) : yJ Y P (j + 1) = addY (yJ Y P j) (nth P.layouts j) := by
  unfold yJ; rw [take_succ_atD _ _ h, List.foldl_append]; rfl
theorem yK_succ (h : k < L.length) : yK L (k + 1) = yJ (yK L k) (nth L k) (nth L k).layouts.length := by
  unfold yK; rw [take_succ_atD _ _ h, List.foldl_append]; rfl
theorem rK_succ (h : k < L.length) : rK L (k + 1) = relK (nuL L (nth L k)) (rK L k) (nth L k) (nth L k).funcs.length := by
  unfold rK; rw [take_succ_atD _ _ h, List.foldl_append]; rfl
theorem rK_zero : rK L 0 = dL L := rfl
theorem rK_names : ∀ k, k ≤ L.length → (rK L k).map (fun f => f.name) = (dL L).map fun f => f.name
  | 0, _ => rfl
  | k + 1, h => by rw [rK_succ h, relK_names]; exact rK_names k (by omega)
theorem rK_len (k : Nat) (h : k ≤ L.length) : (rK L k).length = (dL L).length := by
  have := congrArg List.length (rK_names (L := L) k h)
  simpa using this
theorem nth_memL (h : k < L.length) : nth L k ∈ L := nth_mem L k h
theorem dK_prefix (k : Nat) (h : k ≤ L.length) : ∃ R, dL L = dK L k ++ R := by
  unfold dL dK
  refine ⟨(L.drop k).flatMap defsP, ?_⟩
  rw [List.take_length, ← List.flatMap_append, List.take_append_drop]
theorem defsK_prefix (P : Prg) (j : Nat) : ∃ R, defsP P = defsK P j ++ R := by
  unfold defsP defsK
  exact ⟨(P.funcs.drop j).filter isDef, by rw [← List.filter_append, List.take_append_drop]⟩
theorem mem_dL {P : Prg} {f : Fun} (hP : P ∈ L) (hf : f ∈ P.funcs) (hd : isDef f = true) : f ∈ dL L := by
  unfold dL dK
  rw [List.take_length]
  exact List.mem_flatMap.2 ⟨P, hP, List.mem_filter.2 ⟨hf, hd⟩⟩
theorem new_name (hN : ((dL L).map fun f => f.name).Nodup) (h : k < L.length) (j : Nat) (hj : j < (nth L k).funcs.length) (hd : isDef (nth (nth L k).funcs j) = true) : (nth (nth L k).funcs j).name ∉ (dK L k ++ defsK (nth L k) j).map fun f => f.name := by
  obtain ⟨R, hR⟩ := dK_prefix (L := L) (k + 1) h
  obtain ⟨R2, hR2⟩ := defsK_prefix (nth L k) (j + 1)
  rw [defsK_succ _ j hj, if_pos hd] at hR2
  rw [dK_succ h, hR2] at hR
  rw [hR] at hN
  intro hm
  rw [show dK L k ++ (defsK (nth L k) j ++ [nth (nth L k).funcs j] ++ R2) ++ R = (dK L k ++ defsK (nth L k) j) ++ ([nth (nth L k).funcs j] ++ R2 ++ R) by simp [List.append_assoc]] at hN
  rw [List.map_append, List.nodup_append] at hN
  exact hN.2.2 _ hm _ (List.mem_map.2 ⟨nth (nth L k).funcs j, by simp, rfl⟩) rfl
theorem mK_neg : ∀ k, k ≤ L.length → mK L k < 0 ∨ ∃ j, j < k ∧ 0 ≤ (nth L j).main
  | 0, _ => .inl (by simp [mK])
  | k + 1, h => by
    show mainK _ _ _ _ < 0 ∨ _
    unfold mainK
    split
    · next h1 => exact .inr ⟨k, by omega, h1.1⟩
    · rcases mK_neg k (by omega) with h2 | ⟨j, h2, h3⟩
      · exact .inl h2
      · exact .inr ⟨j, by omega, h3⟩
theorem gK_sub : ∀ k, k ≤ L.length → ∀ g ∈ gK L k, ∃ P ∈ L, g ∈ P.globals
  | 0, _, g, h => by simp [gK] at h
  | k + 1, hk, g, h => by
    rw [gK_succ hk] at h
    rcases addK_sub _ _ _ g h with h1 | h1
    · exact gK_sub k (by omega) g h1
    · exact ⟨nth L k, nth_mem L k hk, List.mem_of_mem_take h1⟩
theorem addY_sub (Y : List (List Int)) (r c : List Int) (h : c ∈ addY Y r) : c ∈ Y ∨ c = r := by
  unfold addY at h
  split at h
  · exact .inl h
  · rcases List.mem_append.1 h with h1 | h1
    · exact .inl h1
    · exact .inr (by simpa using h1)
theorem addY_mem (Y : List (List Int)) (r : List Int) : r ∈ addY Y r := by
  unfold addY; split
  · assumption
  · simp
theorem addY_mono (Y : List (List Int)) (r c : List Int) (h : c ∈ Y) : c ∈ addY Y r := by
  unfold addY; split
  · exact h
  · exact List.mem_append.2 (.inl h)
theorem addY_len (Y : List (List Int)) (r : List Int) : (addY Y r).length ≤ Y.length + 1 := by
  unfold addY; split
  · omega
  · simp
theorem yJ_len (Y : List (List Int)) (P : Prg) : ∀ j, j ≤ P.layouts.length → (yJ Y P j).length ≤ Y.length + j
  | 0, _ => by simp [yJ]
  | j + 1, h => by
    rw [yJ_succ Y P j h]
    have := addY_len (yJ Y P j) (nth P.layouts j)
    have := yJ_len Y P j (by omega)
    omega
theorem yJ_sub (Y : List (List Int)) (P : Prg) : ∀ j, j ≤ P.layouts.length → ∀ c ∈ yJ Y P j, c ∈ Y ∨ c ∈ P.layouts
  | 0, _, c, h => .inl (by simpa [yJ] using h)
  | j + 1, hj, c, h => by
    rw [yJ_succ Y P j hj] at h
    rcases addY_sub _ _ _ h with h1 | rfl
    · exact yJ_sub Y P j (by omega) c h1
    · exact .inr (nth_mem P.layouts j hj)
theorem yJ_mono (Y : List (List Int)) (P : Prg) : ∀ j, j ≤ P.layouts.length → ∀ c ∈ Y, c ∈ yJ Y P j
  | 0, _, c, h => by simpa [yJ] using h
  | j + 1, hj, c, h => by
    rw [yJ_succ Y P j hj]
    exact addY_mono _ _ _ (yJ_mono Y P j (by omega) c h)
theorem yJ_has (Y : List (List Int)) (P : Prg) : ∀ j, j ≤ P.layouts.length → ∀ i, i < j → nth P.layouts i ∈ yJ Y P j
  | 0, _, i, h => by omega
  | j + 1, hj, i, h => by
    rw [yJ_succ Y P j hj]
    rcases Nat.lt_or_ge i j with h1 | h1
    · exact addY_mono _ _ _ (yJ_has Y P j (by omega) i h1)
    · rw [show i = j by omega]; exact addY_mem _ _
theorem yK_sub : ∀ k, k ≤ L.length → ∀ c ∈ yK L k, ∃ P ∈ L, c ∈ P.layouts
  | 0, _, c, h => by simp [yK] at h
  | k + 1, hk, c, h => by
    rw [yK_succ hk] at h
    rcases yJ_sub _ _ _ (Nat.le_refl _) c h with h1 | h1
    · exact yK_sub k (by omega) c h1
    · exact ⟨nth L k, nth_mem L k hk, h1⟩
theorem yK_has : ∀ k, k ≤ L.length → ∀ i, i < k → ∀ c ∈ (nth L i).layouts, c ∈ yK L k
  | 0, _, i, h, _, _ => by omega
  | k + 1, hk, i, h, c, hc => by
    rw [yK_succ hk]
    rcases Nat.lt_or_ge i k with h1 | h1
    · exact yJ_mono _ _ _ (Nat.le_refl _) _ (yK_has k (by omega) i h1 c hc)
    · have e : i = k := by omega
      subst e
      obtain ⟨n, hn, he⟩ := List.getElem_of_mem hc
      have := yJ_has (yK L i) (nth L i) _ (Nat.le_refl _) n hn
      rw [nth_eq _ _ hn, he] at this
      exact this
end

/-- A list of parts that fit: nothing is wrong with it, but perhaps that something is missing. -/
structure LOk (L : List Prg) : Prop where
  len : L.length ≤ 64
  wf : ∀ P ∈ L, PrgWf P
  part : ∀ P ∈ L, partB P = true
  small : ∀ P ∈ L, P.funcs.length ≤ 64 ∧ P.globals.length ≤ 64 ∧ P.layouts.length ≤ 64
  code : ∀ P ∈ L, ∀ f ∈ P.funcs, f.code.length ≤ 1000000
  rowl : ∀ P ∈ L, ∀ r ∈ P.layouts, r.length ≤ 1000000
  names : ((dL L).map fun f => f.name).Nodup
  mains : ∀ i j, i < L.length → j < L.length → 0 ≤ (nth L i).main → 0 ≤ (nth L j).main → i = j
  maind : ∀ P ∈ L, ∀ j : Nat, (j : Int) = P.main → j < P.funcs.length → isDef (nth P.funcs j) = true
  mainr : ∀ P ∈ L, P.main < P.funcs.length
  par : ∀ P ∈ L, ∀ f ∈ P.funcs, ∀ i : Nat, fnd ((dL L).map fun f => f.name) f.name = some (i : Int) → (nth (dL L) i).params = f.params
  kind : ∀ P ∈ L, ∀ Q ∈ L, ∀ g ∈ P.globals, ∀ h ∈ Q.globals, g.name = h.name → g.kind = h.kind
  rng : ∀ P ∈ L, ∀ f ∈ P.funcs, ∀ x ∈ f.code, Num6 x.op → RngI P x.op x.b
  limF : (dL L).length ≤ 64
  limG : (gL L).length ≤ 64
  limY : (yL L).length ≤ 32
section
variable {L : List Prg}
theorem gK_len (h : LOk L) : ∀ k, k ≤ L.length → (gK L k).length ≤ 64 * k
  | 0, _ => by simp [gK]
  | k + 1, hk => by
    rw [gK_succ hk]
    have := addK_len (gK L k) (nth L k).globals (nth L k).globals.length
    have := gK_len h k (by omega)
    have := (h.small _ (nth_mem L k hk)).2.1
    omega
theorem dK_len (h : LOk L) : ∀ k, k ≤ L.length → (dK L k).length ≤ 64 * k
  | 0, _ => by simp [dK]
  | k + 1, hk => by
    rw [dK_succ hk, List.length_append]
    have := dK_len h k (by omega)
    have := (h.small _ (nth_mem L k hk)).1
    have h3 : (defsP (nth L k)).length ≤ (nth L k).funcs.length := List.length_filter_le _ _
    omega
theorem yK_len (h : LOk L) : ∀ k, k ≤ L.length → (yK L k).length ≤ 64 * k
  | 0, _ => by simp [yK]
  | k + 1, hk => by
    rw [yK_succ hk]
    have := yJ_len (yK L k) (nth L k) _ (Nat.le_refl _)
    have := yK_len h k (by omega)
    have := (h.small _ (nth_mem L k hk)).2.2
    omega
theorem mK_before (h : LOk L) {k : Nat} (hk : k < L.length) (hm : 0 ≤ (nth L k).main) : mK L k < 0 := by
  rcases mK_neg (L := L) k (by omega) with h1 | ⟨j, h1, h2⟩
  · exact h1
  · have := h.mains j k (by omega) hk h2 hm
    omega
end

end Go.Proofs.Ytealeofgfgbheaa
