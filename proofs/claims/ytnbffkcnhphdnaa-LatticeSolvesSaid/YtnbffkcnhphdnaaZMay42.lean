/-
  Package lattice's May and Must.
-/
import Derived.Test.YtnbffkcnhphdnaaZSteps42
import Derived.Test.YtnbffkcnhphdnaaZSolve42
namespace Go.Proofs.Ytnbffkcnhphdnaa
set_option linter.unusedVariables false
set_option linter.unusedSimpArgs false
open Go.RowKit

/-- What is asked of a graph with its start sets: all within a universe. -/
structure GOk (n : Nat) (E : List Edg) (S : List (List Int)) (U : List Int) : Prop where
  n : n ≤ 1000
  e : EOk E
  u : U.length ≤ 500
  s : ∀ i, i < S.length → (nth S i).length ≤ 10000 ∧ ∀ r ∈ nth S i, r ∈ U
  g : ∀ i, i < E.length → ∀ r ∈ (nth E i).gen, r ∈ U

def OkU (U : List Int) (a : List Int) : Prop := Inc a ∧ ∀ r ∈ a, r ∈ U
def totV (s : List (List Int)) : Nat := (s.map List.length).sum
theorem totV_set : ∀ (s : List (List Int)) (i : Nat) (x : List Int), i < s.length → totV (s.set i x) + (nth s i).length = totV s + x.length
  | [], i, x, h => by simp at h
  | y :: s, 0, x, h => by
    have e : nth (y :: s) 0 = y := rfl
    rw [e]
    simp only [totV, List.set_cons_zero, List.map_cons, List.sum_cons]
    omega
  | y :: s, i + 1, x, h => by
    have ih := totV_set s i x (by simpa using h)
    have e : nth (y :: s) (i + 1) = nth s i := rfl
    rw [e]
    simp only [totV, List.set_cons_succ, List.map_cons, List.sum_cons] at ih ⊢
    omega
theorem totV_le {s : List (List Int)} {n m : Nat} (hl : s.length = n) (h : ∀ i, i < n → (nth s i).length ≤ m) : totV s ≤ n * m := by
  subst hl
  unfold totV
  induction s with
  | nil => simp
  | cons y s ih =>
    have h0 := h 0 (by simp)
    have e : nth (y :: s) 0 = y := rfl
    rw [e] at h0
    have h1 := ih fun i hi => h (i + 1) (by simpa using hi)
    simp only [List.map_cons, List.sum_cons, List.length_cons, Nat.succ_mul]
    omega
theorem okU_thru {E : List Edg} {U : List Int} (hg : ∀ i, i < E.length → ∀ r ∈ (nth E i).gen, r ∈ U) (i : Nat) (a : List Int) (hi : i < E.length) (h : OkU U a) : OkU U (thru (nth E i) a) :=
  ⟨thru_inc _ _, fun r hr => by
    rw [thru_mem] at hr
    rcases hr with ⟨h1, _⟩ | h1
    · exact h.2 r h1
    · exact hg i hi r h1⟩

theorem may_alg {n : Nat} {E : List Edg} {S : List (List Int)} {U : List Int} (h : GOk n E S U) : Alg n E unionL (fun i x => thru (nth E i) x) (OkU U) ((List.range n).map (may0 S)) (fun s => n * U.length - totV s) := by
  have hok0 : ∀ i, OkU U (may0 S i) := fun i => ⟨may0_inc S i, fun r hr => by
    unfold may0 at hr
    split at hr
    · rename_i hi
      rw [setL_mem] at hr
      exact (h.s i hi).2 r hr
    · cases hr⟩
  have hj : ∀ a b, OkU U a → OkU U b → OkU U (unionL a b) := fun a b ha hb => ⟨unionL_inc _ _, fun r hr => by
    rw [unionL_mem] at hr
    exact hr.elim (ha.2 r) (hb.2 r)⟩
  have hsteps : ∀ u, Steps n E unionL (fun i x => thru (nth E i) x) ((List.range n).map (may0 S)) u → u.length = n ∧ ∀ i, i < n → OkU U (nth u i) := by
    intro u hu
    induction hu with
    | refl => exact ⟨by simp, fun i hi => by rw [nth_rmap _ _ _ hi]; exact hok0 i⟩
    | step i _ hi hin ih =>
      have hb := (insideB_iff n _).1 hin
      refine ⟨by simpa using ih.1, fun j hj' => ?_⟩
      rw [nth_setV _ _ _ _ (by rw [ih.1]; omega)]
      split
      · exact hj _ _ (ih.2 _ (by omega)) (okU_thru h.g _ _ hi (ih.2 _ (by omega)))
      · exact ih.2 j hj'
  refine ⟨hj, fun i a hi ha => okU_thru h.g i a hi ha, fun a t y ha ht hy e => ?_, fun a y ha hy => ?_, by simp, fun i hi => by rw [nth_rmap _ _ _ hi]; exact hok0 i, fun u i hu hi hin hns => ?_⟩
  · refine inc_ext _ _ (unionL_inc _ _) (unionL_inc _ _) fun x => ?_
    have h1 : x ∈ t → x ∈ a := fun hx => by rw [← e, unionL_mem]; exact .inr hx
    rw [unionL_mem, unionL_mem]
    exact ⟨fun hx => hx.elim id fun k => .inl (h1 k), .inl⟩
  · refine inc_ext _ _ (unionL_inc _ _) (unionL_inc _ _) fun x => ?_
    rw [unionL_mem, unionL_mem]
    exact ⟨fun hx => hx.elim id .inr, .inl⟩
  · obtain ⟨hl, hok⟩ := hsteps u hu
    have hb := (insideB_iff n _).1 hin
    have hd : (nth E i).dst.toNat < n := by omega
    have hst := totV_set u (nth E i).dst.toNat (unionL (nth u (nth E i).dst.toNat) (thru (nth E i) (nth u (nth E i).src.toNat))) (by rw [hl]; exact hd)
    have hlt := (inc_len42 (hok _ hd).1 (unionL_inc (nth u (nth E i).dst.toNat) (thru (nth E i) (nth u (nth E i).src.toNat))) fun r hr => by rw [unionL_mem]; exact .inl hr)
    have hne : (nth u (nth E i).dst.toNat).length ≠ (unionL (nth u (nth E i).dst.toNat) (thru (nth E i) (nth u (nth E i).src.toNat))).length := fun e => hns (by unfold Sat; exact (hlt.2 e).symm)
    have hu2 := hsteps _ (Steps.step i hu hi hin)
    have hmax := totV_le hu2.1 (m := U.length) fun j hj' => inc_sub_len (hu2.2 j hj').1 (hu2.2 j hj').2
    have h1 := hlt.1
    show n * U.length - totV _ < n * U.length - totV u
    omega

theorem must_alg {n : Nat} {E : List Edg} {S : List (List Int)} {all U : List Int} (h : GOk n E S U) (ha : ∀ r ∈ all, r ∈ U) : Alg n E meetL (fun i x => thru (nth E i) x) (OkU U) ((List.range n).map (must0 S all)) totV := by
  have hok0 : ∀ i, OkU U (must0 S all i) := fun i => ⟨must0_inc S all i, fun r hr => by
    unfold must0 at hr
    split at hr
    · rw [meetL_mem, setL_mem] at hr; exact ha r hr.1
    · rw [setL_mem] at hr; exact ha r hr⟩
  have hj : ∀ a b, OkU U a → OkU U b → OkU U (meetL a b) := fun a b ha hb => ⟨meetL_inc _ ha.1, fun r hr => by
    rw [meetL_mem] at hr
    exact ha.2 r hr.1⟩
  have hsteps : ∀ u, Steps n E meetL (fun i x => thru (nth E i) x) ((List.range n).map (must0 S all)) u → u.length = n ∧ ∀ i, i < n → OkU U (nth u i) := by
    intro u hu
    induction hu with
    | refl => exact ⟨by simp, fun i hi => by rw [nth_rmap _ _ _ hi]; exact hok0 i⟩
    | step i _ hi hin ih =>
      have hb := (insideB_iff n _).1 hin
      refine ⟨by simpa using ih.1, fun j hj' => ?_⟩
      rw [nth_setV _ _ _ _ (by rw [ih.1]; omega)]
      split
      · exact hj _ _ (ih.2 _ (by omega)) (okU_thru h.g _ _ hi (ih.2 _ (by omega)))
      · exact ih.2 j hj'
  refine ⟨hj, fun i a hi ha => okU_thru h.g i a hi ha, fun a t y ha ht hy e => ?_, fun a y ha hy => ?_, by simp, fun i hi => by rw [nth_rmap _ _ _ hi]; exact hok0 i, fun u i hu hi hin hns => ?_⟩
  · refine inc_ext _ _ (meetL_inc _ (meetL_inc _ ha.1)) (meetL_inc _ ha.1) fun x => ?_
    have h1 : x ∈ a → x ∈ t := fun hx => by rw [← e, meetL_mem] at hx; exact hx.2
    rw [meetL_mem, meetL_mem]
    exact ⟨fun hx => hx.1, fun hx => ⟨hx, h1 hx.1⟩⟩
  · refine inc_ext _ _ (meetL_inc _ (meetL_inc _ ha.1)) (meetL_inc _ ha.1) fun x => ?_
    rw [meetL_mem, meetL_mem]
    exact ⟨fun hx => hx.1, fun hx => ⟨hx, hx.2⟩⟩
  · obtain ⟨hl, hok⟩ := hsteps u hu
    have hb := (insideB_iff n _).1 hin
    have hd : (nth E i).dst.toNat < n := by omega
    have hst := totV_set u (nth E i).dst.toNat (meetL (nth u (nth E i).dst.toNat) (thru (nth E i) (nth u (nth E i).src.toNat))) (by rw [hl]; exact hd)
    have hlt := (inc_len42 (meetL_inc (thru (nth E i) (nth u (nth E i).src.toNat)) (hok _ hd).1) (hok _ hd).1 fun r hr => by rw [meetL_mem] at hr; exact hr.1)
    have hne : (meetL (nth u (nth E i).dst.toNat) (thru (nth E i) (nth u (nth E i).src.toNat))).length ≠ (nth u (nth E i).dst.toNat).length := fun e => hns (by unfold Sat; exact hlt.2 e)
    have h1 := hlt.1
    show totV _ < totV u
    omega

noncomputable def planMay3 : Plan := mkPlan (regionOf Try.f13 3) [(3, .new), (4, .new), (5, .new)] []
theorem enters28 : ∀ args w, (callFunc 28 args).run Try.prog w = .ok (.enter 28 args) w := fun args w => by go_simp
theorem enters30 : ∀ args w, (callFunc 30 args).run Try.prog w = .ok (.enter 30 args) w := fun args w => by go_simp
theorem enters40 : ∀ args w, (callFunc 40 args).run Try.prog w = .ok (.enter 40 args) w := fun args w => by go_simp
theorem enters42 : ∀ args w, (callFunc 42 args).run Try.prog w = .ok (.enter 42 args) w := fun args w => by go_simp

end Go.Proofs.Ytnbffkcnhphdnaa
