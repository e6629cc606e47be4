/-
  Package lattice's May, walked.
-/
import Derived.Test.YtnbffkcnhphdnaaZChain
import Derived.Test.YtnbffkcnhphdnaaZMay42
namespace Go.Proofs.Ytnbffkcnhphdnaa
set_option linter.unusedVariables false
set_option linter.unusedSimpArgs false
open Go.RowKit

theorem bcellB {B : Nat} {W w1 : World} (hb : Below B W w1) : (∀ b o, b < B → w1.cell? ⟨b, o, none⟩ = W.cell? ⟨b, o, none⟩) ∧ (∀ b o, b < B → w1.frozen? ⟨b, o, none⟩ = W.frozen? ⟨b, o, none⟩) :=
  ⟨fun b o h => hb.cell (p := ⟨b, o, none⟩) h, fun b o h => hb.frozen (p := ⟨b, o, none⟩) h⟩
theorem totV_sub : ∀ {s t : List (List Int)}, s.length = t.length → IncV s → IncV t → SubV s t → totV s ≤ totV t ∧ (totV s = totV t → s = t)
  | [], [], _, _, _, _ => ⟨Nat.le_refl _, fun _ => rfl⟩
  | [], _ :: _, h, _, _, _ => by simp at h
  | _ :: _, [], h, _, _, _ => by simp at h
  | x :: s, y :: t, h, h1, h2, h3 => by
    obtain ⟨i1, i2⟩ := totV_sub (s := s) (t := t) (by simpa using h) (fun i => h1 (i + 1)) (fun i => h2 (i + 1)) (fun i r hr => h3 (i + 1) r hr)
    obtain ⟨j1, j2⟩ := inc_len42 (h1 0) (h2 0) (h3 0)
    have e0 : ∀ (z : List Int) (u : List (List Int)), nth (z :: u) 0 = z := fun _ _ => rfl
    rw [e0, e0] at j1 j2
    unfold totV at *
    simp only [List.map_cons, List.sum_cons]
    refine ⟨by omega, fun he => ?_⟩
    rw [j2 (by omega), i2 (by omega)]

theorem mayAt_in {n : Nat} {E : List Edg} {S x : List (List Int)} {U : List Int} (h : GOk n E S U) (hx : ∀ i r, r ∈ nth x i → r ∈ U) (i : Nat) (r : Int) (hr : r ∈ mayAt n E S x i) : r ∈ U := by
  unfold mayAt at hr
  rw [mayFold_mem] at hr
  rcases hr with hr | ⟨e, he, _, h1⟩
  · unfold may0 at hr
    split at hr
    · rename_i hi
      rw [setL_mem] at hr
      exact (h.s i hi).2 r hr
    · cases hr
  · rw [thru_mem] at h1
    rcases h1 with ⟨h2, _⟩ | h2
    · exact hx _ r h2
    · obtain ⟨q, hq, rfl⟩ := List.mem_iff_getElem.1 he
      rw [← nth_eq _ _ hq] at h2
      exact h.g q hq r h2
theorem mayIter_in {n : Nat} {E : List Edg} {S : List (List Int)} {U : List Int} (h : GOk n E S U) : ∀ k i r, r ∈ nth (mayIter n E S k) i → r ∈ U
  | 0, i, r, hr => by
    rw [mayIter, nth_replV] at hr
    split at hr <;> cases hr
  | k + 1, i, r, hr => by
    rw [mayIter, mayStep_nth] at hr
    split at hr
    · exact mayAt_in h (mayIter_in h k) i r hr
    · cases hr
theorem mustIter_in (n : Nat) (E : List Edg) (S : List (List Int)) (all : List Int) : ∀ k i r, r ∈ nth (mustIter n E S all k) i → r ∈ all
  | 0, i, r, hr => by
    rw [mustIter, nth_replV] at hr
    split at hr
    · rwa [setL_mem] at hr
    · cases hr
  | k + 1, i, r, hr => by
    rw [mustIter, mustStep_nth] at hr
    split at hr
    · exact mustAt_all hr
    · cases hr
theorem may_grows {n : Nat} {E : List Edg} {S : List (List Int)} (k : Nat) (hne : mayIter n E S k ≠ mayIter n E S (k + 1)) : totV (mayIter n E S k) < totV (mayIter n E S (k + 1)) := by
  obtain ⟨h1, h2⟩ := totV_sub (by rw [mayIter_len, mayIter_len]) (mayIter_inc n E S k) (mayIter_inc n E S (k + 1)) (mayIter_up n E S k)
  rcases Nat.lt_or_eq_of_le h1 with h | h
  · exact h
  · exact absurd (h2 h) hne
theorem must_shrinks {n : Nat} {E : List Edg} {S : List (List Int)} {all : List Int} (k : Nat) (hne : mustIter n E S all k ≠ mustIter n E S all (k + 1)) : totV (mustIter n E S all (k + 1)) < totV (mustIter n E S all k) := by
  obtain ⟨h1, h2⟩ := totV_sub (by rw [mustIter_len, mustIter_len]) (mustIter_inc n E S all (k + 1)) (mustIter_inc n E S all k) (mustIter_down n E S all k)
  rcases Nat.lt_or_eq_of_le h1 with h | h
  · exact h
  · exact absurd (h2 h).symm hne
theorem may_max {n : Nat} {E : List Edg} {S : List (List Int)} {U : List Int} (h : GOk n E S U) (k : Nat) : totV (mayIter n E S k) ≤ n * U.length :=
  totV_le (mayIter_len n E S k) fun i _ => inc_sub_len (mayIter_inc n E S k i) (mayIter_in h k i)
theorem may_exists {n : Nat} {E : List Edg} {S : List (List Int)} {U : List Int} (h : GOk n E S U) : ∃ X, IsMay n E S X := by
  have key : ∀ m k, n * U.length - totV (mayIter n E S k) ≤ m → ∃ X, IsMay n E S X := by
    intro m
    induction m with
    | zero =>
      intro k hk
      rcases Classical.em (mayIter n E S k = mayIter n E S (k + 1)) with e | e
      · exact ⟨_, ⟨k, rfl⟩, e.symm⟩
      · have := may_grows k e
        have := may_max h (k + 1)
        omega
    | succ m ih =>
      intro k hk
      rcases Classical.em (mayIter n E S k = mayIter n E S (k + 1)) with e | e
      · exact ⟨_, ⟨k, rfl⟩, e.symm⟩
      · have := may_grows k e
        have := may_max h (k + 1)
        exact ih (k + 1) (by omega)
  exact key _ 0 (Nat.le_refl _)
theorem must_exists (n : Nat) (E : List Edg) (S : List (List Int)) (all : List Int) : ∃ X, IsMust n E S all X := by
  have key : ∀ m k, totV (mustIter n E S all k) ≤ m → ∃ X, IsMust n E S all X := by
    intro m
    induction m with
    | zero =>
      intro k hk
      rcases Classical.em (mustIter n E S all k = mustIter n E S all (k + 1)) with e | e
      · exact ⟨_, ⟨k, rfl⟩, e.symm⟩
      · have := must_shrinks k e
        omega
    | succ m ih =>
      intro k hk
      rcases Classical.em (mustIter n E S all k = mustIter n E S all (k + 1)) with e | e
      · exact ⟨_, ⟨k, rfl⟩, e.symm⟩
      · have := must_shrinks k e
        exact ih (k + 1) (by omega)
  exact key _ 0 (Nat.le_refl _)

set_option maxHeartbeats 1000000 in
theorem may_no (x : Int) (va : Option Addr) (vn vc : Nat) (vs : Value) (w : World) (h : x < 1) :
    Calls Try.prog 13 #[.int .i64 x, .slice va vn vc, vs] w fun e w' => e = .returned (.slice none 0 0) ∧ Below w.heap.size w w' := by
  go_enter Try.func13, Try.ntmps13
  go_wp2_with fail
  go_ret
  exact ⟨rfl, (Below.refl _ _).alloc (Nat.le_refl _) _⟩

noncomputable def planMayC : Plan := mkPlan (regionOf Try.f13 3) [(3, .new), (5, .new)] []

set_option maxRecDepth 100000 in
set_option maxHeartbeats 4000000 in
theorem may_calls (lo1 lo2 : Nat) (ve vs : Value) (n : Nat) (E : List Edg) (S : List (List Int)) (U : List Int) (w : World) (hE : EdgesAt lo1 w ve E) (hS : LaysAt lo2 w vs S) (hg : GOk n E S U) (hn : 1 ≤ n) :
    Calls Try.prog 13 #[.int .i64 n, ve, vs] w fun e w' => ∃ v X, e = .returned v ∧ IsMay n E S X ∧ LaysAt 0 w' v X ∧ Below w.heap.size w w' := by
  have HE := hid hE
  have HS := hid hS
  have HG := hid hg
  have hn2 := hg.n
  have hul := hg.u
  obtain ⟨ea, ec, _, _, _, _, rfl, _⟩ := hE.open
  have hlt1 : ¬ (n : Int) < 1 := by omega
  have hlt2 : ¬ 100000 < (n : Int) := by omega
  have hel := hg.e.1
  clear hE hS hg
  go_enter Try.func13, Try.ntmps13
  go_wp2_with fail
  generalize hW : World.alloc _ _ = W
  have hbW : Below w.heap.size w W := by rw [← hW]; exact (Below.refl _ _).alloc (Nat.le_refl _) _
  have c0 : W.cell? ⟨w.heap.size, 0, none⟩ = some (.slice ea E.length ec) := by rw [← hW]; simp
  have s1 : w.heap.size < W.heap.size := by rw [← hW]; simp
  have HBW := hid hbW
  clear hW hbW
  refine Plan.wp_chain planMayC W.heap.size (by kernel_rfl) rfl (by kernel_rfl) (by kernel_rfl) ?_
  repeat (first | (apply Plan.chain_skip rfl rfl; simp only [Act.put, List.setIfInBounds_toArray, List.set_cons_zero, List.set_cons_succ]) | (apply Plan.chain_det rfl rfl; (· intro w' hb; obtain ⟨hcl, hfz⟩ := bcellB hb; go_simp; rfl); simp only [Act.put, List.setIfInBounds_toArray, List.set_cons_zero, List.set_cons_succ]))
  refine Plan.chain_call 38 #[.int .i64 n, vs, .slice none 0 0] (fun v w' => LaysAt 0 w' v ((List.range n).map (may0 S)) ∧ Below W.heap.size W w') rfl rfl rfl (by go_simp) ?_ (fun v w' h => h.2) (fun v w1 h => ?_)
  · refine (sets_calls lo2 0 vs (.slice none 0 0) n S [] W.drew (HS.out.keep (Keep.below (HBW.out.drew))) (SlE.nil _ _ _) hn2 (by simp) (fun i hi => by have := (HG.out.s i hi).1; omega)).mono ?_
    rintro e w' ⟨g, ss, rfl, hv, hb⟩
    exact ⟨_, rfl, hv.lays (by simp; omega), ((Below.refl _ _).drew).trans hb⟩
  obtain ⟨hl, hb1⟩ := h
  have HL := hid hl
  have HB1 := hid (bvia HBW.out hb1)
  have HB1W := hid hb1
  have c1 := (hb1.cell (p := ⟨w.heap.size, _, none⟩) s1).trans c0
  have s2 : w.heap.size < w1.heap.size := Nat.lt_of_lt_of_le s1 hb1.size
  clear hl hb1
  have HC1 := hid c1
  repeat (first | (apply Plan.chain_skip rfl rfl; simp only [Act.put, List.setIfInBounds_toArray, List.set_cons_zero, List.set_cons_succ]) | (apply Plan.chain_det rfl rfl; (· intro w' hb; obtain ⟨hcl, hfz⟩ := bcellB hb; go_simp; rfl); simp only [Act.put, List.setIfInBounds_toArray, List.set_cons_zero, List.set_cons_succ]))
  refine Plan.chain_call 37 #[.slice ea E.length ec, v, .func (.func 28) #[] #[], .func (.func 39) #[] #[], .func (.func 40) #[] #[.pointer (some ⟨w.heap.size, 0, none⟩)]] (fun v w' => (∃ X, IsMay n E S X ∧ LaysAt 0 w' v X) ∧ Below W.heap.size W w') rfl rfl rfl (by go_simp) ?_ (fun v w' h => h.2) (fun v9 w9 h => ?_)
  · refine (solve_calls 28 40 lo1 w.heap.size n _ v E unionL (fun i x => thru (nth E i) x) (OkU U) ((List.range n).map (may0 S)) (fun s => n * U.length - totV s) w1 enters28 enters40 (HE.out.below HB1.out) HL.out (may_alg HG.out) (by omega) hn2 hel (fun a ha => Nat.le_trans (inc_sub_len ha.1 ha.2) (by omega)) (by
      have : n * U.length ≤ 1000 * 500 := Nat.mul_le_mul hn2 hul
      show n * U.length - _ ≤ 1000000
      omega) (fun a b va vb w' ha hb hia hib hbl => ?_) (fun i x vx w' hi hx hix hbl => ?_)).mono ?_
    · exact lunion_calls 0 0 va vb a b w' hia hib (Nat.le_trans (inc_sub_len ha.1 ha.2) (by omega)) (Nat.le_trans (inc_sub_len hb.1 hb.2) (by omega))
    · exact may1_calls lo1 0 _ vx w.heap.size i E x w' (HE.out.below (bvia HB1.out hbl)) HG.out.e ((hbl.cell (p := ⟨w.heap.size, _, none⟩) s2).trans HC1.out) hix hi (Nat.le_trans (inc_sub_len hx.1 hx.2) (by omega))
    · rintro e w' ⟨v', V, rfl, hV, hst, hcl, hb⟩
      obtain ⟨X, hX⟩ := may_exists HG.out
      have e := may_solved hX hst hcl
      subst e
      exact ⟨v', rfl, ⟨V, hX, hV⟩, bvia HB1W.out hb⟩
  obtain ⟨⟨X, hX, hV⟩, hb9⟩ := h
  have HX := hid hX
  have HV := hid hV
  have HB9 := hid (bvia HBW.out hb9)
  clear hX hV hb9 c0 c1
  repeat (first | (apply Plan.chain_skip rfl rfl; simp only [Act.put, List.setIfInBounds_toArray, List.set_cons_zero, List.set_cons_succ]) | (apply Plan.chain_det rfl rfl; (· intro w' hb; obtain ⟨hcl, hfz⟩ := bcellB hb; go_simp; rfl); simp only [Act.put, List.setIfInBounds_toArray, List.set_cons_zero, List.set_cons_succ]))
  refine Plan.chain_nil ?_
  go_wp2_with fail
  go_ret
  exact ⟨_, X, rfl, HX.out, HV.out, HB9.out⟩

end Go.Proofs.Ytnbffkcnhphdnaa
