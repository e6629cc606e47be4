/-
  Whether two lists of sets are the same; lengths of sets.
-/
import Derived.Test.YtnbffkcnhphdnaaZRef42b
import Derived.Test.YtnbffkcnhphdnaaZVat42
namespace Go.Proofs.Ytnbffkcnhphdnaa
set_option linter.unusedVariables false
set_option linter.unusedSimpArgs false
open Go.RowKit

theorem inc_len42 {l l' : List Int} (h : Inc l) (h' : Inc l') (hs : ∀ r ∈ l, r ∈ l') : l.length ≤ l'.length ∧ (l.length = l'.length → l = l') := by
  have hsub : l.Sublist l' := by
    induction l' generalizing l with
    | nil =>
      have : l = [] := by
        cases l with
        | nil => rfl
        | cons a l => have := hs a (by simp); simp at this
      rw [this]; exact List.nil_sublist _
    | cons b l' ih =>
      obtain ⟨hb, hl'⟩ := List.pairwise_cons.1 h'
      cases l with
      | nil => exact List.nil_sublist _
      | cons a l =>
        obtain ⟨ha, hl⟩ := List.pairwise_cons.1 h
        rcases List.mem_cons.1 (hs a (by simp)) with e | e
        · subst e
          refine List.Sublist.cons_cons _ (ih hl hl' fun r hr => ?_)
          rcases List.mem_cons.1 (hs r (by simp [hr])) with e | e
          · have := ha r hr; omega
          · exact e
        · refine List.Sublist.cons _ (ih h hl' fun r hr => ?_)
          rcases List.mem_cons.1 (hs r hr) with e2 | e2
          · exfalso
            subst e2
            have h1 := hb a e
            rcases List.mem_cons.1 hr with e3 | e3
            · omega
            · have := ha r e3; omega
          · exact e2
  exact ⟨hsub.length_le, hsub.eq_of_length⟩
theorem inc_sub_len {l U : List Int} (h : Inc l) (hs : ∀ r ∈ l, r ∈ U) : l.length ≤ U.length :=
  Nat.le_trans (inc_len42 h (setL_inc U) fun r hr => (setL_mem U r).2 (hs r hr)).1 (setL_length U)
theorem set_same {α : Type} [Inhabited α] (l : List α) (i : Nat) {x : α} (hi : i < l.length) (h : nth l i = x) : l.set i x = l := by
  rw [← h, nth_eq _ _ hi]
  exact List.set_getElem_self hi

noncomputable def planSame6 : Plan := mkPlan (regionOf Try.f15 6) [(8, .new)] []

set_option maxRecDepth 100000 in
set_option maxHeartbeats 4000000 in
theorem sameall_calls (lo1 lo2 : Nat) (va vb : Value) (a b : List (List Int)) (w : World) (ha : LaysAt lo1 w va a) (hb : LaysAt lo2 w vb b) :
    Calls Try.prog 15 #[va, vb] w fun e w' => e = .returned (.bool (decide (a = b))) ∧ Below w.heap.size w w' := by
  obtain ⟨aa, ac, ab, ao, AS, rfl, p1, p2, p3, p4, _, m1, n1⟩ := ha.open
  obtain ⟨ba, bc, bb, bo, BS, rfl, q1, q2, q3, q4, _, m2, n2⟩ := hb.open
  have HA := hid (And.intro p1 (And.intro p2 (And.intro p3 p4)))
  have HB := hid (And.intro q1 (And.intro q2 (And.intro q3 q4)))
  clear ha hb p1 p2 p3 p4 q1 q2 q3 q4
  by_cases hl : a.length = b.length
  · have HL := hid hl
    have hne : ((a.length : Int) != (b.length : Int)) = false := by simp [hl]
    clear hl
    go_enter Try.func15, Try.ntmps15
    go_wp2_with fail
    go_loopw [5] (fun i wr => ∃ k : Nat, k ≤ a.length ∧ i = .int .i64 k ∧ (∀ j, j < k → nth a j = nth b j) ∧ Below w.heap.size w wr) (fun i _ => a.length - (intOf i).toNat)
    case atStart => exact ⟨0, Nat.zero_le _, rfl, fun j hj => by omega, Below.refl _ _⟩
    case round =>
      obtain ⟨k, hk, rfl, hall, hbl⟩ := hrel
      obtain ⟨wo, hwo⟩ : ∃ wo, wo = wr := ⟨_, rfl⟩
      subst hwo
      have HALL := hid hall
      have HBL := hid hbl
      clear hall hbl
      by_cases hlt : k < a.length
      · have hlt2 : (k : Int) < a.length := Int.ofNat_lt.2 hlt
        have hltb : k < b.length := by have := HL.out; omega
        have hltb2 : (k : Int) < b.length := Int.ofNat_lt.2 hltb
        obtain ⟨p1, p2, p3, p4⟩ := HA.out
        obtain ⟨q1, q2, q3, q4⟩ := HB.out
        have e1 := p1 (by omega)
        have e2 := q1 (by omega)
        subst e1 e2
        have d1 := (HBL.out.cell (p := ⟨ab, _, none⟩) (p4 (by omega))).trans (p2 k hlt)
        have d2 := (HBL.out.cell (p := ⟨bb, _, none⟩) (q4 (by omega))).trans (q2 k hltb)
        have z1 : ab < wo.heap.size := Nat.lt_of_lt_of_le (p4 (by omega)) HBL.out.size
        have z2 : bb < wo.heap.size := Nat.lt_of_lt_of_le (q4 (by omega)) HBL.out.size
        have H1 := hid ((p3 k hlt).below HBL.out)
        have H2 := hid ((q3 k hltb).below HBL.out)
        clear p1 p2 p3 p4 q1 q2 q3 q4
        go_wp2_with fail
        refine Plan.wp_facts (B := wo.heap.size) planSame6 [(8, valF (.bool (intsEq (nth a k) (nth b k))))] (by kernel_rfl) rfl (by kernel_rfl) (by kernel_rfl) (Nat.le_refl _) ?_
        repeat (first | (apply Plan.runs_skip rfl rfl; simp only [Act.put, List.setIfInBounds_toArray, List.set_cons_zero, List.set_cons_succ]) | (apply Plan.runs_det rfl rfl; (· intro F w' hb hf; obtain ⟨hcl, hfz⟩ := bcell hb; go_simp; rfl); simp only [Act.put, List.setIfInBounds_toArray, List.set_cons_zero, List.set_cons_succ]))
        refine Plan.runs_call_val (.bool (intsEq (nth a k) (nth b k))) 26 #[.slice (AS k).a (nth a k).length (AS k).c, .slice (BS k).a (nth b k).length (BS k).c] rfl rfl _ rfl rfl (fun F w' hb hf => by go_simp) rfl (fun F w' hb hf => ?_) ?_
        · exact rsame_calls _ _ _ _ _ _ w' (H1.out.below hb) (H2.out.below hb)
        simp only [Act.put, List.setIfInBounds_toArray, List.set_cons_zero, List.set_cons_succ]
        cases hq : intsEq (nth a k) (nth b k) with
        | true =>
          have HQ := hid hq
          clear hq
          repeat (first | (apply Plan.runs_skip rfl rfl; simp only [Act.put, List.setIfInBounds_toArray, List.set_cons_zero, List.set_cons_succ]) | (apply Plan.runs_det rfl rfl; (· intro F w' hb hf; obtain ⟨hcl, hfz⟩ := bcell hb; go_simp; rfl); simp only [Act.put, List.setIfInBounds_toArray, List.set_cons_zero, List.set_cons_succ]))
          refine Plan.runs_nil (fun F wn hb hf => ?_)
          have HBN := hid (bvia HBL.out hb)
          clear hf hb d1 d2
          go_wp2_with fail
          go_roundw
          case rel => exact ⟨k + 1, by omega, by go_num, upto_succ HALL.out (of_decide_eq_true HQ.out), HBN.out⟩
          case measure => simp [intOf] <;> omega
        | false =>
          have HQ := hid (show decide (a = b) = false from decide_eq_false fun h => by
            have := of_decide_eq_false hq
            rw [h] at this
            exact this rfl)
          clear hq
          repeat (first | (apply Plan.runs_skip rfl rfl; simp only [Act.put, List.setIfInBounds_toArray, List.set_cons_zero, List.set_cons_succ]) | (apply Plan.runs_det rfl rfl; (· intro F w' hb hf; obtain ⟨hcl, hfz⟩ := bcell hb; go_simp; rfl); simp only [Act.put, List.setIfInBounds_toArray, List.set_cons_zero, List.set_cons_succ]))
          refine Plan.runs_nil (fun F wn hb hf => ?_)
          have HBN := hid (bvia HBL.out hb)
          clear hf hb d1 d2
          go_wp2_with fail
          go_ret
          exact ⟨by rw [HQ.out]; rfl, HBN.out⟩
      · have HQ := hid (show decide (a = b) = true from decide_eq_true (ext_nth _ _ HL.out fun j hj => HALL.out j (by omega)))
        go_wp2_with fail
        go_ret
        exact ⟨by rw [HQ.out]; rfl, HBL.out⟩
  · have hne : ((a.length : Int) != (b.length : Int)) = true := by simp; omega
    have HQ := hid (show decide (a = b) = false from decide_eq_false fun h => hl (by rw [h]))
    clear hl
    go_enter Try.func15, Try.ntmps15
    go_wp2_with fail
    go_ret
    exact ⟨by rw [HQ.out]; rfl, Below.refl _ _⟩

end Go.Proofs.Ytnbffkcnhphdnaa
