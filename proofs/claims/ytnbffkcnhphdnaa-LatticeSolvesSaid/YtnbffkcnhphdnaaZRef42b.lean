/-
  The reference's operations on sets: union, intersection, difference; an edge's transformation.
-/
import Derived.Test.YtnbffkcnhphdnaaZRef42
namespace Go.Proofs.Ytnbffkcnhphdnaa
set_option linter.unusedVariables false
set_option linter.unusedSimpArgs false
open Go.RowKit

set_option maxHeartbeats 2000000 in
theorem runion_calls (lo1 lo2 : Nat) (va vb : Value) (a b : List Int) (w : World) (ha : IntsAt lo1 w va a) (hb : IntsAt lo2 w vb b) (h1 : a.length ≤ 40000) (h2 : b.length ≤ 40000) :
    Calls Try.prog 29 #[va, vb] w fun e w' => ∃ v', e = .returned v' ∧ IntsAt w.heap.size w' v' (unionL a b) ∧ Below w.heap.size w w' := by
  have HA := hid ha
  have HB := hid hb
  clear ha hb
  go_enter Try.func29, Try.ntmps29
  go_wp2_with (first
    | (go_at_call 20
       refine (rset_calls w.heap.size _ (([] ++ a) ++ b) _ (HO11.out.sl (Nat.le_refl _) (by simp; omega)) (by simp; omega)).mono ?_
       rintro e w3 ⟨v3, rfl, h3, hb3⟩
       have H3 := hid (h3.mono HB11.out.size)
       have HB3 := hid (bvia HB11.out hb3)
       clear h3 hb3)
    | (at_builtin
       refine wpList_append_E intE rfl _ _ 34 rfl w.heap.size lo1 3 (.int .i64 0) 8 Try.underlying34 infoI42 rfl [] a (OwnE.lit intE w w.heap.size 3 [] _ w.heap.size 0 rfl (Nat.le_refl _) rfl rfl (by simp)) (SlE.below HA.out ((Below.refl _ _).alloc (Nat.le_refl _) _)) (by simp; omega) (by simp [maxLen]; omega) (by simp) ?_
       intro v10 w10 ho10 hg10
       have HO10 := hid ho10
       have HB10 := hid (Below.grownE (B := w.heap.size) ((Below.refl w.heap.size w).alloc (Nat.le_refl _) _) (OwnE.lit intE w w.heap.size 3 [] _ w.heap.size 0 rfl (Nat.le_refl _) rfl rfl (by simp)) hg10 (by simp) (Nat.le_refl _))
       clear ho10 hg10)
    | (at_builtin
       refine wpList_append_E intE rfl _ _ 34 rfl w.heap.size lo2 3 (.int .i64 0) 8 Try.underlying34 infoI42 rfl ([] ++ a) b HO10.out (SlE.below HB.out HB10.out) (by simp; omega) (by simp only [maxLen]; simp; omega) HB10.out.size ?_
       intro v11 w11 ho11 hg11
       have HO11 := hid ho11
       have HB11 := hid (Below.grownE HB10.out HO10.out hg11 HB10.out.size (Nat.le_refl _))
       clear ho11 hg11))
  go_ret
  refine ⟨_, rfl, ?_, HB3.out⟩
  have := H3.out
  rw [List.nil_append] at this
  exact this

set_option maxHeartbeats 2000000 in
theorem rmeet_calls (lo1 lo2 : Nat) (va vb : Value) (a b : List Int) (w : World) (ha : IntsAt lo1 w va a) (hb : IntsAt lo2 w vb b) (h1 : a.length ≤ 100000) :
    Calls Try.prog 24 #[va, vb] w fun e w' => ∃ v', e = .returned v' ∧ IntsAt w.heap.size w' v' (meetL a b) ∧ Below w.heap.size w w' := by
  obtain ⟨aa, ac, ab, ao, rfl, p1, q1, k1, _, _, m1, n1⟩ := ha.open
  have HQ := hid (And.intro p1 (And.intro q1 k1))
  have HB := hid hb
  clear ha hb p1 q1 k1
  go_enter Try.func24, Try.ntmps24
  go_wp2_with fail
  go_loopw [5, 6] (fun v i wr => ∃ k : Nat, k ≤ a.length ∧ i = .int .i64 k ∧ OwnE intE w.heap.size 3 wr v (meetL (a.take k) b) ∧ Below w.heap.size w wr) (fun _ i _ => a.length - (intOf i).toNat)
  case atStart => exact ⟨0, Nat.zero_le _, rfl, OwnE.nil _ _ _ _, Below.refl _ _⟩
  case round =>
    obtain ⟨k, hk, rfl, ho, hbl⟩ := hrel
    obtain ⟨wo, hwo⟩ : ∃ wo, wo = wr := ⟨_, rfl⟩
    subst hwo
    have HO := hid ho
    have HBL := hid hbl
    clear ho hbl
    by_cases hlt : k < a.length
    · have hlt2 : (k : Int) < a.length := Int.ofNat_lt.2 hlt
      obtain ⟨p1, q1, k1⟩ := HQ.out
      have e1 := p1 (by omega)
      subst e1
      have zb := k1 (by omega)
      have HX0 := hid (q1 k hlt)
      have d0 := (HBL.out.cell (p := ⟨ab, _, none⟩) zb).trans (q1 k hlt)
      have z0 : ab < wo.heap.size := Nat.lt_of_lt_of_le zb HBL.out.size
      obtain ⟨x, hx⟩ : ∃ x, nth a k = x := ⟨_, rfl⟩
      have HS := hid (show meetL (a.take (k + 1)) b = meetL (a.take k) b ++ meetL [x] b by
        unfold meetL
        rw [List.take_add_one, List.getElem?_eq_getElem hlt, List.filter_append, ← nth_eq _ _ hlt, hx]
        rfl)
      have HLE := hid (show (meetL (a.take k) b).length ≤ k from Nat.le_trans (List.length_filter_le _ _) (by rw [List.length_take]; omega))
      rw [hx] at d0 HX0
      clear p1 q1 k1 hx
      have hle1 : (meetL (a.take k) b).length ≤ k := HLE.out
      cases hd : decide (x ∈ b) with
      | true =>
        have HD := hid hd
        have HXL := hid (show meetL [x] b = [x] by unfold meetL; simp [hd])
        clear hd
        go_wp2_with (first
          | (go_at_call 45
             refine (rhas_calls lo2 vb b x _ (HB.out.below HBL.out)).mono ?_
             rw [HD.out]
             rintro e w2 ⟨rfl, hb2⟩
             have HB2 := hid (bvia HBL.out hb2)
             have HO2 := hid (show OwnE intE w.heap.size 3 w2 _ _ from HO.out.ofBlock fun j hj => hb2.block j (HO.out.lt j hj).2)
             have d2 := (hb2.cell (p := ⟨ab, _, none⟩) z0).trans d0
             have z2 : ab < w2.heap.size := Nat.lt_of_lt_of_le z0 hb2.size
             clear hb2)
          | (at_builtin
             refine wpList_append_E intE rfl _ _ 34 rfl w.heap.size 0 3 (.int .i64 0) 8 Try.underlying34 infoI42 rfl (meetL (a.take k) b) [x] (HO2.out.alloc _) (OwnE.sl (OwnE.lit intE _ 0 3 [x] _ _ 1 rfl (Nat.zero_le _) rfl rfl (by simp)) (Nat.le_refl _) (by simp)) (by simp; omega) (by simp [maxLen]; omega) (by have := HB2.out.size; simp; omega) ?_
             intro v3 w3 ho3 hg3
             have HO3 := hid ho3
             have HB3 := hid (Below.grownE (bone HB2.out _) (HO2.out.alloc _) hg3 (by have := HB2.out.size; simp; omega) (Nat.le_refl _))
             clear ho3 hg3))
        go_roundw
        case rel => exact ⟨k + 1, by omega, by go_num, by rw [HS.out, HXL.out]; exact HO3.out, HB3.out⟩
        case measure => simp [intOf] <;> omega
      | false =>
        have HD := hid hd
        have HXL := hid (show meetL [x] b = [] by unfold meetL; simp [hd])
        clear hd
        go_wp2_with (
          go_at_call 45
          refine (rhas_calls lo2 vb b x _ (HB.out.below HBL.out)).mono ?_
          rw [HD.out]
          rintro e w2 ⟨rfl, hb2⟩
          have HB2 := hid (bvia HBL.out hb2)
          have HO2 := hid (show OwnE intE w.heap.size 3 w2 _ _ from HO.out.ofBlock fun j hj => hb2.block j (HO.out.lt j hj).2)
          clear hb2)
        go_roundw
        case rel => exact ⟨k + 1, by omega, by go_num, by rw [HS.out, HXL.out, List.append_nil]; exact HO2.out, HB2.out⟩
        case measure => simp [intOf] <;> omega
    · have HK := hid (show k = a.length by omega)
      go_wp2_with fail
      go_ret
      refine ⟨_, rfl, ?_, HBL.out⟩
      have h9 : (meetL (a.take k) b).length ≤ 140737488355328 := Nat.le_trans (List.length_filter_le _ _) (by rw [List.length_take]; omega)
      have := HO.out.sl (Nat.le_refl _) h9
      rw [HK.out, List.take_length] at this
      exact this

set_option maxHeartbeats 2000000 in
theorem rminus_calls (lo1 lo2 : Nat) (va vb : Value) (a b : List Int) (w : World) (ha : IntsAt lo1 w va a) (hb : IntsAt lo2 w vb b) (h1 : a.length ≤ 100000) :
    Calls Try.prog 25 #[va, vb] w fun e w' => ∃ v', e = .returned v' ∧ IntsAt w.heap.size w' v' (minusL a b) ∧ Below w.heap.size w w' := by
  obtain ⟨aa, ac, ab, ao, rfl, p1, q1, k1, _, _, m1, n1⟩ := ha.open
  have HQ := hid (And.intro p1 (And.intro q1 k1))
  have HB := hid hb
  clear ha hb p1 q1 k1
  go_enter Try.func25, Try.ntmps25
  go_wp2_with fail
  go_loopw [5, 6] (fun v i wr => ∃ k : Nat, k ≤ a.length ∧ i = .int .i64 k ∧ OwnE intE w.heap.size 3 wr v (minusL (a.take k) b) ∧ Below w.heap.size w wr) (fun _ i _ => a.length - (intOf i).toNat)
  case atStart => exact ⟨0, Nat.zero_le _, rfl, OwnE.nil _ _ _ _, Below.refl _ _⟩
  case round =>
    obtain ⟨k, hk, rfl, ho, hbl⟩ := hrel
    obtain ⟨wo, hwo⟩ : ∃ wo, wo = wr := ⟨_, rfl⟩
    subst hwo
    have HO := hid ho
    have HBL := hid hbl
    clear ho hbl
    by_cases hlt : k < a.length
    · have hlt2 : (k : Int) < a.length := Int.ofNat_lt.2 hlt
      obtain ⟨p1, q1, k1⟩ := HQ.out
      have e1 := p1 (by omega)
      subst e1
      have zb := k1 (by omega)
      have HX0 := hid (q1 k hlt)
      have d0 := (HBL.out.cell (p := ⟨ab, _, none⟩) zb).trans (q1 k hlt)
      have z0 : ab < wo.heap.size := Nat.lt_of_lt_of_le zb HBL.out.size
      obtain ⟨x, hx⟩ : ∃ x, nth a k = x := ⟨_, rfl⟩
      have HS := hid (show minusL (a.take (k + 1)) b = minusL (a.take k) b ++ minusL [x] b by
        unfold minusL
        rw [List.take_add_one, List.getElem?_eq_getElem hlt, List.filter_append, ← nth_eq _ _ hlt, hx]
        rfl)
      have HLE := hid (show (minusL (a.take k) b).length ≤ k from Nat.le_trans (List.length_filter_le _ _) (by rw [List.length_take]; omega))
      rw [hx] at d0 HX0
      clear p1 q1 k1 hx
      have hle1 : (minusL (a.take k) b).length ≤ k := HLE.out
      cases hd : decide (x ∈ b) with
      | false =>
        have HD := hid hd
        have HXL := hid (show minusL [x] b = [x] by unfold minusL; simp [hd])
        clear hd
        go_wp2_with (first
          | (go_at_call 45
             refine (rhas_calls lo2 vb b x _ (HB.out.below HBL.out)).mono ?_
             rw [HD.out]
             rintro e w2 ⟨rfl, hb2⟩
             have HB2 := hid (bvia HBL.out hb2)
             have HO2 := hid (show OwnE intE w.heap.size 3 w2 _ _ from HO.out.ofBlock fun j hj => hb2.block j (HO.out.lt j hj).2)
             have d2 := (hb2.cell (p := ⟨ab, _, none⟩) z0).trans d0
             have z2 : ab < w2.heap.size := Nat.lt_of_lt_of_le z0 hb2.size
             clear hb2)
          | (at_builtin
             refine wpList_append_E intE rfl _ _ 34 rfl w.heap.size 0 3 (.int .i64 0) 8 Try.underlying34 infoI42 rfl (minusL (a.take k) b) [x] (HO2.out.alloc _) (OwnE.sl (OwnE.lit intE _ 0 3 [x] _ _ 1 rfl (Nat.zero_le _) rfl rfl (by simp)) (Nat.le_refl _) (by simp)) (by simp; omega) (by simp [maxLen]; omega) (by have := HB2.out.size; simp; omega) ?_
             intro v3 w3 ho3 hg3
             have HO3 := hid ho3
             have HB3 := hid (Below.grownE (bone HB2.out _) (HO2.out.alloc _) hg3 (by have := HB2.out.size; simp; omega) (Nat.le_refl _))
             clear ho3 hg3))
        go_roundw
        case rel => exact ⟨k + 1, by omega, by go_num, by rw [HS.out, HXL.out]; exact HO3.out, HB3.out⟩
        case measure => simp [intOf] <;> omega
      | true =>
        have HD := hid hd
        have HXL := hid (show minusL [x] b = [] by unfold minusL; simp [hd])
        clear hd
        go_wp2_with (
          go_at_call 45
          refine (rhas_calls lo2 vb b x _ (HB.out.below HBL.out)).mono ?_
          rw [HD.out]
          rintro e w2 ⟨rfl, hb2⟩
          have HB2 := hid (bvia HBL.out hb2)
          have HO2 := hid (show OwnE intE w.heap.size 3 w2 _ _ from HO.out.ofBlock fun j hj => hb2.block j (HO.out.lt j hj).2)
          clear hb2)
        go_roundw
        case rel => exact ⟨k + 1, by omega, by go_num, by rw [HS.out, HXL.out, List.append_nil]; exact HO2.out, HB2.out⟩
        case measure => simp [intOf] <;> omega
    · have HK := hid (show k = a.length by omega)
      go_wp2_with fail
      go_ret
      refine ⟨_, rfl, ?_, HBL.out⟩
      have h9 : (minusL (a.take k) b).length ≤ 140737488355328 := Nat.le_trans (List.length_filter_le _ _) (by rw [List.length_take]; omega)
      have := HO.out.sl (Nat.le_refl _) h9
      rw [HK.out, List.take_length] at this
      exact this

theorem minus_len (a b : List Int) : (minusL a b).length ≤ a.length := List.length_filter_le _ _
theorem meet_len (a b : List Int) : (meetL a b).length ≤ a.length := List.length_filter_le _ _

set_option maxHeartbeats 1000000 in
theorem rsubset_calls (lo1 lo2 : Nat) (va vb : Value) (a b : List Int) (w : World) (ha : IntsAt lo1 w va a) (hb : IntsAt lo2 w vb b) (h1 : a.length ≤ 100000) :
    Calls Try.prog 22 #[va, vb] w fun e w' => e = .returned (.bool (subB a b)) ∧ Below w.heap.size w w' := by
  have HA := hid ha
  have HB := hid hb
  clear ha hb
  go_enter Try.func22, Try.ntmps22
  go_wp2_with fail
  refine (rminus_calls lo1 lo2 va vb a b w HA.out HB.out h1).mono ?_
  rintro e w1 ⟨v1, rfl, h3, hb1⟩
  obtain ⟨a1, k1, b1, o1, rfl, _⟩ := h3.open
  have HE := hid (len_zero_iff (minusL a b))
  have HB1 := hid hb1
  clear h3 hb1
  go_wp2_with fail
  go_ret
  refine ⟨ret_bool ?_, HB1.out⟩
  unfold subB
  rw [← HE.out]

noncomputable def planThru : Plan := mkPlan (regionOf Try.f44 1) [(3, .new), (6, .new), (7, .new)] []
set_option maxRecDepth 100000 in
set_option maxHeartbeats 4000000 in
theorem thru_calls (lo1 lo2 : Nat) (vk vg vx : Value) (e : Edg) (x : List Int) (w : World) (hk : IntsAt lo1 w vk e.kill) (hg : IntsAt lo1 w vg e.gen) (hx : IntsAt lo2 w vx x) (h2 : e.gen.length ≤ 20000) (h3 : x.length ≤ 20000) :
    Calls Try.prog 44 #[vx, .agg #[.int .i64 e.src, .int .i64 e.dst, vk, vg]] w fun en w' => ∃ v', en = .returned v' ∧ IntsAt w.heap.size w' v' (thru e x) ∧ Below w.heap.size w w' := by
  have HK := hid hk
  have HG := hid hg
  have HX := hid hx
  clear hk hg hx
  go_enter Try.func44, Try.ntmps44
  go_wp2_with fail
  generalize hW : World.alloc _ _ = W
  have hbW : Below w.heap.size w W := by rw [← hW]; exact (Below.refl _ _).alloc (Nat.le_refl _) _
  have hr := show BoxAt W w.heap.size 47 [.int .i64 e.src, .int .i64 e.dst, vk, vg] by rw [← hW]; exact BoxAt.new _ _ _ _ _ rfl rfl
  have c2 := hr.cell 2 _ rfl
  have c3 := hr.cell 3 _ rfl
  have s1 := hr.lt
  have HBW := hid hbW
  clear hW hbW hr
  refine Plan.wp_facts (B := W.heap.size) planThru [(3, slF intE W.heap.size (minusL x e.kill)), (6, slF intE W.heap.size (setL e.gen)), (7, slF intE W.heap.size (unionL (minusL x e.kill) (setL e.gen)))] (by kernel_rfl) rfl (by kernel_rfl) (by kernel_rfl) (Nat.le_refl _) ?_
  repeat (first | (apply Plan.runs_skip rfl rfl; simp only [Act.put, List.setIfInBounds_toArray, List.set_cons_zero, List.set_cons_succ]) | (apply Plan.runs_det rfl rfl; (· intro F w' hb hf; obtain ⟨hcl, hfz⟩ := bcell hb; go_simp; rfl); simp only [Act.put, List.setIfInBounds_toArray, List.set_cons_zero, List.set_cons_succ]))
  refine Plan.runs_call_sl intE W.heap.size (minusL x e.kill) 25 #[vx, vk] rfl rfl _ rfl rfl (fun F w' hb hf => by obtain ⟨hcl, hfz⟩ := bcell hb; go_simp) rfl (fun F w' hb hf => ?_) (fun v8 => ?_)
  · refine (rminus_calls lo2 lo1 vx vk x e.kill w' ((HX.out.below HBW.out).below hb) ((HK.out.below HBW.out).below hb) (by omega)).mono ?_
    rintro en w'' ⟨v', rfl, hk, hb'⟩
    exact ⟨v', rfl, hk.mono hb.size, hb', fun k h0 h1 => .inr (hk.blk h0 k h1).1⟩
  simp only [Act.put, List.setIfInBounds_toArray, List.set_cons_zero, List.set_cons_succ]
  repeat (first | (apply Plan.runs_skip rfl rfl; simp only [Act.put, List.setIfInBounds_toArray, List.set_cons_zero, List.set_cons_succ]) | (apply Plan.runs_det rfl rfl; (· intro F w' hb hf; obtain ⟨hcl, hfz⟩ := bcell hb; go_simp; rfl); simp only [Act.put, List.setIfInBounds_toArray, List.set_cons_zero, List.set_cons_succ]))
  refine Plan.runs_call_sl intE W.heap.size (setL e.gen) 20 #[vg] rfl rfl _ rfl rfl (fun F w' hb hf => by obtain ⟨hcl, hfz⟩ := bcell hb; go_simp) rfl (fun F w' hb hf => ?_) (fun v11 => ?_)
  · refine (rset_calls lo1 vg e.gen w' ((HG.out.below HBW.out).below hb) (by omega)).mono ?_
    rintro en w'' ⟨v', rfl, hk, hb'⟩
    exact ⟨v', rfl, hk.mono hb.size, hb', fun k h0 h1 => .inr (hk.blk h0 k h1).1⟩
  simp only [Act.put, List.setIfInBounds_toArray, List.set_cons_zero, List.set_cons_succ]
  repeat (first | (apply Plan.runs_skip rfl rfl; simp only [Act.put, List.setIfInBounds_toArray, List.set_cons_zero, List.set_cons_succ]) | (apply Plan.runs_det rfl rfl; (· intro F w' hb hf; obtain ⟨hcl, hfz⟩ := bcell hb; go_simp; rfl); simp only [Act.put, List.setIfInBounds_toArray, List.set_cons_zero, List.set_cons_succ]))
  refine Plan.runs_call_sl intE W.heap.size (unionL (minusL x e.kill) (setL e.gen)) 29 #[v8, v11] rfl rfl _ rfl rfl (fun F w' hb hf => by go_simp) rfl (fun F w' hb hf => ?_) (fun v13 => ?_)
  · have h9 : SlE intE W.heap.size w' v8 (minusL x e.kill) := Plan.facts_sl hf 3 rfl (by kernel_rfl) rfl (.inl rfl)
    have h12 : SlE intE W.heap.size w' v11 (setL e.gen) := Plan.facts_sl hf 6 rfl (by kernel_rfl) rfl (.inl rfl)
    refine (runion_calls W.heap.size W.heap.size v8 v11 _ _ w' h9 h12 (by have := minus_len x e.kill; omega) (by have := setL_length e.gen; omega)).mono ?_
    rintro en w'' ⟨v', rfl, hk, hb'⟩
    exact ⟨v', rfl, hk.mono hb.size, hb', fun k h0 h1 => .inr (hk.blk h0 k h1).1⟩
  simp only [Act.put, List.setIfInBounds_toArray, List.set_cons_zero, List.set_cons_succ]
  repeat (first | (apply Plan.runs_skip rfl rfl; simp only [Act.put, List.setIfInBounds_toArray, List.set_cons_zero, List.set_cons_succ]) | (apply Plan.runs_det rfl rfl; (· intro F w' hb hf; obtain ⟨hcl, hfz⟩ := bcell hb; go_simp; rfl); simp only [Act.put, List.setIfInBounds_toArray, List.set_cons_zero, List.set_cons_succ]))
  refine Plan.runs_nil (fun F w' hb hf => ?_)
  have hres : SlE intE W.heap.size w' v13 (unionL (minusL x e.kill) (setL e.gen)) := Plan.rest_sl hf 7 rfl (by decide) rfl rfl
  have HR := hid hres
  have HB := hid (bvia HBW.out hb)
  have HS := hid HBW.out.size
  clear hres hb hf c2 c3 s1
  go_wp2_with fail
  go_ret
  exact ⟨_, rfl, SlE.mono HR.out HS.out, HB.out⟩

set_option maxHeartbeats 2000000 in
theorem inside_calls (vk vg : Value) (e : Edg) (n : Nat) (w : World) :
    Calls Try.prog 43 #[.agg #[.int .i64 e.src, .int .i64 e.dst, vk, vg], .int .i64 n] w fun en w' => en = .returned (.bool (insideB n e)) ∧ Below w.heap.size w w' := by
  have hb : Below w.heap.size w (w.alloc (.cells #[.int .i64 e.src, .int .i64 e.dst, vk, vg] 47)) := (Below.refl _ _).alloc (Nat.le_refl _) _
  have HB := hid hb
  clear hb
  by_cases h1 : 0 ≤ e.src
  · by_cases h2 : e.src < n
    · by_cases h3 : 0 ≤ e.dst
      · by_cases h4 : e.dst < n
        · have HE := hid (show insideB n e = true from (insideB_iff n e).2 ⟨h1, h2, h3, h4⟩)
          go_enter Try.func43, Try.ntmps43
          go_wp2_with fail
          go_ret
          exact ⟨by rw [HE.out]; rfl, HB.out⟩
        · have HE := hid (show insideB n e = false from by rw [Bool.eq_false_iff]; exact fun h => h4 ((insideB_iff n e).1 h).2.2.2)
          go_enter Try.func43, Try.ntmps43
          go_wp2_with fail
          go_ret
          exact ⟨by rw [HE.out]; rfl, HB.out⟩
      · have HE := hid (show insideB n e = false from by rw [Bool.eq_false_iff]; exact fun h => h3 ((insideB_iff n e).1 h).2.2.1)
        go_enter Try.func43, Try.ntmps43
        go_wp2_with fail
        go_ret
        exact ⟨by rw [HE.out]; rfl, HB.out⟩
    · have HE := hid (show insideB n e = false from by rw [Bool.eq_false_iff]; exact fun h => h2 ((insideB_iff n e).1 h).2.1)
      go_enter Try.func43, Try.ntmps43
      go_wp2_with fail
      go_ret
      exact ⟨by rw [HE.out]; rfl, HB.out⟩
  · have HE := hid (show insideB n e = false from by rw [Bool.eq_false_iff]; exact fun h => h1 ((insideB_iff n e).1 h).1)
    go_enter Try.func43, Try.ntmps43
    go_wp2_with fail
    go_ret
    exact ⟨by rw [HE.out]; rfl, HB.out⟩

end Go.Proofs.Ytnbffkcnhphdnaa
