/-
  The reference's operations on sets.
-/
import Derived.BigQuiet
import Derived.Deep.QuietTactic
import Derived.Test.YtnbffkcnhphdnaaZEdg42
import Derived.Test.YtnbffkcnhphdnaaZSame42
namespace Go.Proofs.Ytnbffkcnhphdnaa
set_option linter.unusedVariables false
set_option linter.unusedSimpArgs false
open Go.RowKit

theorem withK_eq42 (l : List Int) (n : Int) (k : Nat) (hk : k ≤ l.length) (h1 : ∀ i, i < k → nth l i < n) (h2 : k < l.length → ¬ nth l k < n) : withK l n = k := by
  induction l generalizing k with
  | nil => simp at hk; subst hk; rfl
  | cons x l ih =>
    unfold withK
    cases k with
    | zero =>
      have : ¬ x < n := h2 (by simp)
      simp [List.takeWhile, this]
    | succ k =>
      have hx : x < n := h1 0 (by omega)
      simp only [List.takeWhile, hx, decide_true, List.length_cons]
      have := ih k (by simpa using hk) (fun i hi => h1 (i + 1) (by omega)) (fun h => h2 (by simpa using h))
      unfold withK at this
      rw [this]

set_option maxHeartbeats 1000000 in
theorem rhas_calls (lo : Nat) (v : Value) (l : List Int) (n : Int) (w : World) (hl : IntsAt lo w v l) :
    Calls Try.prog 45 #[v, .int .i64 n] w fun e w' => e = .returned (.bool (decide (n ∈ l))) ∧ Below w.heap.size w w' := by
  obtain ⟨a, c, b, o, rfl, p1, q1, k1, _, _, m1, n1⟩ := hl.open
  have HQ := hid (And.intro p1 (And.intro q1 k1))
  clear p1 q1 k1 hl
  go_enter Try.func45, Try.ntmps45
  go_wp2_with fail
  go_loop [5] (fun i => ∃ k : Nat, k ≤ l.length ∧ i = .int .i64 k ∧ n ∉ l.take k) (fun i => l.length - (intOf i).toNat)
  case atStart => exact ⟨0, Nat.zero_le _, rfl, by simp⟩
  case round =>
    obtain ⟨k, hk, rfl, hno⟩ := hrel
    have HNO := hid hno
    clear hno
    by_cases hlt : k < l.length
    · obtain ⟨p1, q1, k1⟩ := HQ.out
      have e1 := p1 (by omega)
      subst e1
      have d0 := q1 k hlt
      have z1 := k1 (by omega)
      have hlt2 : (k : Int) < l.length := by omega
      clear p1 q1 k1
      by_cases he : nth l k = n
      · have hbe : (nth l k == n) = true := beq_iff_eq.2 he
        have HC := hid (show decide (n ∈ l) = true by rw [← he]; exact decide_eq_true (nth_mem l k hlt))
        clear he
        go_wp2_with fail
        go_ret
        exact ⟨by rw [HC.out]; rfl, Below.refl _ _⟩
      · have hbe : (nth l k == n) = false := beq_eq_false_iff_ne.2 he
        have HN2 := hid (show n ∉ l.take (k + 1) by
          rw [List.take_add_one, List.getElem?_eq_getElem hlt]
          intro h
          rcases List.mem_append.1 h with h | h
          · exact HNO.out h
          · rw [nth_eq _ _ hlt] at he
            simp only [Option.toList_some, List.mem_singleton] at h
            exact he h.symm)
        clear he
        go_wp2_with fail
        go_round
        case rel => exact ⟨k + 1, by omega, by go_num, HN2.out⟩
        case measure => simp [intOf] <;> omega
    · have HC := hid (show decide (n ∈ l) = false by
        have := HNO.out
        rw [List.take_of_length_le (by omega)] at this
        simpa using this)
      go_wp2_with fail
      go_ret
      exact ⟨by rw [HC.out]; rfl, Below.refl _ _⟩

theorem setL_take (l : List Int) (k : Nat) (hk : k < l.length) : setL (l.take (k + 1)) = withL (setL (l.take k)) (nth l k) := by
  rw [List.take_add_one, List.getElem?_eq_getElem hk, ← nth_eq _ _ hk]
  rw [← foldl_setL, ← foldl_setL, Option.toList_some, List.foldl_append]
  rfl
theorem withL_has {l : List Int} (h : Inc l) {x : Int} (hx : x ∈ l) : withL l x = l :=
  inc_ext _ _ (withL_inc l x h).1 h fun y => by
    rw [(withL_inc l x h).2]
    exact ⟨fun h => h.elim id fun e => e ▸ hx, .inl⟩
theorem withL_at {l : List Int} {x : Int} {k : Nat} (hk : k ≤ l.length) (h1 : ∀ i, i < k → nth l i < x) (h2 : k < l.length → ¬ nth l k < x) (hx : x ∉ l) : withL l x = l.take k ++ x :: l.drop k := by
  unfold withL
  rw [withK_eq42 l x k hk h1 h2, if_neg]
  rintro ⟨h3, h4⟩
  exact hx (h4 ▸ nth_mem l k h3)

noncomputable def planRS7a : Plan := mkPlan (regionOf Try.f20 7) [] []
noncomputable def planRS7b : Plan := mkPlan (regionOf Try.f20 7) ((List.range 9).map fun i => (i + 5, .skip)) []
noncomputable def planRS9 : Plan := mkPlan (regionOf Try.f20 9) [(4, .new), (8, .upd 4)] [(4, 8)]

set_option maxRecDepth 100000 in
set_option maxHeartbeats 8000000 in
theorem rset_calls (lo : Nat) (v : Value) (l : List Int) (w : World) (h : IntsAt lo w v l) (hn : l.length ≤ 100000) :
    Calls Try.prog 20 #[v] w fun e w' => ∃ v', e = .returned v' ∧ IntsAt w.heap.size w' v' (setL l) ∧ Below w.heap.size w w' := by
  obtain ⟨a, c, b, o, rfl, p1, q1, k1, _, _, m1, n1⟩ := h.open
  have HQ := hid (And.intro p1 (And.intro q1 k1))
  clear h p1 q1 k1
  go_enter Try.func20, Try.ntmps20
  go_wp2_with fail
  go_loopw [3, 4] (fun v i wr => ∃ k : Nat, k ≤ l.length ∧ i = .int .i64 k ∧ IntsAt w.heap.size wr v (setL (l.take k)) ∧ Below w.heap.size w wr) (fun _ i _ => l.length - (intOf i).toNat)
  case atStart => exact ⟨0, Nat.zero_le _, rfl, by rw [List.take_zero, ← foldl_setL]; exact SlE.nil _ _ _, Below.refl _ _⟩
  case round =>
    obtain ⟨k, hk, rfl, hi, hbl⟩ := hrel
    obtain ⟨wo, hwo⟩ : ∃ wo, wo = wr := ⟨_, rfl⟩
    subst hwo
    have HI := hid hi
    have HBL := hid hbl
    clear hi hbl
    by_cases hlt : k < l.length
    · have hlt2 : (k : Int) < l.length := Int.ofNat_lt.2 hlt
      obtain ⟨p1, q1, k1⟩ := HQ.out
      have e1 := p1 (by omega)
      subst e1
      have zb := k1 (by omega)
      have HX0 := hid (q1 k hlt)
      have d0 := (HBL.out.cell (p := ⟨b, _, none⟩) zb).trans (q1 k hlt)
      have zb2 : b < wo.heap.size := Nat.lt_of_lt_of_le zb HBL.out.size
      have HST := hid (setL_take l k hlt)
      obtain ⟨x, hx⟩ : ∃ x, nth l k = x := ⟨_, rfl⟩
      obtain ⟨O, hO⟩ : ∃ O, setL (l.take k) = O := ⟨_, rfl⟩
      have HINC := hid (show Inc O by rw [← hO]; exact setL_inc _)
      have hOl : O.length ≤ 100000 := by have := setL_length (l.take k); rw [hO, List.length_take] at this; omega
      rw [hx] at d0 HX0
      rw [hx, hO] at HST
      rw [hO] at HI
      clear p1 q1 k1 hx hO
      obtain ⟨oa, oc, ob, oo, rfl, po, qo, ko, _, _, mo, no⟩ := IntsAt.open HI.out
      have HO := hid (And.intro po (And.intro qo ko))
      clear po qo ko
      cases hc : decide (x ∈ O) with
      | true =>
        have HC := hid hc
        clear hc
        go_wp2_with (
          go_at_call 45
          refine (rhas_calls w.heap.size _ O x _ HI.out).mono ?_
          rw [HC.out]
          rintro e w2 ⟨rfl, hb2⟩
          have HB2 := hid (bvia HBL.out hb2)
          have HI2 := hid (IntsAt.below HI.out hb2)
          clear hb2)
        go_roundw
        case rel => exact ⟨k + 1, by omega, by go_num, by rw [HST.out, withL_has HINC.out (of_decide_eq_true HC.out)]; exact HI2.out, HB2.out⟩
        case measure => simp [intOf] <;> omega
      | false =>
        have HC := hid hc
        clear hc
        go_wp2_with (
          go_at_call 45
          refine (rhas_calls w.heap.size _ O x _ HI.out).mono ?_
          rw [HC.out]
          rintro e w2 ⟨rfl, hb2⟩
          have HB2 := hid (bvia HBL.out hb2)
          have HBo := hid hb2
          clear hb2)
        clear d0
        go_loopw [5] (fun i wr => ∃ q : Nat, q ≤ O.length ∧ i = .int .i64 q ∧ (∀ j, j < q → nth O j < x) ∧ Below w.heap.size w wr ∧ Below wo.heap.size wo wr) (fun i _ => O.length - (intOf i).toNat)
        case atStart => exact ⟨0, Nat.zero_le _, rfl, fun j hj => by omega, HB2.out, HBo.out⟩
        case round =>
          obtain ⟨q, hq, rfl, hall, hbl, hbo⟩ := hrel
          obtain ⟨wi, hwi⟩ : ∃ wi, wi = wr := ⟨_, rfl⟩
          subst hwi
          have HALL := hid hall
          have HBL2 := hid hbl
          have HBO2 := hid hbo
          have HI2 := hid (IntsAt.below HI.out hbo)
          have d1 := (hbl.cell (p := ⟨b, _, none⟩) zb).trans HX0.out
          have zb3 : b < wi.heap.size := Nat.lt_of_lt_of_le zb hbl.size
          clear hall hbl hbo
          by_cases hqO : q < O.length
          · have hqO2 : (q : Int) < O.length := Int.ofNat_lt.2 hqO
            obtain ⟨po, qo, ko⟩ := HO.out
            have eo := po (by omega)
            subst eo
            have d2 := (HBO2.out.cell (p := ⟨ob, _, none⟩) (ko (by omega))).trans (qo q hqO)
            have zo : ob < wi.heap.size := Nat.lt_of_lt_of_le (ko (by omega)) HBO2.out.size
            obtain ⟨y, hy⟩ : ∃ y, nth O q = y := ⟨_, rfl⟩
            have HY := hid hy
            rw [hy] at d2
            clear hy po qo ko
            by_cases hyx : y < x
            · have hdb : decide (y < x) = true := decide_eq_true hyx
              have HYX := hid hyx
              clear hyx
              go_wp2_with fail
              refine Plan.wp_facts (B := wi.heap.size) planRS7a [] (by kernel_rfl) rfl (by kernel_rfl) (by kernel_rfl) (Nat.le_refl _) ?_
              repeat (first | (apply Plan.runs_skip rfl rfl; simp only [Act.put, List.setIfInBounds_toArray, List.set_cons_zero, List.set_cons_succ]) | (apply Plan.runs_det rfl rfl; (· intro F w' hb hf; obtain ⟨hcl, hfz⟩ := bcell hb; go_simp; rfl); simp only [Act.put, List.setIfInBounds_toArray, List.set_cons_zero, List.set_cons_succ]))
              refine Plan.runs_nil (fun F' wn hb hf => ?_)
              have HBN := hid (bvia HBL2.out hb)
              have HBO3 := hid (bvia HBO2.out hb)
              clear hf hb
              go_wp2_with fail
              go_roundw
              case rel => exact ⟨q + 1, by omega, by go_num, upto_succ HALL.out (by rw [HY.out]; exact HYX.out), HBN.out, HBO3.out⟩
              case measure => simp [intOf] <;> omega
            · have hdb : decide (y < x) = false := decide_eq_false hyx
              have HWL := hid (withL_at (Nat.le_of_lt hqO) HALL.out (fun _ => by rw [HY.out]; exact hyx) (of_decide_eq_false HC.out))
              clear hyx
              go_wp2_with fail
              refine Plan.wp_facts (B := wi.heap.size) planRS7a [] (by kernel_rfl) rfl (by kernel_rfl) (by kernel_rfl) (Nat.le_refl _) ?_
              repeat (first | (apply Plan.runs_skip rfl rfl; simp only [Act.put, List.setIfInBounds_toArray, List.set_cons_zero, List.set_cons_succ]) | (apply Plan.runs_det rfl rfl; (· intro F w' hb hf; obtain ⟨hcl, hfz⟩ := bcell hb; go_simp; rfl); simp only [Act.put, List.setIfInBounds_toArray, List.set_cons_zero, List.set_cons_succ]))
              refine Plan.runs_nil (fun F' wn hb hf => ?_)
              have HBN := hid (bvia HBL2.out hb)
              have HIN := hid (IntsAt.below HI2.out hb)
              have d3 := (hb.cell (p := ⟨b, _, none⟩) zb3).trans d1
              have zb4 : b < wn.heap.size := Nat.lt_of_lt_of_le zb3 hb.size
              have hqc : q ≤ oc := by omega
              clear hf hb d1 d2
              have S1 := hid (HIN.out.take q (by omega))
              have S2 := hid (fun ao => SlE.drop HIN.out (ao := ao) q (by omega) rfl rfl)
              have et : (O.take q).length = q := by simp; omega
              have HET := hid et
              clear et
              go_wp2_with fail
              refine Plan.wp_facts (B := wn.heap.size) planRS9 [(4, ownF intE wn.heap.size 3 [x]), (8, ownF intE wn.heap.size 3 ([x] ++ O.drop q))] (by kernel_rfl) rfl (by kernel_rfl) (by kernel_rfl) (Nat.le_refl _) ?_
              repeat (first | (apply Plan.runs_skip rfl rfl; simp only [Act.put, List.setIfInBounds_toArray, List.set_cons_zero, List.set_cons_succ]) | (apply Plan.runs_det rfl rfl; (· intro F w' hb hf; obtain ⟨hcl, hfz⟩ := bcell hb; go_simp; rfl); simp only [Act.put, List.setIfInBounds_toArray, List.set_cons_zero, List.set_cons_succ]))
              refine Plan.runs_lit intE wn.heap.size 3 [x] #[.int .i64 x] 1 rfl rfl _ rfl rfl ?_ rfl rfl rfl (by simp) (Nat.le_refl _) (fun v40 => ?_)
              · intro w; go_simp
              simp only [Act.put, List.setIfInBounds_toArray, List.set_cons_zero, List.set_cons_succ]
              repeat (apply Plan.runs_det rfl rfl; (· intro F w hb hf; go_simp; rfl); simp only [Act.put, List.setIfInBounds_toArray, List.set_cons_zero, List.set_cons_succ])
              refine Plan.runs_append intE 4 (.tmp 40) (.tmp 43) 34 wn.heap.size w.heap.size 3 (.int .i64 0) 8 [x] (O.drop q) rfl rfl _ rfl rfl rfl Try.underlying34 infoI42 rfl rfl rfl rfl (by kernel_rfl) rfl rfl (Nat.le_refl _) (Nat.le_refl _) (Nat.le_refl _) (by simp; omega) (by simp only [maxLen]; simp; omega) (fun F w' hb hf => (S2.out _ (by simp [Addr.add_lit, intE])).below hb) (fun v44 => ?_)
              simp only [Act.put, List.setIfInBounds_toArray, List.set_cons_zero, List.set_cons_succ]
              repeat (apply Plan.runs_det rfl rfl; (· intro F w hb hf; go_simp; rfl); simp only [Act.put, List.setIfInBounds_toArray, List.set_cons_zero, List.set_cons_succ])
              refine Plan.runs_nil (fun F2 w9 hb hf => ?_)
              have hown : OwnE intE wn.heap.size 3 w9 v44 ([x] ++ O.drop q) := Plan.rest_own hf 8 rfl (by decide) rfl rfl
              have HOWN := hid hown
              have HB9 := hid hb
              have HBW9 := hid (bvia HBN.out hb)
              have hdl : ([x] ++ O.drop q).length ≤ 100001 := by simp; omega
              have HDL := hid hdl
              clear hown hf hb d3 zb4 hdl
              go_wp2_with (first
                | (at_builtin
                   refine wpList_append_E intE rfl _ _ 34 rfl w9.heap.size w.heap.size 3 (.int .i64 0) 8 Try.underlying34 infoI42 rfl [] (O.take q) (OwnE.lit intE w9 w9.heap.size 3 [] _ w9.heap.size 0 rfl (Nat.le_refl _) rfl rfl (by simp)) (SlE.below S1.out (bone HB9.out _)) (by rw [HET.out]; simp; omega) (by rw [HET.out]; simp [maxLen]; omega) (by simp) ?_
                   intro v10 w10 ho10 hg10
                   have HO10 := hid ho10
                   have HB10 := hid (Below.grownE (B := w9.heap.size) ((Below.refl w9.heap.size w9).alloc (Nat.le_refl _) _) (OwnE.lit intE w9 w9.heap.size 3 [] _ w9.heap.size 0 rfl (Nat.le_refl _) rfl rfl (by simp)) hg10 (by simp) (Nat.le_refl _))
                   clear ho10 hg10)
                | (at_builtin
                   refine wpList_append_E intE rfl _ _ 34 rfl w9.heap.size wn.heap.size 3 (.int .i64 0) 8 Try.underlying34 infoI42 rfl ([] ++ O.take q) ([x] ++ O.drop q) HO10.out (SlE.below (HOWN.out.sl (Nat.le_refl _) (by have := HDL.out; omega)) HB10.out) (by have := HDL.out; rw [List.nil_append, HET.out]; omega) (by have := HDL.out; rw [List.nil_append, HET.out]; simp only [maxLen]; omega) HB10.out.size ?_
                   intro v11 w11 ho11 hg11
                   have HO11 := hid ho11
                   have HB11 := hid (bvia HBW9.out (Below.grownE HB10.out HO10.out hg11 HB10.out.size (Nat.le_refl _)))
                   have HW9 := hid HBW9.out.size
                   clear ho11 hg11))
              go_roundw
              case rel =>
                refine ⟨k + 1, by omega, by go_num, ?_, HB11.out⟩
                have h := HO11.out.sl HW9.out (by have := HDL.out; rw [List.length_append, List.nil_append, HET.out]; omega)
                rw [List.nil_append] at h
                rw [HST.out, HWL.out]
                exact h
              case measure => simp [intOf] <;> omega
          · have hqn : decide (q < O.length) = false := decide_eq_false hqO
            have HWL := hid (withL_at hq HALL.out (fun h => absurd h hqO) (of_decide_eq_false HC.out))
            go_wp2_with fail
            refine Plan.wp_facts (B := wi.heap.size) planRS7b [] (by kernel_rfl) rfl (by kernel_rfl) (by kernel_rfl) (Nat.le_refl _) ?_
            repeat (first | (apply Plan.runs_skip rfl rfl; simp only [Act.put, List.setIfInBounds_toArray, List.set_cons_zero, List.set_cons_succ]) | (apply Plan.runs_det rfl rfl; (· intro F w' hb hf; obtain ⟨hcl, hfz⟩ := bcell hb; go_simp; rfl); simp only [Act.put, List.setIfInBounds_toArray, List.set_cons_zero, List.set_cons_succ]))
            refine Plan.runs_nil (fun F' wn hb hf => ?_)
            have HBN := hid (bvia HBL2.out hb)
            have HIN := hid (IntsAt.below HI2.out hb)
            have d3 := (hb.cell (p := ⟨b, _, none⟩) zb3).trans d1
            have zb4 : b < wn.heap.size := Nat.lt_of_lt_of_le zb3 hb.size
            have hqc : q ≤ oc := by omega
            clear hf hb d1 hqn
            have S1 := hid (HIN.out.take q (by omega))
            have S2 := hid (fun ao => SlE.drop HIN.out (ao := ao) q (by omega) rfl rfl)
            have et : (O.take q).length = q := by simp; omega
            have HET := hid et
            clear et
            go_wp2_with fail
            refine Plan.wp_facts (B := wn.heap.size) planRS9 [(4, ownF intE wn.heap.size 3 [x]), (8, ownF intE wn.heap.size 3 ([x] ++ O.drop q))] (by kernel_rfl) rfl (by kernel_rfl) (by kernel_rfl) (Nat.le_refl _) ?_
            repeat (first | (apply Plan.runs_skip rfl rfl; simp only [Act.put, List.setIfInBounds_toArray, List.set_cons_zero, List.set_cons_succ]) | (apply Plan.runs_det rfl rfl; (· intro F w' hb hf; obtain ⟨hcl, hfz⟩ := bcell hb; go_simp; rfl); simp only [Act.put, List.setIfInBounds_toArray, List.set_cons_zero, List.set_cons_succ]))
            refine Plan.runs_lit intE wn.heap.size 3 [x] #[.int .i64 x] 1 rfl rfl _ rfl rfl ?_ rfl rfl rfl (by simp) (Nat.le_refl _) (fun v40 => ?_)
            · intro w; go_simp
            simp only [Act.put, List.setIfInBounds_toArray, List.set_cons_zero, List.set_cons_succ]
            repeat (apply Plan.runs_det rfl rfl; (· intro F w hb hf; go_simp; rfl); simp only [Act.put, List.setIfInBounds_toArray, List.set_cons_zero, List.set_cons_succ])
            refine Plan.runs_append intE 4 (.tmp 40) (.tmp 43) 34 wn.heap.size w.heap.size 3 (.int .i64 0) 8 [x] (O.drop q) rfl rfl _ rfl rfl rfl Try.underlying34 infoI42 rfl rfl rfl rfl (by kernel_rfl) rfl rfl (Nat.le_refl _) (Nat.le_refl _) (Nat.le_refl _) (by simp; omega) (by simp only [maxLen]; simp; omega) (fun F w' hb hf => (S2.out _ (by simp [Addr.add_lit, intE])).below hb) (fun v44 => ?_)
            simp only [Act.put, List.setIfInBounds_toArray, List.set_cons_zero, List.set_cons_succ]
            repeat (apply Plan.runs_det rfl rfl; (· intro F w hb hf; go_simp; rfl); simp only [Act.put, List.setIfInBounds_toArray, List.set_cons_zero, List.set_cons_succ])
            refine Plan.runs_nil (fun F2 w9 hb hf => ?_)
            have hown : OwnE intE wn.heap.size 3 w9 v44 ([x] ++ O.drop q) := Plan.rest_own hf 8 rfl (by decide) rfl rfl
            have HOWN := hid hown
            have HB9 := hid hb
            have HBW9 := hid (bvia HBN.out hb)
            have hdl : ([x] ++ O.drop q).length ≤ 100001 := by simp; omega
            have HDL := hid hdl
            clear hown hf hb d3 zb4 hdl
            go_wp2_with (first
              | (at_builtin
                 refine wpList_append_E intE rfl _ _ 34 rfl w9.heap.size w.heap.size 3 (.int .i64 0) 8 Try.underlying34 infoI42 rfl [] (O.take q) (OwnE.lit intE w9 w9.heap.size 3 [] _ w9.heap.size 0 rfl (Nat.le_refl _) rfl rfl (by simp)) (SlE.below S1.out (bone HB9.out _)) (by rw [HET.out]; simp; omega) (by rw [HET.out]; simp [maxLen]; omega) (by simp) ?_
                 intro v10 w10 ho10 hg10
                 have HO10 := hid ho10
                 have HB10 := hid (Below.grownE (B := w9.heap.size) ((Below.refl w9.heap.size w9).alloc (Nat.le_refl _) _) (OwnE.lit intE w9 w9.heap.size 3 [] _ w9.heap.size 0 rfl (Nat.le_refl _) rfl rfl (by simp)) hg10 (by simp) (Nat.le_refl _))
                 clear ho10 hg10)
              | (at_builtin
                 refine wpList_append_E intE rfl _ _ 34 rfl w9.heap.size wn.heap.size 3 (.int .i64 0) 8 Try.underlying34 infoI42 rfl ([] ++ O.take q) ([x] ++ O.drop q) HO10.out (SlE.below (HOWN.out.sl (Nat.le_refl _) (by have := HDL.out; omega)) HB10.out) (by have := HDL.out; rw [List.nil_append, HET.out]; omega) (by have := HDL.out; rw [List.nil_append, HET.out]; simp only [maxLen]; omega) HB10.out.size ?_
                 intro v11 w11 ho11 hg11
                 have HO11 := hid ho11
                 have HB11 := hid (bvia HBW9.out (Below.grownE HB10.out HO10.out hg11 HB10.out.size (Nat.le_refl _)))
                 have HW9 := hid HBW9.out.size
                 clear ho11 hg11))
            go_roundw
            case rel =>
              refine ⟨k + 1, by omega, by go_num, ?_, HB11.out⟩
              have h := HO11.out.sl HW9.out (by have := HDL.out; rw [List.length_append, List.nil_append, HET.out]; omega)
              rw [List.nil_append] at h
              rw [HST.out, HWL.out]
              exact h
            case measure => simp [intOf] <;> omega
    · have HK := hid (show k = l.length by omega)
      go_wp2_with fail
      go_ret
      refine ⟨_, rfl, ?_, HBL.out⟩
      have := HI.out
      rw [HK.out, List.take_length] at this
      exact this

end Go.Proofs.Ytnbffkcnhphdnaa
