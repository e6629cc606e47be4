import Derived.Test.YtiaajdckhedofaaBnd
import Derived.Test.YtiaajdckhedofaaRNext
import Derived.BigRegion
namespace Go.Proofs.Ytiaajdckhedofaa
set_option linter.unusedVariables false
set_option linter.unusedSimpArgs false
open Go.RowKit

theorem infoBl' : (Try.prog.info? 37).map (fun i => (i.zero, i.size, i.bytes)) = some (some (.agg #[.int .i64 0, .int .i64 0, .slice none 0 0]), bE.sz, 40) := by kernel_rfl

noncomputable def planF34 : Plan := mkPlan (regionOf Try.f12 34) [(8, .new), (9, .new)] []

/-- The leaders as flow marks them. -/
def leadF0 (c : List Ins) : List Bool := ((List.replicate (c.length + 1) false).set 0 true).set c.length true
def leadF (c : List Ins) : List Bool := leadN c (leadF0 c) c.length
theorem leadF_len (c : List Ins) : (leadF c).length = c.length + 1 := by simp [leadF, leadN_len, leadF0]
theorem leadF_lt (c : List Ins) (j : Nat) (h : j < c.length) : nth (leadF c) j = lead c j := by
  unfold leadF lead leadL
  refine leadN_congr c _ _ j (by simp [leadF0]; omega) (by simp; omega) ?_ _
  unfold leadF0
  rw [nth_set _ _ _ _ (by simp; omega), if_neg (by omega)]
theorem leadF_last (c : List Ins) : nth (leadF c) c.length = true := by
  unfold leadF
  have hl : ∀ k, nth (leadN c (leadF0 c) k) c.length = true := by
    intro k
    induction k with
    | zero => show nth (leadF0 c) c.length = true; unfold leadF0; rw [nth_set _ _ _ _ (by simp), if_pos rfl]
    | succ k ih => exact leadStep_true c k _ _ (by rw [leadN_len]; simp [leadF0]) ih
  exact hl _

set_option maxRecDepth 100000 in
set_option maxHeartbeats 20000000 in
theorem blocks_calls (lo : Nat) (vc : Value) (nm : ByteArray) (pa re : Int) (l : List Ins) (w : World) (hc : CodeAt lo w vc l) (hj : Jok l) :
    Calls Try.prog 12 #[.agg #[.string nm, .int .i64 pa, .int .i64 re, vc]] w fun e w' => ∃ v', e = .returned v' ∧ BlksAt w.heap.size w' v' (blksL l) ∧ Below w.heap.size w w' := by
  have HC0 := hc
  obtain ⟨ca, cc, cb, co, rfl, cp, q0, q1, q2, q3, q4, cbl, _, _, _, cn⟩ := hc.open
  have hpos := hj.pos
  have hle := hj.le
  have e1 := cp (by omega)
  subst e1
  have hbl' := cbl (by omega)
  clear cp cbl cn
  have hmk : ∀ u : World, (Instr.makeSlice 40 (.int .i64 ((l.length : Int) + 1)) (.int .i64 ((l.length : Int) + 1))).run Try.prog u = .ok (.slice (some ⟨u.heap.size, 0, none⟩) (l.length + 1) (l.length + 1)) (u.alloc (.cells (madeCells #[.bool false] (l.length + 1)) 4)) := fun u => run_make_row' (P := Try.prog) 40 4 (.bool false) 1 Try.underlying40 infoB rfl .i64 .i64 (l.length + 1) (by omega) (by omega) u
  have hm0 : (madeCells #[Value.bool false] (l.length + 1))[0]? = some (.bool false) := by simp [madeCells]
  have hm1 : ∃ b, ((madeCells #[Value.bool false] (l.length + 1)).setIfInBounds 0 (.bool true))[l.length]? = some b := by
    rw [Array.getElem?_eq_getElem (by simp [size_madeCells])]; exact ⟨_, rfl⟩
  obtain ⟨b1, hm1⟩ := hm1
  have hlz : ((l.length : Int) == 0) = false := beq_eq_false_iff_ne.2 (by omega)
  have hlz' : ¬ (l.length : Int) = 0 := by omega
  go_enter Try.func12, Try.ntmps12
  go_wp2_with fail
  generalize hW1 : World.alloc (World.alloc _ _) _ = W1
  have hrow : RowB W1 (w.heap.size + 1) (leadF0 l) := by
    rw [← hW1]
    have := RowB.new (w.alloc (.cells #[.string nm, .int .i64 pa, .int .i64 re, .slice (some ⟨cb, co, none⟩) l.length cc] 29)) (((madeCells #[Value.bool false] (l.length + 1)).setIfInBounds 0 (Value.bool true)).setIfInBounds l.length (Value.bool true)) (leadF0 l) (by simp [leadF0, toList_madeCells_one, List.map_set])
    simpa using this
  have hB : Below w.heap.size w W1 := by
    rw [← hW1]
    exact ((Below.refl _ _).alloc (Nat.le_refl _) _).alloc (by simp) _
  have hA0 : W1.cell? ⟨w.heap.size, 0, none⟩ = some (.string nm) := by rw [← hW1]; simp
  have hA1 : W1.cell? ⟨w.heap.size, 1, none⟩ = some (.int .i64 pa) := by rw [← hW1]; simp
  have hA2 : W1.cell? ⟨w.heap.size, 2, none⟩ = some (.int .i64 re) := by rw [← hW1]; simp
  have hA3 : W1.cell? ⟨w.heap.size, 3, none⟩ = some (.slice (some ⟨cb, co, none⟩) l.length cc) := by rw [← hW1]; simp
  have hs1 : W1.heap.size = w.heap.size + 2 := by rw [← hW1]; simp
  clear hW1 hmk hm0 hm1 hlz hlz'
  go_loopw [31] (fun i wr => ∃ k : Nat, k ≤ l.length ∧ i = .int .i64 k ∧ RowB wr (w.heap.size + 1) (leadN l (leadF0 l) k) ∧ Below (w.heap.size + 1) W1 wr) (fun i _ => l.length - (intOf i).toNat)
  case atStart => exact ⟨0, Nat.zero_le _, rfl, hrow, Below.refl _ _⟩
  case round =>
    obtain ⟨k, hk, rfl, hrk, hbl⟩ := hrel
    have r0 : w.heap.size < wr.heap.size := by have := hrk.lt; omega
    have r1 : w.heap.size + 1 < wr.heap.size := hrk.lt
    have HRK := hid hrk
    have HBL := hid hbl
    have HBW := hid (hB.trans (hbl.mono (by omega)))
    clear hrk hbl hrow hB
    by_cases hkl : k < l.length
    · have d0 := (HBW.out.cell (p := ⟨cb, co + k * 5, none⟩) hbl').trans (q0 k hkl)
      have d1 := (HBW.out.cell (p := ⟨cb, co + k * 5 + 1, none⟩) hbl').trans (q1 k hkl)
      have d2 := (HBW.out.cell (p := ⟨cb, co + k * 5 + 2, none⟩) hbl').trans (q2 k hkl)
      have d3 := (HBW.out.cell (p := ⟨cb, co + k * 5 + 3, none⟩) hbl').trans (q3 k hkl)
      have d4 := (HBW.out.cell (p := ⟨cb, co + k * 5 + 4, none⟩) hbl').trans (q4 k hkl)
      have hjmp := hj.jump k hkl
      have r2 : cb < wr.heap.size := by omega
      have hstep := hid (show leadN l (leadF0 l) (k + 1) = leadStep l k (leadN l (leadF0 l) k) from rfl)
      unfold leadStep at hstep
      have hll : (leadN l (leadF0 l) k).length = l.length + 1 := by rw [leadN_len]; simp [leadF0]
      generalize hge : nth l k = x at *
      by_cases hjp : jumps x.op
      · have hj3 := hjmp hjp
        obtain ⟨t, ht⟩ : ∃ t : Nat, x.c = t := ⟨x.c.toNat, by omega⟩
        rw [ht] at d3
        have ht2 : t < l.length := by omega
        have ht3 : (t : Int) < (l.length : Int) + 1 := by omega
        have c1 := HRK.out.cell (i := t) (by omega)
        have c3 := (HRK.out.set t true).cell (i := k + 1) (by rw [List.length_set]; omega)
        have z1 := HRK.out.frozen (k + 1)
        have z2 := HRK.out.frozen t
        clear hjmp hj3
        rcases hjp with h | h | h
        all_goals
          rw [h] at d0
          have hjp : jumps x.op := by simp [jumps, h]
          clear h
          have HJP := hid hjp
          clear hjp
          go_wp2_with fail
          refine ⟨⟨k + 1, by omega, by go_num, ?_, (((HBL.out.setCell (by simp) _).setCell (by simp) _).alloc (by simp; omega) _)⟩, by simp [intOf]; omega⟩
          rw [hstep.out, if_pos HJP.out, ht, Int.toNat_natCast, set_true_comm]
          exact ((HRK.out.set _ _).set _ _).alloc _
      · have h1 : (x.op == 16) = false := beq_eq_false_iff_ne.2 (fun h => hjp (.inl h))
        have h2 : (x.op == 17) = false := beq_eq_false_iff_ne.2 (fun h => hjp (.inr (.inl h)))
        have h3 : (x.op == 45) = false := beq_eq_false_iff_ne.2 (fun h => hjp (.inr (.inr h)))
        have HJP := hid hjp
        clear hjp hjmp
        by_cases h30 : x.op = 30
        · have h4 : (x.op == 30) = true := beq_iff_eq.2 h30
          have H30 := hid h30
          clear h30
          have c1 := HRK.out.cell (i := k + 1) (by omega)
          have z1 := HRK.out.frozen (k + 1)
          go_wp2_with fail
          refine ⟨⟨k + 1, by omega, by go_num, ?_, (HBL.out.setCell (by simp) _).alloc (by simp; omega) _⟩, by simp [intOf]; omega⟩
          rw [hstep.out, if_neg HJP.out, if_pos H30.out]
          exact (HRK.out.set _ _).alloc _
        · have h4 : (x.op == 30) = false := beq_eq_false_iff_ne.2 h30
          have H30 := hid h30
          clear h30
          go_wp2_with fail
          refine ⟨⟨k + 1, by omega, by go_num, ?_, HBL.out.alloc (by omega) _⟩, by simp [intOf]; omega⟩
          rw [hstep.out, if_neg HJP.out, if_neg H30.out]
          exact HRK.out.alloc _
    · have hkk : k = l.length := by omega
      subst hkk
      have m0 := (HBL.out.cell (p := ⟨w.heap.size, 0, none⟩) (by simp)).trans hA0
      have m1 := (HBL.out.cell (p := ⟨w.heap.size, 1, none⟩) (by simp)).trans hA1
      have m2 := (HBL.out.cell (p := ⟨w.heap.size, 2, none⟩) (by simp)).trans hA2
      have m3 := (HBL.out.cell (p := ⟨w.heap.size, 3, none⟩) (by simp)).trans hA3
      have HLEAD : Hid (RowB wr (w.heap.size + 1) (leadF l)) := hid HRK.out
      clear HRK hA0 hA1 hA2 hA3
      have hmk : ∀ u : World, (Instr.makeSlice 35 (.int .i64 (l.length : Int)) (.int .i64 (l.length : Int))).run Try.prog u = .ok (.slice (some ⟨u.heap.size, 0, none⟩) l.length l.length) (u.alloc (.cells (madeCells #[.int .i64 0] l.length) 3)) := fun u => run_make_row' (P := Try.prog) 35 3 (.int .i64 0) 8 Try.underlying35 infoI rfl .i64 .i64 l.length (by omega) (by omega) u
      obtain ⟨wa, hwa⟩ : ∃ wa, wa = wr := ⟨_, rfl⟩
      subst hwa
      go_wp2_with fail
      generalize hW2 : World.alloc _ _ = W2
      have hnum : W2.rowIs wa.heap.size 3 l.length (fun j => .int .i64 (if j < fromI l 1 then (numOf l j : Int) else 0)) := by
        rw [← hW2]
        have hf : fromI l 1 = 0 := by unfold fromI; rw [if_pos (by omega), lastB_true l 0 (lead_zero l)]
        rw [hf]
        exact (World.rowIs_made wa (.int .i64 0) l.length 3).congr fun j hj => by simp
      have hd1 : doneL l 1 = [] := by unfold doneL; rw [if_pos (by omega), dropLast_true l 0 (lead_zero l)]; rfl
      have hf1 : (0 : Int) = (fromI l 1 : Nat) := by unfold fromI; rw [if_pos (by omega), lastB_true l 0 (lead_zero l)]; rfl
      have t1 : W2.heap.size = wa.heap.size + 1 := by rw [← hW2]; simp
      have t2 : Below wa.heap.size wa W2 := by rw [← hW2]; exact (Below.refl _ _).alloc (Nat.le_refl _) _
      clear hW2 hmk
      go_loopw [7, 9, 10] (fun v f i wr => ∃ k : Nat, 1 ≤ k ∧ k ≤ l.length + 1 ∧ i = .int .i64 k ∧ f = .int .i64 (fromI l k : Nat) ∧ OwnE bE W2.heap.size 37 wr v (bRows (doneL l k)) ∧ wr.rowIs wa.heap.size 3 l.length (fun j => .int .i64 (if j < fromI l k then (numOf l j : Int) else 0)) ∧ Below wa.heap.size wa wr ∧ W2.heap.size ≤ wr.heap.size) (fun _ _ i _ => l.length + 1 - (intOf i).toNat)
      case atStart => exact ⟨1, Nat.le_refl _, by omega, rfl, by rw [← hf1], by rw [hd1]; exact ⟨rfl, .inl ⟨rfl, rfl⟩⟩, hnum, t2, Nat.le_refl _⟩
      case round =>
        obtain ⟨k, hk0, hk, rfl, rfl, hown, hnk, hbl, hsz⟩ := hrel
        obtain ⟨wb, hwb⟩ : ∃ wb, wb = wr := ⟨_, rfl⟩
        subst hwb
        obtain ⟨va, vcap, hv⟩ := hown.anySlice
        subst hv
        rw [bRows_len] at hown ⊢
        have HLD := hid (HLEAD.out.below (hbl.mono (by omega)))
        have HOWN := hid hown
        have HN := hid hnk
        have HBL2 := hid hbl
        clear hown hnk hbl hnum hd1 hf1
        by_cases hkl : k ≤ l.length
        · have c0 := HLD.out.cell (i := k) (by rw [leadF_len]; omega)
          have r3 : w.heap.size + 1 < wb.heap.size := by omega
          have hki : (k : Int) < (l.length : Int) + 1 := by omega
          have hkn : k < l.length + 1 := by omega
          cases hld : nth (leadF l) k with
          | false =>
            rw [hld] at c0
            have hkl2 : k < l.length := by
              rcases Nat.lt_or_ge k l.length with h | h
              · exact h
              · have : k = l.length := by omega
                rw [this, leadF_last] at hld; cases hld
            have hld2 : lead l k = false := by rw [← leadF_lt l k hkl2]; exact hld
            go_wp2_with fail
            refine ⟨⟨k + 1, by omega, by omega, by go_num, ?_, ?_, ?_, HBL2.out, hsz⟩, by simp [intOf]; omega⟩
            · rw [fromI_false l k hk0 hkl2 hld2]
            · rw [doneL_false l k hkl2 hld2]; exact HOWN.out
            · rw [fromI_false l k hk0 hkl2 hld2]; exact HN.out
          | true =>
            rw [hld] at c0
            have hld2 : k < l.length → lead l k = true := fun h => by rw [← leadF_lt l k h]; exact hld
            have hfl : fromI l k < k := by unfold fromI; rw [if_pos hkl]; exact (lastB_in l k hk0).1
            have hnum2 : ∀ q, fromI l k ≤ q → q < k → numOf l q = (doneL l k).length := fun q h1 h2 => by
              rw [doneL_len l k hkl]; unfold numOf
              unfold fromI at h1; rw [if_pos hkl] at h1
              rw [(lastB_in l k hk0).2.2 q h1 h2]
            have hdl : (doneL l k).length ≤ 1000 := by rw [doneL_len l k hkl]; have := bnd_le l k; omega
            have hlast := doneL_last l k hk0 hkl
            have hd3 := doneL_true l k hkl hld2
            have hf3 := fromI_true l k hkl hld2
            generalize hdn : (doneL l k).length = dn at *
            generalize hfn : fromI l k = fn at *
            have HNUM2 := hid hnum2
            have HDN := hid hdn
            clear hnum2 hdn
            go_wp2_with fail
            go_loopw [11] (fun i wr => ∃ j : Nat, fn ≤ j ∧ j ≤ k ∧ i = .int .i64 j ∧ OwnE bE W2.heap.size 37 wr (.slice va dn vcap) (bRows (doneL l k)) ∧ wr.rowIs wa.heap.size 3 l.length (fun q => .int .i64 (if q < j then (numOf l q : Int) else 0)) ∧ Below wa.heap.size wb wr ∧ W2.heap.size ≤ wr.heap.size) (fun i _ => k - (intOf i).toNat)
            case atStart => exact ⟨fn, Nat.le_refl _, by omega, rfl, HOWN.out, HN.out, Below.refl _ _, hsz⟩
            case round =>
              obtain ⟨j, hj0, hjk, rfl, hown3, hn3, hb3, hsz3⟩ := hrel
              have HOWN3 := hid hown3
              have HN3 := hid hn3
              have HB3 := hid hb3
              clear hown3 hn3 hb3
              by_cases hjl : j < k
              · have c5 := HN3.out.cell (i := j) (by omega)
                have z5 := HN3.out.frozen j
                have hji : (j : Int) < (l.length : Int) := by omega
                have hjn : j < l.length := by omega
                go_wp2_with fail
                refine ⟨⟨j + 1, by omega, by omega, by go_num, ?_, ?_, HB3.out.setCell (Nat.le_refl _) _, by simp; omega⟩, by simp [intOf]; omega⟩
                · exact HOWN3.out.other ⟨wa.heap.size, j, none⟩ _ (fun q hq => by have := (HOWN3.out.lt q hq).1; simp; omega)
                · refine (HN3.out.set j _).congr fun q hq => ?_
                  by_cases e : q = j
                  · subst e; rw [if_pos rfl, if_pos (by omega), HNUM2.out q hj0 hjl]
                  · have e2 : (q < j + 1) ↔ q < j := by omega
                    simp only [if_neg e, e2]
              · have hje : j = k := by omega
                subst hje
                go_wp2_with (
                  at_builtin
                  refine wpList_append_one bE (o := ⟨some 85, _, _, _, _, _⟩) rfl (.tmp 80) (.tmp 84) 33 rfl W2.heap.size wr.heap.size 37 _ 40 Try.underlying33 infoBl' rfl (bRows (doneL l j)) ((fn : Int), (j : Int), ⟨none, 0, 0⟩) (HOWN3.out.alloc _) ((OwnE.lit bE wr wr.heap.size 37 [((fn : Int), (j : Int), ⟨none, 0, 0⟩)] _ wr.heap.size 1 rfl (Nat.le_refl _) rfl rfl (by simp)).sl (Nat.le_refl _) (by simp)) (by rw [bRows_len, HDN.out]; omega) (by rw [bRows_len, HDN.out]; simp only [maxLen]; omega) (by simp; omega) ?_
                  intro g2 cap2 w2 ho2 hg2 hl2 hb2
                  have HO2 := hid ho2
                  have HB2 := hid hb2
                  clear ho2 hb2)
                have hw2 : wr.heap.size + 1 ≤ w2.heap.size := by simpa using HB2.out.size
                refine ⟨⟨j + 1, by omega, by omega, by go_num, by rw [hf3], ?_, ?_, HBL2.out.trans (HB3.out.trans (((Below.refl _ _).alloc (by omega) _).trans (HB2.out.mono (by omega)))), by omega⟩, by simp [intOf]; omega⟩
                · rw [hd3, ← hlast]
                  have e : bRows (doneL l j ++ [(fn, j)]) = bRows (doneL l j) ++ [((fn : Int), (j : Int), ⟨none, 0, 0⟩)] := by simp [bRows]
                  rw [e]; exact HO2.out
                · rw [hf3]
                  exact (HN3.out.alloc _).of_block (HB2.out.block _ (by omega))
        · have hkk : k = l.length + 1 := by omega
          subst hkk
          have hd4 : doneL l (l.length + 1) = bnd l l.length := by unfold doneL; rw [if_neg (by omega)]
          have hf4 : fromI l (l.length + 1) = l.length := by unfold fromI; rw [if_neg (by omega)]
          rw [hd4] at HOWN
          rw [hf4] at HN
          obtain ⟨g2, cap2, hv, hg2, hl2⟩ := HOWN.out.open (by rw [bRows_len]; have := bnd_pos l (l.length - 1); rw [Nat.sub_add_cancel hpos] at this; exact this)
          rw [bRows_len] at hv
          rw [hd4] at ⊢
          obtain ⟨rfl, _, rfl⟩ := Value.slice.inj hv
          generalize hm : (bnd l l.length).length = m at *
          have hm0 : m ≤ 1000 := by have := bnd_le l l.length; omega
          have hmp : 0 < m := by have := bnd_pos l (l.length - 1); rw [Nat.sub_add_cancel hpos] at this; omega
          obtain ⟨ws, hws⟩ : ∃ ws, ws = wb := ⟨_, rfl⟩
          subst hws
          have hnw : ws.rowIs wa.heap.size 3 l.length (fun j => .int .i64 (if j < l.length then (numOf l j : Int) else 0)) := HN.out
          have HBS := hid (HBW.out.trans (HBL2.out.mono (by omega)))
          have HST : Hid (Stage l W2.heap.size ws.heap.size ws (.slice (some ⟨g2, 0, none⟩) m vcap) (bRows (bnd l l.length)) 0) := hid (Stage.start HOWN.out)
          have hst0 : 0 < m → (nth (bRows (bnd l l.length)) 0).2.2 = ⟨none, 0, 0⟩ := fun h => rows_nil l (by omega)
          have s3 : w.heap.size < ws.heap.size := by omega
          have r6 : wa.heap.size < ws.heap.size := by omega
          have o0 := (HBL2.out.cell (p := ⟨w.heap.size, 0, none⟩) r0).trans m0
          have o1 := (HBL2.out.cell (p := ⟨w.heap.size, 1, none⟩) r0).trans m1
          have o2 := (HBL2.out.cell (p := ⟨w.heap.size, 2, none⟩) r0).trans m2
          have o3 := (HBL2.out.cell (p := ⟨w.heap.size, 3, none⟩) r0).trans m3
          clear hv HLD HN HOWN
          go_wp2_with fail
          go_loopw [89] (fun i wr => ∃ c rows, c ≤ m ∧ i = .int .i64 (c : Nat) ∧ Stage l W2.heap.size ws.heap.size wr (.slice (some ⟨g2, 0, none⟩) m vcap) rows c ∧ (c < m → (nth rows c).2.2 = ⟨none, 0, 0⟩) ∧ Below W2.heap.size ws wr) (fun i _ => m - (intOf i).toNat)
          case atStart => exact ⟨0, _, Nat.zero_le _, rfl, HST.out, hst0, Below.refl _ _⟩
          case round =>
            clear HST hst0
            obtain ⟨c, rows, hc, rfl, hst, hni, hbq⟩ := hrel
            obtain ⟨wo, hwo⟩ : ∃ wo, wo = wr := ⟨_, rfl⟩
            subst hwo
            have HST := hid hst
            have HBQ := hid hbq
            have hlen : rows.length = m := by rw [hst.len, hm]
            have k0 := (hbq.cell (p := ⟨w.heap.size, 0, none⟩) (by simp; omega)).trans o0
            have k1 := (hbq.cell (p := ⟨w.heap.size, 1, none⟩) (by simp; omega)).trans o1
            have k2 := (hbq.cell (p := ⟨w.heap.size, 2, none⟩) (by simp; omega)).trans o2
            have k3 := (hbq.cell (p := ⟨w.heap.size, 3, none⟩) (by simp; omega)).trans o3
            have r7 : w.heap.size < wo.heap.size := by have := hbq.size; omega
            have r8 : g2 < wo.heap.size := by have := hbq.size; omega
            by_cases hcm : c < m
            · have c1 := hst.own.cellAt c 1 (by omega) (by decide)
              rw [show bE.sz = 3 from rfl] at c1
              have hfr := hst.fr c (by omega)
              have hc1 : nth (bE.enc (nth rows c)) 1 = .int .i64 ((nth (bnd l l.length) c).2 : Nat) := by rw [← hfr.2]; rfl
              rw [hc1] at c1
              have hin := bnd_in l l.length c (by omega)
              obtain ⟨t, ht⟩ : ∃ t, (nth (bnd l l.length) c).2 = t + 1 := ⟨_, (Nat.succ_pred (by omega)).symm⟩
              have htl : t < l.length := by omega
              have hhl := headN_le l t
              rw [ht] at c1
              have hs1 : IntKind.i64.wrap (t : Int) = t := IntWalk.i64_in _ (by omega)
              clear hst hbq hc1 hin
              go_wp2_with fail
              refine Plan.wp_facts (B := wo.heap.size) planF34 [(8, valF (.int .i64 (headN l t : Nat))), (9, slF intE wo.heap.size (nextL l (headN l t)))] (by kernel_rfl) rfl (by kernel_rfl) (by kernel_rfl) (Nat.le_refl _) ?_
              repeat (first | (apply Plan.runs_skip rfl rfl; simp only [Act.put, List.setIfInBounds_toArray, List.set_cons_zero, List.set_cons_succ]) | (apply Plan.runs_det rfl rfl; (· intro F w' hb hf; obtain ⟨hcl, hfz⟩ := bcell hb; go_simp; rfl); simp only [Act.put, List.setIfInBounds_toArray, List.set_cons_zero, List.set_cons_succ]))
              refine Plan.runs_call_val (.int .i64 (headN l t : Nat)) 26 #[.agg #[.string nm, .int .i64 pa, .int .i64 re, .slice (some ⟨cb, co, none⟩) l.length cc], .int .i64 t] rfl rfl _ rfl rfl (fun F w' hb hf => by obtain ⟨hcl, hfz⟩ := bcell hb; go_simp) rfl (fun F w' hb hf => ?_) ?_
              · exact head_calls lo _ nm pa re l t w' (HC0.below (HBS.out.trans ((HBQ.out.mono (by omega)).trans (hb.mono (by omega))))) htl
              simp only [Act.put, List.setIfInBounds_toArray, List.set_cons_zero, List.set_cons_succ]
              repeat (first | (apply Plan.runs_skip rfl rfl; simp only [Act.put, List.setIfInBounds_toArray, List.set_cons_zero, List.set_cons_succ]) | (apply Plan.runs_det rfl rfl; (· intro F w' hb hf; obtain ⟨hcl, hfz⟩ := bcell hb; go_simp; rfl); simp only [Act.put, List.setIfInBounds_toArray, List.set_cons_zero, List.set_cons_succ]))
              refine Plan.runs_call_sl intE wo.heap.size (nextL l (headN l t)) 25 #[.agg #[.string nm, .int .i64 pa, .int .i64 re, .slice (some ⟨cb, co, none⟩) l.length cc], .int .i64 (headN l t : Nat)] rfl rfl _ rfl rfl (fun F w' hb hf => by obtain ⟨hcl, hfz⟩ := bcell hb; go_simp) rfl (fun F w' hb hf => ?_) (fun v62 => ?_)
              · refine (next_calls lo nm pa re _ l _ w' (HC0.below (HBS.out.trans ((HBQ.out.mono (by omega)).trans (hb.mono (by omega)))))).mono ?_
                rintro e w2 ⟨v, rfl, h1, h2⟩
                exact ⟨v, rfl, h1.mono hb.size, h2, fun k h0 hk => .inr (h1.blk h0 k hk).1⟩
              simp only [Act.put, List.setIfInBounds_toArray, List.set_cons_zero, List.set_cons_succ]
              refine Plan.runs_det (v := .int .i64 (nextL l (headN l t)).length) rfl rfl (fun F w' hb hf => ?_) ?_
              · have h62 : SlE intE wo.heap.size w' v62 (nextL l (headN l t)) := Plan.facts_sl hf 9 rfl (by kernel_rfl) rfl (.inl rfl)
                obtain ⟨a, cp, _, _, hv, _⟩ := h62
                rw [hv]
                go_simp
              simp only [Act.put, List.setIfInBounds_toArray, List.set_cons_zero, List.set_cons_succ]
              repeat (apply Plan.runs_det rfl rfl; (· intro F w hb hf; go_simp; rfl); simp only [Act.put, List.setIfInBounds_toArray, List.set_cons_zero, List.set_cons_succ])
              refine Plan.runs_nil (fun F wn hb hf => ?_)
              have hres : IntsAt wo.heap.size wn v62 (nextL l (headN l t)) := Plan.rest_sl hf 9 rfl (by decide) rfl rfl
              have HR := hid hres
              have HBN := hid hb
              clear hf hb hres
              generalize hN : nextL l (headN l t) = N at *
              have hNx : ∀ x ∈ N, 0 ≤ x ∧ x < l.length := by rw [← hN]; exact hj.nx _ (by omega)
              have hnums : nums l (nth (bnd l l.length) c) = N.map fun x => (numOf l x.toNat : Int) := by unfold nums; rw [ht, Nat.add_sub_cancel, hN]
              obtain ⟨a62, c62, b62, o62, hv62, p62, d62, bl62, lo62, lc62, cm62, _⟩ := HR.out.open
              subst hv62
              have hlo62 : ∀ h : 0 < N.length, g2 + 1 ≤ b62 := fun h => by have := lo62 h; omega
              have HSN := hid (HST.out.below (HBN.out.mono (Nat.le_refl _)))
              have hgn : g2 < wn.heap.size := by have := HBN.out.size; omega
              have hwsn : ws.heap.size ≤ wn.heap.size := by have := HBN.out.size; have := HBQ.out.size; omega
              have hNl : N.length ≤ 2 := by rw [← hN]; exact nextL_len l _
              clear lo62
              go_wp2_with fail
              go_loopw [103] (fun i wr => ∃ k sl, k ≤ N.length ∧ i = .int .i64 (k : Nat) ∧ OwnE bE W2.heap.size 37 wr (.slice (some ⟨g2, 0, none⟩) m vcap) (rows.set c ((nth rows c).1, (nth rows c).2.1, sl)) ∧ OwnE intE wn.heap.size 3 wr sl.val ((nums l (nth (bnd l l.length) c)).take k) ∧ Below W2.heap.size wn wr ∧ Keep (g2 + 1) wn wr) (fun i _ => N.length - (intOf i).toNat)
              case atStart =>
                refine ⟨0, ⟨none, 0, 0⟩, Nat.zero_le _, rfl, ?_, OwnE.nil _ _ _ _, Below.refl _ _, Keep.refl _ _⟩
                have e : ((nth rows c).1, (nth rows c).2.1, (⟨none, 0, 0⟩ : Slc)) = nth rows c := by rw [← hni hcm]
                rw [e, set_nth_self _ _ (by omega)]
                exact HSN.out.own
              case round =>
                obtain ⟨k, sl, hk, rfl, hst2, hat, hbr, hkeep⟩ := hrel
                have hsr : wn.heap.size ≤ wr.heap.size := hbr.size
                have HOW := hid hst2
                have HAT := hid hat
                have HBR := hid hbr
                have HK := hid hkeep
                have d3 := hst2.cellAt c 2 (by rw [List.length_set]; omega) (by decide)
                have z3 := hst2.frozenAt (c * 3 + 2)
                rw [show bE.sz = 3 from rfl, nth_set _ _ _ _ (by omega), if_pos rfl] at d3
                have d3' : wr.cell? ⟨g2, c * 3 + 2, none⟩ = some (.slice sl.a sl.n sl.c) := d3
                have r9 : g2 < wr.heap.size := by omega
                have r10 : wa.heap.size < wr.heap.size := by omega
                clear d3
                by_cases hkN : k < N.length
                · have ea := p62 (by omega)
                  subst ea
                  obtain ⟨y, hy⟩ : ∃ y : Nat, nth N k = y := ⟨(nth N k).toNat, by have := hNx _ (nth_mem N k hkN); omega⟩
                  have hyl : y < l.length := by have := hNx _ (nth_mem N k hkN); omega
                  have d1 : wr.cell? ⟨b62, o62 + k, none⟩ = some (.int .i64 (y : Nat)) := by
                    rw [← hy]
                    have e := hkeep b62 (hlo62 (by omega)) (bl62 (by omega))
                    have := d62 k hkN
                    simp only [World.cell?] at this ⊢
                    rw [e]; exact this
                  have d2 := (hbr.cell (p := ⟨wa.heap.size, y, none⟩) (by simp; omega)).trans ((HBN.out.cell (p := ⟨wa.heap.size, y, none⟩) (by simp; have := HBQ.out.size; omega)).trans ((HBQ.out.cell (p := ⟨wa.heap.size, y, none⟩) (by simp; omega)).trans (hnw.cell (i := y) (by omega))))
                  rw [if_pos hyl] at d2
                  have hyl2 : (y : Int) < (l.length : Int) := by omega
                  have r11 : b62 < wr.heap.size := by have := bl62 (by omega); omega
                  have hfl : ((nums l (nth (bnd l l.length) c)).take k).length ≤ 2 := by rw [List.length_take]; omega
                  have hcu : (nums l (nth (bnd l l.length) c)).take (k + 1) = (nums l (nth (bnd l l.length) c)).take k ++ [((numOf l y : Nat) : Int)] := by
                    rw [take_succ_nth _ _ (by rw [hnums, List.length_map]; exact hkN)]
                    congr 2
                    rw [hnums, nth_map' _ _ _ hkN, hy]; rfl
                  have HCU := hid hcu
                  generalize hcur : (nums l (nth (bnd l l.length) c)).take k = cur at *
                  clear hst2 hat hbr hkeep hcu
                  go_wp2_with fail
                  go_region_law (
                    refine step_append_one intE rfl (.tmp 116) (.tmp 121) 35 rfl wn.heap.size wr.heap.size 3 _ 8 Try.underlying35 info3 rfl cur ((numOf l y : Nat) : Int) (HAT.out.alloc _) ((OwnE.lit intE wr wr.heap.size 3 [((numOf l y : Nat) : Int)] _ wr.heap.size 1 rfl (Nat.le_refl _) rfl rfl (by simp)).sl (Nat.le_refl _) (by simp)) (by omega) (by simp only [maxLen]; omega) (by simp; omega) ?_
                    intro g9 cap9 w9 ho9 hg9 hl9 hb9
                    have d9 : w9.cell? ⟨g2, c * 3 + 2, none⟩ = some (.slice sl.a sl.n sl.c) := (hb9.cell (p := ⟨g2, c * 3 + 2, none⟩) (by omega)).trans ((World.cell?_alloc_lt _ _ _ r9).trans d3')
                    have z9 : w9.frozen? ⟨g2, c * 3 + 2, none⟩ = false := (hb9.frozen (p := ⟨g2, c * 3 + 2, none⟩) (by omega)).trans ((World.frozen?_alloc_old _ _ _ (Nat.ne_of_lt r9)).trans z3)
                    have hbw9 : Below wn.heap.size wr w9 := (((Below.refl _ _).alloc hsr _).drew).trans hb9
                    have HO9 := hid ho9
                    have HB9 := hid hbw9
                    clear ho9 hb9 hbw9)
                  all_goals
                    go_wp2_with fail
                    refine ⟨⟨k + 1, ⟨some ⟨g9, 0, none⟩, cur.length + 1, cap9⟩, by omega, by go_num, ?_, ?_, (HBR.out.trans (HB9.out.mono (by omega))).setCell hg2 _, fun q hq hlt => (Keep.store w9 _ _ (Nat.lt_succ_self g2) q hq (by have := HB9.out.size; omega)).trans ((HB9.out.block q (by omega)).trans (HK.out q hq hlt))⟩, by simp [intOf]; omega⟩
                    · have h1 := (HOW.out.ofBlock (w' := w9) fun q hq => by simp [Value.ownBlock] at hq; subst hq; exact HB9.out.block _ hgn).put c 2 (.slice (some ⟨g9, 0, none⟩) (cur.length + 1) cap9) ((nth rows c).1, (nth rows c).2.1, ⟨some ⟨g9, 0, none⟩, cur.length + 1, cap9⟩) (by rw [List.length_set]; omega) (by decide) (by rw [nth_set _ _ _ _ (by omega), if_pos rfl]; rfl)
                      rw [List.set_set] at h1
                      exact h1
                    · rw [HCU.out]
                      exact HO9.out.other ⟨g2, c * 3 + 2, none⟩ _ (fun q hq => by have := (HO9.out.lt q hq).1; simp; omega)
                · have hkk : k = N.length := by omega
                  have htk : (nums l (nth (bnd l l.length) c)).take k = nums l (nth (bnd l l.length) c) := List.take_of_length_le (by rw [hnums, List.length_map]; omega)
                  rw [htk] at HAT
                  clear htk hst2 hat hbr hkeep
                  have hnl : (nums l (nth (bnd l l.length) c)).length ≤ 2 := by rw [hnums, List.length_map]; exact hNl
                  clear hnums
                  generalize hcur : nums l (nth (bnd l l.length) c) = cur at *
                  go_wp2_with fail
                  refine (sort_calls HAT.out (by omega)).mono ?_
                  rintro en wp ⟨rfl, hso, hgr⟩
                  have hbp : Below wn.heap.size wr wp := Below.grownE (Below.refl _ _) HAT.out hgr hsr (Nat.le_refl _)
                  have e3 : wp.cell? ⟨g2, c * 3 + 2, none⟩ = some (.slice sl.a sl.n sl.c) := (hbp.cell (p := ⟨g2, c * 3 + 2, none⟩) hgn).trans d3'
                  have f3 : wp.frozen? ⟨g2, c * 3 + 2, none⟩ = false := (hbp.frozen (p := ⟨g2, c * 3 + 2, none⟩) hgn).trans z3
                  have r12 : g2 < wp.heap.size := by have := hbp.size; omega
                  have HSO := hid hso
                  have HBP := hid hbp
                  clear hso hgr hbp d3' z3
                  go_wp2_with fail
                  refine (compact_calls HSO.out (by rw [sortI_length]; omega)).mono ?_
                  rintro en wq ⟨vq, rfl, hco, hgq, heq⟩
                  obtain ⟨aq, cq, hvq⟩ := hco.anySlice
                  subst hvq
                  have hbq2 : Below wn.heap.size wp wq := Below.grownE (Below.refl _ _) HSO.out hgq (by have := HBP.out.size; omega) (Nat.le_refl _)
                  have e4 : wq.cell? ⟨g2, c * 3 + 2, none⟩ = some (.slice sl.a sl.n sl.c) := (hbq2.cell (p := ⟨g2, c * 3 + 2, none⟩) hgn).trans e3
                  have f4 : wq.frozen? ⟨g2, c * 3 + 2, none⟩ = false := (hbq2.frozen (p := ⟨g2, c * 3 + 2, none⟩) hgn).trans f3
                  have HCO : Hid (OwnE intE wn.heap.size 3 wq (.slice aq (setL cur).length cq) (setL cur)) := hid hco
                  have HBQ2 := hid (HBP.out.trans hbq2)
                  have hsl : (setL cur).length ≤ 2 := by
                    have h := foldW_len cur
                    rw [foldW_setL] at h; omega
                  clear hco hgq heq hbq2 e3 f3
                  go_wp2_with fail
                  have hk2 : Keep (g2 + 1) wn (wq.setCell ⟨g2, c * 3 + 2, none⟩ (.slice aq (setL cur).length cq)) := fun q hq hlt => (Keep.store wq _ _ (Nat.lt_succ_self g2) q hq (by have := HBQ2.out.size; omega)).trans ((HBQ2.out.block q (by omega)).trans (HK.out q hq hlt))
                  have h1 := (HOW.out.ofBlock (w' := wq) fun q hq => by simp [Value.ownBlock] at hq; subst hq; exact HBQ2.out.block _ hgn).put c 2 (.slice aq (setL cur).length cq) ((nth rows c).1, (nth rows c).2.1, ⟨aq, (setL cur).length, cq⟩) (by rw [List.length_set]; omega) (by decide) (by rw [nth_set _ _ _ _ (by omega), if_pos rfl]; rfl)
                  rw [List.set_set] at h1
                  have hst9 := HSN.out.setAt (hk2.mono (by omega)) ⟨aq, (setL cur).length, cq⟩ h1
                  refine ⟨⟨c + 1, _, by omega, by go_num, hst9.next (fun _ => ?_), fun h => ?_, HBQ.out.trans ((HBN.out.mono (by have := HBQ.out.size; omega)).trans ((HBR.out.trans (HBQ2.out.mono (by omega))).setCell hg2 _))⟩, by simp [intOf]; omega⟩
                  · rw [nth_set _ _ _ _ (by omega), if_pos rfl, hcur]
                    exact (HCO.out.other ⟨g2, c * 3 + 2, none⟩ _ (fun q hq => by have := (HCO.out.lt q hq).1; simp; omega)).sl hwsn (by omega)
                  · exact hst9.rest (c + 1) (by omega) (by rw [List.length_set]; omega)
            · clear hst hbq
              go_wp2_with fail
              go_ret
              exact ⟨_, rfl, (HST.out.end (by omega) (by omega) hle).mono (by omega), HBS.out.trans (HBQ.out.mono (by omega))⟩

end Go.Proofs.Ytiaajdckhedofaa
