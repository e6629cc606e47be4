/-
  law42's joined, and the law LatticeLeast, walked.
-/
import Derived.Test.YtnbffkcnhphdnaaZLMay42
namespace Go.Proofs.Ytnbffkcnhphdnaa
set_option linter.unusedVariables false
set_option linter.unusedSimpArgs false
open Go.RowKit

/-- What joined gives. -/
def joinAt (S Y : List (List Int)) (i : Nat) : List Int := if i < S.length then unionL (nth Y i) (nth S i) else nth Y i

noncomputable def planJ7 : Plan := mkPlan (regionOf Try.f21 7) [(10, .new), (12, .fin)] []

set_option maxRecDepth 100000 in
set_option maxHeartbeats 4000000 in
theorem joined_calls (lo1 lo2 : Nat) (vs vy : Value) (n : Nat) (S Y : List (List Int)) (w : World) (hS : LaysAt lo1 w vs S) (hY : LaysAt lo2 w vy Y) (hYl : Y.length = n) (hn : n ≤ 1000) (hSb : ∀ i, i < S.length → (nth S i).length ≤ 1000) (hYb : ∀ i, i < n → (nth Y i).length ≤ 1000) :
    Calls Try.prog 21 #[.int .i64 n, vs, vy] w fun e w' => ∃ v', e = .returned v' ∧ LaysAt 0 w' v' ((List.range n).map (joinAt S Y)) ∧ Below w.heap.size w w' := by
  obtain ⟨sa, sc, sb, so, SS, rfl, s1, s2, s3, s4, _, m2, n2⟩ := hS.open
  have HSO := hid (And.intro s1 (And.intro s2 (And.intro s3 s4)))
  obtain ⟨ya, yc, yb, yo, YS, rfl, y1, y2, y3, y4, _, m3, n3⟩ := hY.open
  have HYO := hid (And.intro y1 (And.intro y2 (And.intro y3 y4)))
  have HYL := hid hYl
  have HSB := hid hSb
  have HYB := hid hYb
  have hmk := run_make_row' (P := Try.prog) 23 34 (.slice none 0 0) 24 Try.underlying23 infoRow42 rfl .i64 .i64 n (by omega) (by omega)
  rw [hYl] at n3 ⊢
  clear hS hY hYl s1 s2 s3 s4 y1 y2 y3 y4 hSb hYb
  go_enter Try.func21, Try.ntmps21
  go_wp2_with fail
  generalize hW : World.alloc _ _ = W
  have hv := show VAt w.heap.size W (.slice (some ⟨w.heap.size, 0, none⟩) n n) (List.replicate n ⟨none, 0, 0⟩) (List.replicate n []) by rw [← hW]; exact VAt.made w n hn
  have HV := hid hv
  have HBW := hid (show Below w.heap.size w W by rw [← hW]; exact (Below.refl _ _).alloc (Nat.le_refl _) _)
  clear hW hv hmk
  go_loopw [8] (fun i wr => ∃ (k : Nat) (ss : List Slc), k ≤ n ∧ i = .int .i64 k ∧ VAt w.heap.size wr (.slice (some ⟨w.heap.size, 0, none⟩) n n) ss ((List.range k).map (joinAt S Y) ++ List.replicate (n - k) []) ∧ Below w.heap.size w wr) (fun i _ => n - (intOf i).toNat)
  case atStart => exact ⟨0, _, Nat.zero_le _, rfl, HV.out, HBW.out⟩
  case round =>
    obtain ⟨k, ss, hk, rfl, hv, hbl⟩ := hrel
    obtain ⟨wo, hwo⟩ : ∃ wo, wo = wr := ⟨_, rfl⟩
    subst hwo
    have HVO := hid hv
    have HBL := hid hbl
    have zg : w.heap.size < wo.heap.size := (hv.own.lt _ rfl).2
    have zf := hv.frozen k
    have hlenk : ((List.range k).map (joinAt S Y) ++ List.replicate (n - k) []).length = n := by simp; omega
    have HLN := hid hlenk
    clear hv hbl hlenk HV HBW
    by_cases hlt : k < n
    · have hlt2 : (k : Int) < n := Int.ofNat_lt.2 hlt
      have d0 := HVO.out.cell k (by rw [HLN.out]; exact hlt)
      obtain ⟨y1, y2, y3, y4⟩ := HYO.out
      rw [HYL.out] at y1 y2 y3 y4
      have e1 := y1 (by omega)
      have zy := y4 (by omega)
      subst e1
      have dy := (HBL.out.cell (p := ⟨yb, _, none⟩) zy).trans (y2 k hlt)
      have HRY := hid (y3 k hlt)
      have HP1 := hid (HVO.out.put k ⟨(YS k).a, (nth Y k).length, (YS k).c⟩ (nth Y k) (by rw [HLN.out]; exact hlt) (HRY.out.below HBL.out) (fun h0 q hq => by have := (HRY.out.blk h0 q hq).2; omega))
      have HB1 := hid (HBL.out.setCell (p := ⟨w.heap.size, k, none⟩) (Nat.le_refl _) (Slc.val ⟨(YS k).a, (nth Y k).length, (YS k).c⟩))
      have hyk := HYB.out k hlt
      by_cases hs : k < S.length
      · have hs2 : (k : Int) < S.length := Int.ofNat_lt.2 hs
        obtain ⟨s1, s2, s3, s4⟩ := HSO.out
        have e2 := s1 (by omega)
        have zs := s4 (by omega)
        subst e2
        have dy2 : (wo.setCell ⟨w.heap.size, k, none⟩ (.slice (YS k).a (nth Y k).length (YS k).c)).cell? ⟨yb, yo + k, none⟩ = some (.slice (YS k).a (nth Y k).length (YS k).c) := (HB1.out.cell (p := ⟨yb, _, none⟩) zy).trans (y2 k hlt)
        have ds2 : (wo.setCell ⟨w.heap.size, k, none⟩ (.slice (YS k).a (nth Y k).length (YS k).c)).cell? ⟨sb, so + k, none⟩ = some (.slice (SS k).a (nth S k).length (SS k).c) := (HB1.out.cell (p := ⟨sb, _, none⟩) zs).trans (s2 k hs)
        have HRS := hid (s3 k hs)
        have hsk := HSB.out k hs
        have HJ := hid (show joinAt S Y k = unionL (nth Y k) (nth S k) by unfold joinAt; rw [if_pos hs])
        clear y1 y2 y3 y4 s1 s2 s3 s4
        go_wp2_with fail
        obtain ⟨W1, hW1⟩ : ∃ W1, W1 = wo.setCell ⟨w.heap.size, k, none⟩ (.slice (YS k).a (nth Y k).length (YS k).c) := ⟨_, rfl⟩
        have HP2 := hid HP1.out
        have hb2 := HB1.out
        rw [show Slc.val ⟨(YS k).a, (nth Y k).length, (YS k).c⟩ = .slice (YS k).a (nth Y k).length (YS k).c from rfl] at HP2 hb2
        rw [← hW1] at dy2 ds2 HP2 hb2 ⊢
        have HB2 := hid hb2
        have zg1 : w.heap.size < W1.heap.size := by rw [hW1]; simpa using zg
        have d1 := HP2.out.cell k (by rw [List.length_set, HLN.out]; exact hlt)
        have f1 := HP2.out.frozen k
        have ny : yb ≠ w.heap.size := by omega
        have zy1 : yb < W1.heap.size := by omega
        have zs1 : sb < W1.heap.size := by omega
        clear hW1 hb2 d0 dy
        refine Plan.wp_chain planJ7 W1.heap.size (by kernel_rfl) rfl (by kernel_rfl) (by kernel_rfl) ?_
        repeat (first | (apply Plan.chain_skip rfl rfl; simp only [Act.put, List.setIfInBounds_toArray, List.set_cons_zero, List.set_cons_succ]) | (apply Plan.chain_det rfl rfl; (· intro w' hb; obtain ⟨hcl, hfz⟩ := bcellB hb; go_simp; rfl); simp only [Act.put, List.setIfInBounds_toArray, List.set_cons_zero, List.set_cons_succ]))
        refine Plan.chain_call 29 #[.slice (YS k).a (nth Y k).length (YS k).c, .slice (SS k).a (nth S k).length (SS k).c] (fun v w' => IntsAt W1.heap.size w' v (unionL (nth Y k) (nth S k)) ∧ Below W1.heap.size W1 w') rfl rfl rfl (by go_simp) ?_ (fun v w' h => h.2) (fun v3 w3 h => ?_)
        · have hd := (Below.refl W1.heap.size W1).drew
          refine (runion_calls lo2 lo1 _ _ (nth Y k) (nth S k) W1.drew (HRY.out.below (bvia HB2.out hd)) (HRS.out.below (bvia HB2.out hd)) (by omega) (by omega)).mono ?_
          rintro e w' ⟨v', rfl, hi, hb⟩
          exact ⟨_, rfl, hi, bvia hd hb⟩
        obtain ⟨hi3, hb3⟩ := h
        obtain ⟨a3, c3, _, _, rfl, _⟩ := IntsAt.open hi3
        have HI3 := hid hi3
        have HB13 := hid hb3
        have HB3 := hid (bvia HB2.out hb3)
        have HV3 := hid (HP2.out.below hb3)
        have zg3 : w.heap.size < w3.heap.size := Nat.lt_of_lt_of_le zg1 hb3.size
        have zf3 := HV3.out.frozen k
        have d3 := HV3.out.cell k (by rw [List.length_set, HLN.out]; exact hlt)
        clear hi3 hb3
        repeat (first | (apply Plan.chain_skip rfl rfl; simp only [Act.put, List.setIfInBounds_toArray, List.set_cons_zero, List.set_cons_succ]) | (apply Plan.chain_det rfl rfl; (· intro w' hb; obtain ⟨hcl, hfz⟩ := bcellB hb; go_simp; rfl); simp only [Act.put, List.setIfInBounds_toArray, List.set_cons_zero, List.set_cons_succ]))
        refine Plan.chain_fin rfl rfl ?_
        go_wp2_with fail
        have hput := HV3.out.put k ⟨a3, (unionL (nth Y k) (nth S k)).length, c3⟩ (unionL (nth Y k) (nth S k)) (by rw [List.length_set, HLN.out]; exact hlt) HI3.out (fun h0 q hq => by have := (HI3.out.blk h0 q hq).1; omega)
        rw [List.set_set, List.set_set, ← HJ.out, rmap_set _ _ _ _ hlt, HJ.out] at hput
        exact ⟨⟨k + 1, _, by omega, by go_num, hput, HB3.out.setCell (Nat.le_refl _) _⟩, by simp [intOf] <;> omega⟩
      · have hs2 : ¬ (k : Int) < S.length := by omega
        have HJ := hid (show joinAt S Y k = nth Y k by unfold joinAt; rw [if_neg hs])
        clear y1 y2 y3 y4
        go_wp2_with fail
        have hput := HP1.out
        rw [← HJ.out, rmap_set _ _ _ _ hlt, HJ.out] at hput
        exact ⟨⟨k + 1, _, by omega, by go_num, hput, HB1.out⟩, by simp [intOf] <;> omega⟩
    · have hlay := HVO.out.lays (by rw [HLN.out]; omega)
      rw [show k = n by omega, Nat.sub_self, List.replicate_zero, List.append_nil] at hlay
      have HL := hid hlay
      clear hlay
      go_wp2_with fail
      go_ret
      exact ⟨_, rfl, HL.out, HBL.out⟩

end Go.Proofs.Ytnbffkcnhphdnaa
