/-
  One round, walked.
-/
import Derived.Deep.QuietTactic
import Derived.BigQuiet
import Derived.Test.YteiohnfmlabelaaGreatZAppend
import Derived.Test.YteiohnfmlabelaaGreatZEqual
import Derived.Test.YteiohnfmlabelaaGreatZChain
import Derived.Test.YteiohnfmlabelaaGreatZPrClone
import Derived.Test.YteiohnfmlabelaaGreatZLvDead
import Derived.Test.YteiohnfmlabelaaGreatZPrFinR
import Derived.Test.YteiohnfmlabelaaGreatZPrWf
namespace Go.Proofs.YteiohnfmlabelaaGreat
set_option linter.unusedVariables false
set_option linter.unusedSimpArgs false
open Go.RowKit

noncomputable def planPR8 : Plan := mkPlan (regionOf Tryz.f23 8) [(7, .new), (10, .fin)] []

theorem filt_take (a : Ins → Ins) (G : Nat → Bool) (t : List Ins) (k : Nat) (hk : k < t.length) : filt a G (t.take (k + 1)) 0 = filt a G (t.take k) 0 ++ (if G k then [] else [a (nth t k)]) := by
  rw [List.take_add_one, List.getElem?_eq_getElem hk, filt_append, ← nth_eq _ _ hk]
  have e : (t.take k).length = k := by rw [List.length_take]; omega
  rw [e, Nat.zero_add]
  rfl
/-- The first k targets are final. -/
def TgK (c : List Ins) (k : Nat) (t : List Ins) : Prop := t.length = c.length ∧ ∀ j, j < c.length → nth t j = if j < k then toT c (nth c j) else nth c j
theorem TgK.start (c : List Ins) : TgK c 0 c := ⟨rfl, fun j _ => by rw [if_neg (by omega)]⟩
theorem TgK.done {c t : List Ins} (h : TgK c c.length t) : t = targL c := by
  refine List.ext_getElem (by rw [h.1, targL_len]) fun i h1 h2 => ?_
  have hi : i < c.length := by rw [← h.1]; exact h1
  rw [← nth_eq _ _ h1, ← nth_eq _ _ h2, h.2 i hi, if_pos hi, targL_at c i hi]
theorem TgK.skip {c t : List Ins} {k : Nat} (h : TgK c k t) (hj : ¬ jumps (nth c k).op) : TgK c (k + 1) t := by
  refine ⟨h.1, fun j hj' => ?_⟩
  rw [h.2 j hj']
  by_cases e : j = k
  · subst e
    rw [if_neg (by omega), if_pos (by omega)]
    unfold toT
    rw [if_neg hj]
  · by_cases e2 : j < k
    · rw [if_pos e2, if_pos (by omega)]
    · rw [if_neg e2, if_neg (by omega)]
theorem TgK.step {c t : List Ins} {k : Nat} (h : TgK c k t) (hk : k < c.length) (hj : jumps (nth c k).op) : TgK c (k + 1) (t.set k { nth t k with c := finL c (nth c k).c }) := by
  refine ⟨by simp [h.1], fun j hj' => ?_⟩
  by_cases e : k = j
  · subst e
    rw [nth_set_eq _ _ _ (by rw [h.1]; exact hk), if_pos (by omega), h.2 k hk, if_neg (by omega)]
    unfold toT
    rw [if_pos hj]
  · rw [nth_set_ne _ _ _ _ e, h.2 j hj']
    by_cases e2 : j < k
    · rw [if_pos e2, if_pos (by omega)]
    · rw [if_neg e2, if_neg (by omega)]

set_option maxRecDepth 100000 in
set_option maxHeartbeats 8000000 in
theorem round_calls (X : Nat → Prop) (base g cap : Nat) (vg vl : Value) (p : Prg) (ss rs : List Slc) (F : Nat) (w : World) (hv : validB p = true) (hF : F < p.funcs.length) (hO : OutP X base g cap w vg vl p ss rs) :
    Calls Tryz.prog 23 #[.agg #[.slice (some ⟨g, 0, none⟩) p.funcs.length cap, vg, vl, .int .i64 p.main], .int .i64 F] w fun e w' =>
      ∃ s, e = .returned (.bool (!eqC (nth p.funcs F).code (newC p F))) ∧ OutP X base g cap w' vg vl (put p F (newC p F)) (ss.set F s) rs ∧ Only (some g) w w' ∧ Below g w w' := by
  have HV := hid hv
  have HO := hid hO
  have HK := hid (fok_of_funcB (valid_func hv F hF))
  obtain ⟨c, hc⟩ : ∃ c, (nth p.funcs F).code = c := ⟨_, rfl⟩
  obtain ⟨q0, q1, q2, q3, qf, qg, qc⟩ := hO.cellsC F hF c hc
  have hn := HK.out.pos
  have hn2 := HK.out.le
  have HTG := hid (fok_tgs HK.out)
  rw [hc] at hn hn2 HTG ⊢
  have HC := hid hc
  have HCA := hid qc
  have HQ := hid (And.intro q0 (And.intro q1 (And.intro q2 (And.intro q3 qf))))
  have hFi : ¬ ((F : Int) < 0) := by omega
  have hFl : (F : Int) < p.funcs.length := by omega
  obtain ⟨ga, gn, gc, rfl⟩ : ∃ a n c, vg = .slice a n c := by obtain ⟨a, c, _, _, h, _⟩ := hO.globs.1.open; exact ⟨_, _, _, h⟩
  obtain ⟨la, lc, _, _, _, rfl, _⟩ := hO.at (valid_pos hv).2 |>.lays.open
  clear hO hv hc qc qf
  go_enter Tryz.func23, Tryz.ntmps23
  go_wp2_with fail
  generalize hW : World.alloc w _ = W0
  have hbw : Below w.heap.size w W0 := by rw [← hW]; exact (Below.refl _ _).alloc (Nat.le_refl _) _
  have hbx : BoxAt W0 w.heap.size 26 [.slice (some ⟨g, 0, none⟩) p.funcs.length cap, .slice ga gn gc, .slice la p.layouts.length lc, .int .i64 p.main] := by rw [← hW]; exact BoxAt.new w _ _ _ _ rfl rfl
  have HBW := hid hbw
  have HBX := hid hbx
  have HO0 := hid (HO.out.below hbw)
  clear hW hbw hbx q0 q1 q2 q3 qg
  refine (clnIns_calls 0 _ c W0 (HO0.out.cellsC F hF c HC.out).2.2.2.2.2.2 (by omega)).mono ?_
  rintro e w1 ⟨v6, rfl, ho6, hb6⟩
  obtain ⟨g6, c6, rfl, l6, u6⟩ := ho6.open hn
  have HO1 := hid (HO0.out.below hb6)
  have HO6 := hid ho6
  have HB6 := hid hb6
  have HBX1 := hid (HBX.out.below hb6)
  obtain ⟨q0, q1, q2, q3, qf, qg, qc⟩ := HO1.out.cellsC F hF c HC.out
  have HCA1 := hid qc
  clear ho6 hb6 qc
  go_wp2_with fail
  refine (clnIns_calls 0 _ c w1 HCA1.out (by omega)).mono ?_
  rintro e w2 ⟨v7, rfl, ho7, hb7⟩
  obtain ⟨g7, c7, rfl, l7, u7⟩ := ho7.open hn
  have HO7 := hid ho7
  have HB7 := hid hb7
  clear ho7 hb7 q0 q1 q2 q3 qf qg
  go_wp2_with fail
  go_loopw [35] (fun i wr => ∃ (k : Nat) (t : List Ins), k ≤ c.length ∧ i = .int .i64 k ∧ TgK c k t ∧ OwnE insE w1.heap.size 39 wr (.slice (some ⟨g7, 0, none⟩) c.length c7) t ∧ Below w1.heap.size w1 wr) (fun i _ => c.length - (intOf i).toNat)
  case atStart => exact ⟨0, c, Nat.zero_le _, rfl, TgK.start c, HO7.out, HB7.out⟩
  case round =>
    obtain ⟨k, t, hk, rfl, htk, hot, hbl⟩ := hrel
    obtain ⟨wo, hwo⟩ : ∃ wo, wo = wr := ⟨_, rfl⟩
    subst hwo
    have HTK := hid htk
    have HOT := hid hot
    have HBL := hid hbl
    have HO2 := hid (HO1.out.below hbl)
    clear htk hot hbl
    by_cases hlt : k < c.length
    · have hlt2 : (k : Int) < c.length := Int.ofNat_lt.2 hlt
      have hki : ¬ ((k : Int) < 0) := by omega
      obtain ⟨x0, x1, x2, x3, x4, xf, xg⟩ := ins_cells (HO6.out.fresh (Only.below HBL.out none)) k hlt
      obtain ⟨q0, q1, q2, q3, qf, qg, qc⟩ := HO2.out.cellsC F hF c HC.out
      obtain ⟨y0, y1, y2, y3, y4, yf, yg⟩ := ins_cells HOT.out k (by rw [HTK.out.1]; exact hlt)
      have HCA2 := hid qc
      have z3 := yf (k * 5 + 3)
      clear qc xf qf yf
      cases hj : jmpB (nth c k).op with
      | false =>
        have HJ := hid hj
        clear hj
        go_wp2_with (
          go_at_call 41
          refine (pjumps_calls _ _).mono ?_
          rw [HJ.out]
          rintro e wj ⟨rfl, rfl⟩)
        go_roundw
        case rel => exact ⟨k + 1, t, by omega, by go_num, HTK.out.skip (of_decide_eq_false HJ.out), HOT.out.alloc _, HBL.out.alloc HBL.out.size _⟩
        case measure => simp [intOf] <;> omega
      | true =>
        have HJ := hid hj
        clear hj
        go_wp2_with (
          go_at_call 41
          refine (pjumps_calls _ _).mono ?_
          rw [HJ.out]
          rintro e wj ⟨rfl, rfl⟩)
        generalize hW3 : World.alloc wo _ = W3
        have hb3 : Below wo.heap.size wo W3 := by rw [← hW3]; exact (Below.refl _ _).alloc (Nat.le_refl _) _
        have hbx3 : BoxAt W3 wo.heap.size 39 [.int .i64 (nth c k).op, .int .i64 (nth c k).a, .int .i64 (nth c k).b, .int .i64 (nth c k).c, .int .i64 (nth c k).pos] := by rw [← hW3]; exact BoxAt.new wo _ _ _ _ rfl rfl
        have r3 := hbx3.cell 3 _ rfl
        have rz := hbx3.lt
        have HB3 := hid hb3
        obtain ⟨q0, q1, q2, q3, qf, qg, qc⟩ := (HO2.out.below hb3).cellsC F hF c HC.out
        have HCA3 := hid qc
        obtain ⟨y0, y1, y2, y3, y4, yf, yg⟩ := ins_cells (HOT.out.fresh (Only.below hb3 none)) k (by rw [HTK.out.1]; exact hlt)
        clear hW3 hb3 hbx3 qc x0 x1 x2 x3 x4 yf z3
        refine Plan.wp_chain planPR8 W3.heap.size (by kernel_rfl) rfl (by kernel_rfl) (by kernel_rfl) ?_
        repeat (first | (apply Plan.chain_skip rfl rfl; simp only [Act.put, List.setIfInBounds_toArray, List.set_cons_zero, List.set_cons_succ]) | (apply Plan.chain_det rfl rfl; (· intro w' hb; obtain ⟨hcl, hfz⟩ := bcellB hb; go_simp; rfl); simp only [Act.put, List.setIfInBounds_toArray, List.set_cons_zero, List.set_cons_succ]))
        refine Plan.chain_call 42 #[.agg #[.string (nth p.funcs F).name, .int .i64 (nth p.funcs F).params, .int .i64 (nth p.funcs F).regs, .slice (nth ss F).a c.length (nth ss F).c], .int .i64 (nth c k).c] (fun v w' => v = .int .i64 (finL c (nth c k).c) ∧ Below W3.heap.size W3 w') rfl rfl rfl (by go_simp) ?_ (fun v w' h => h.2) (fun va w4 h => ?_)
        · refine (pfinal_calls 0 _ _ _ _ c _ _ (CodeAt.below HCA3.out (Below.refl _ _).drew) HTG.out (HTG.out k hlt (of_decide_eq_true HJ.out)) hn2).mono ?_
          rintro e w' ⟨rfl, hb⟩
          exact ⟨_, rfl, rfl, (Below.refl _ _).drew.trans hb⟩
        obtain ⟨rfl, hb4⟩ := h
        simp only [Act.put, List.setIfInBounds_toArray, List.set_cons_zero, List.set_cons_succ]
        have HB4 := hid hb4
        have hot4 := (HOT.out.fresh (Only.below HB3.out none)).fresh (Only.below hb4 none)
        have HOT4 := hid hot4
        obtain ⟨y0, y1, y2, y3, y4, yf, yg⟩ := ins_cells hot4 k (by rw [HTK.out.1]; exact hlt)
        have z3 := yf (k * 5 + 3)
        clear hb4 hot4 yf
        repeat (first | (apply Plan.chain_skip rfl rfl; simp only [Act.put, List.setIfInBounds_toArray, List.set_cons_zero, List.set_cons_succ]) | (apply Plan.chain_det rfl rfl; (· intro w' hb; obtain ⟨hcl, hfz⟩ := bcellB hb; go_simp; rfl); simp only [Act.put, List.setIfInBounds_toArray, List.set_cons_zero, List.set_cons_succ]))
        refine Plan.chain_fin rfl rfl ?_
        unfold Oper.wp
        go_simp
        go_wp2_with fail
        go_roundw
        case rel => exact ⟨k + 1, t.set k { nth t k with c := finL c (nth c k).c }, by omega, by go_num, HTK.out.step hlt (of_decide_eq_true HJ.out), HOT4.out.put k 3 _ _ (by rw [HTK.out.1]; exact hlt) (by decide) rfl, ((HBL.out.trans (HB3.out.mono HBL.out.size)).trans (HB4.out.mono (Nat.le_trans HBL.out.size HB3.out.size))).setCell (by show _ ≤ g7; omega) _⟩
        case measure => simp [intOf] <;> omega
    · have hke : k = c.length := by omega
      have HKE := hid hke
      subst hke
      have htt := HTK.out.done
      subst htt
      have HF' := hid (show F < (targP p F).funcs.length by unfold targP; rw [put_len]; exact hF)
      have HVT := hid (targ_valid HV.out F hF)
      have hcT : (nth (targP p F).funcs F).code = targL c := by rw [targ_code p F hF, HC.out]
      have HCT := hid hcT
      have HJT := hid (show Jok (targL c) by rw [← hcT]; exact (fok_of_funcB (valid_func HVT.out F HF'.out)).jok)
      clear hcT
      obtain ⟨q0, q1, q2, q3, qf, qg, qc⟩ := HO2.out.cellsC F hF c HC.out
      have z3 := qf (F * 4 + 3)
      have hgw := HO1.out.back.2
      have HGW := hid hgw
      have hot := hid (HOT.out.far (X := X) (fun k hk => HO1.out.xlt k hk))
      have HOS := hid (show OutP X base g cap (wo.setCell ⟨g, F * 4 + 3, none⟩ (.slice (some ⟨g7, 0, none⟩) c.length c7)) (.slice ga gn gc) (.slice la p.layouts.length lc) (put p F (targL c)) (ss.set F ⟨some ⟨g7, 0, none⟩, c.length, c7⟩) rs from HO2.out.put F hF ⟨some ⟨g7, 0, none⟩, c.length, c7⟩ (targL c) (HOT.out.sl (Nat.zero_le _) (by rw [targL_len]; omega)) hot.out)
      have HOnly := hid ((Only.below ((HBW.out.trans (HB6.out.mono HBW.out.size)).trans (HBL.out.mono (Nat.le_trans HBW.out.size HB6.out.size))) (some g)).trans (Only.store wo g (F * 4 + 3) (.slice (some ⟨g7, 0, none⟩) c.length c7)))
      have HBelow := hid ((((HBW.out.trans (HB6.out.mono HBW.out.size)).trans (HBL.out.mono (Nat.le_trans HBW.out.size HB6.out.size))).mono (Nat.le_of_lt HO.out.back.2)).setCell (p := ⟨g, F * 4 + 3, none⟩) (Nat.le_refl _) (.slice (some ⟨g7, 0, none⟩) c.length c7))
      have hne7 : g7 ≠ g := by omega
      have HOT5 := hid (HOT.out.other ⟨g, F * 4 + 3, none⟩ (.slice (some ⟨g7, 0, none⟩) c.length c7) (fun q hq e => by cases hq; exact hne7 e))
      have hne6 : g6 ≠ g := by have := HO0.out.back.2; omega
      have HO65 := hid ((HO6.out.fresh (Only.below HBL.out none)).other ⟨g, F * 4 + 3, none⟩ (.slice (some ⟨g7, 0, none⟩) c.length c7) (fun q hq e => by cases hq; exact hne6 e))
      have HBX5 := hid ((HBX1.out.ofBlock (HBL.out.block _ HBX1.out.lt)).other ⟨g, F * 4 + 3, none⟩ (.slice (some ⟨g7, 0, none⟩) c.length c7) (by have := HO.out.back.2; show w.heap.size ≠ g; omega))
      rw [show put p F (targL c) = targP p F by unfold targP; rw [HC.out]] at HOS
      have hmb : ∀ u : World, (Instr.makeSlice 34 (.int .i64 (c.length : Int)) (.int .i64 (c.length : Int))).run Tryz.prog u = .ok (.slice (some ⟨u.heap.size, 0, none⟩) c.length c.length) (u.alloc (.cells (madeCells #[.bool false] c.length) 4)) := fun u => run_make_row' (P := Tryz.prog) 34 4 (.bool false) 1 Tryz.underlying34 infoB rfl .i64 .i64 c.length (by omega) (by omega) u
      have hmi : ∀ u : World, (Instr.makeSlice 36 (.int .i64 ((c.length : Int) + 1)) (.int .i64 ((c.length : Int) + 1))).run Tryz.prog u = .ok (.slice (some ⟨u.heap.size, 0, none⟩) (c.length + 1) (c.length + 1)) (u.alloc (.cells (madeCells #[.int .i64 0] (c.length + 1)) 3)) := fun u => run_make_row' (P := Tryz.prog) 36 3 (.int .i64 0) 8 Tryz.underlying36 infoI1 rfl .i64 .i64 (c.length + 1) (by omega) (by omega) u
      clear qf qc hot
      go_wp2_with fail
      obtain ⟨W5, hW5⟩ : ∃ W5, World.setCell wo ⟨g, F * 4 + 3, none⟩ (.slice (some ⟨g7, 0, none⟩) c.length c7) = W5 := ⟨_, rfl⟩
      rw [hW5] at HOS HOnly HBelow HOT5 HO65 HBX5
      rw [hW5]
      clear hW5 q0 q1 q2 q3 qg z3 HTK HOT HO2 HBL
      refine (reach_calls 0 _ _ _ _ (targL c) W5 (HOT5.out.sl (Nat.zero_le _) (by rw [targL_len]; omega)) HJT.out).mono ?_
      rintro e w6 ⟨g10, n10, rfl, hn10, l10, hr10, hb10⟩
      obtain rfl : n10 = c.length := by rw [hn10, targL_len]
      have HR10 := hid hr10
      have HB10 := hid hb10
      have HBX6 := hid (HBX5.out.below hb10)
      have p0 := HBX6.out.cell 0 _ rfl
      have p1 := HBX6.out.cell 1 _ rfl
      have p2 := HBX6.out.cell 2 _ rfl
      have p3 := HBX6.out.cell 3 _ rfl
      have pz := HBX6.out.lt
      clear hr10 hb10 hn10
      go_wp2_with fail
      have htl : (targP p F).funcs.length = p.funcs.length := by unfold targP; rw [put_len]
      have hat := (HOS.out.frame (Only.below (HB10.out.alloc HB10.out.size (.cells (madeCells #[.bool false] c.length) 4)) none)).at (by rw [htl]; exact (valid_pos HV.out).2)
      rw [htl] at hat
      refine (dead_calls 0 _ _ _ (targP p F) (F : Int) _ hat).mono ?_
      rintro e w8 ⟨v8, dl, rfl, hD, hd8, hb8⟩
      have hRB := (RowB.made w6 c.length).below hb8
      have HBA := hid (show Below w6.heap.size w6 w8 from ((Below.refl _ _).alloc (Nat.le_refl _) _).trans (hb8.mono (by simp)))
      have HRB := hid hRB
      have HDL := hid hd8
      have hlen : dl.length ≤ c.length := by
        rcases hD with ⟨_, rfl⟩ | ⟨_, L, _, rfl⟩
        · simp
        · refine Nat.le_trans (deadL_len _ _ _ _) ?_
          rw [Int.toNat_natCast, HCT.out, targL_len]; exact Nat.le_refl _
      have hdo : deadOf (targP p F) F = dl := deadOf_is hD
      have HDO := hid hdo
      have HIN := hid (show ∀ x ∈ dl, ∃ i : Nat, x = i ∧ i < c.length from fun x hx => by
        rcases hD with ⟨_, rfl⟩ | ⟨_, L, _, rfl⟩
        · simp at hx
        · unfold deadL at hx
          simp only [List.mem_map, List.mem_filter, List.mem_range] at hx
          obtain ⟨k, ⟨h1, _⟩, rfl⟩ := hx
          rw [Int.toNat_natCast, HCT.out, targL_len] at h1
          exact ⟨k, rfl, h1⟩)
      obtain ⟨da, dc, db, do', rfl, d1, d2, d3, d4, d5⟩ := hd8.open
      have HDQ := hid (And.intro d1 (And.intro d2 (And.intro d3 d4)))
      have HDN := hid (show c.length ≤ c.length from Nat.le_refl _)
      clear htl hat hD hd8 hb8 hRB hdo p0 p1 p2 p3 pz d1 d2 d3 d4 d5
      go_wp2_with fail
      go_loopw [69] (fun i wr => ∃ (k : Nat) (gl : List Bool), k ≤ dl.length ∧ i = .int .i64 k ∧ gl.length = c.length ∧ (∀ j, j < c.length → nth gl j = decide ((j : Int) ∈ dl.take k)) ∧ RowB wr w6.heap.size gl ∧ Below w6.heap.size w6 wr ∧ Only (some w6.heap.size) w8 wr) (fun i _ => dl.length - (intOf i).toNat)
      case atStart => exact ⟨0, List.replicate c.length false, Nat.zero_le _, rfl, by simp, fun j hj => by rw [nth_replicate _ _ _ hj]; simp, HRB.out, HBA.out, Only.refl _ _⟩
      case round =>
        obtain ⟨k, gl, hk, rfl, hgl, hgn, hrb, hbl, honl⟩ := hrel
        obtain ⟨wo2, hwo2⟩ : ∃ wo2, wo2 = wr := ⟨_, rfl⟩
        subst hwo2
        have HGL := hid hgl
        have HGN := hid hgn
        have HRB2 := hid hrb
        have HBL2 := hid hbl
        have HON := hid honl
        clear hgl hgn hrb hbl honl
        by_cases hlt : k < dl.length
        · have hlt2 : (k : Int) < dl.length := Int.ofNat_lt.2 hlt
          have hki : ¬ ((k : Int) < 0) := by omega
          obtain ⟨d1, d2, d3, d4⟩ := HDQ.out
          have e1 := d1 (by omega)
          subst e1
          have hdb : db ≠ w6.heap.size := by have := d4 (by omega); simp at this; omega
          have dk := (World.cell?_of_block (w := w8) (a := ⟨db, do' + k, none⟩) (HON.out.2 db (d3 (by omega)) (fun e => hdb (Option.some.inj e)))).trans (d2 k hlt)
          have ds : db < wo2.heap.size := Nat.lt_of_lt_of_le (d3 (by omega)) HON.out.1
          obtain ⟨q, hq, hqn⟩ := HIN.out _ (nth_mem dl k hlt)
          rw [hq] at dk
          have HQQ := hid hq
          have hqi : (q : Int) < c.length := by omega
          have hq0 : ¬ ((q : Int) < 0) := by omega
          have zg := HRB2.out.frozen q
          have cg := HRB2.out.cell (i := q) (by rw [HGL.out]; exact hqn)
          have sg := HRB2.out.lt
          clear d1 d2 d3 d4 hq
          go_wp2_with fail
          go_roundw
          case rel =>
            refine ⟨k + 1, gl.set q true, by omega, by go_num, by simp [HGL.out], fun j hj => ?_, HRB2.out.set q true, HBL2.out.setCell (Nat.le_refl _) _, HON.out.trans (Only.store wo2 _ _ _)⟩
            rw [nth_set _ _ _ _ (by rw [HGL.out]; exact hj), List.take_add_one, List.getElem?_eq_getElem hlt, ← nth_eq _ _ hlt, HQQ.out, HGN.out j hj]
            by_cases e : j = q
            · subst e; rw [if_pos rfl]; simp
            · rw [if_neg e]; congr 1; simp; omega
          case measure => simp [intOf] <;> omega
        · have hke2 : k = dl.length := by omega
          subst hke2
          have hgn2 := HGN.out
          rw [List.take_length] at hgn2
          have HG2 := hid hgn2
          clear hgn2
          obtain ⟨G, hGe⟩ : ∃ G, goneP p F = G := ⟨_, rfl⟩
          have HGE := hid hGe
          have HGD := hid (show ∀ i, G i = (decide ((i : Int) ∈ dl) || (!(nth (reachL (targL c)) i) || (((nth (targL c) i).op == 16 || (nth (targL c) i).op == 17) && ((nth (targL c) i).c == (i : Int) + 1)))) from fun i => by
            rw [← hGe]
            unfold goneP goneB
            rw [HDO.out, HC.out])
          clear hGe
          go_wp2_with fail
          obtain ⟨g14, hg14⟩ : ∃ g14, g14 = wo2.heap.size := ⟨_, rfl⟩
          rw [← hg14]
          obtain ⟨WC, hWC⟩ : ∃ WC, wo2.alloc (.cells (madeCells #[.int .i64 0] (c.length + 1)) 3) = WC := ⟨_, rfl⟩
          rw [hWC]
          obtain ⟨B, hB⟩ : ∃ B, B = WC.heap.size := ⟨_, rfl⟩
          have hBg : B = g14 + 1 := by rw [hB, ← hWC, hg14]; simp
          have h6g : w6.heap.size < g14 := by rw [hg14]; exact HRB2.out.lt
          have HBC := hid (show Below w6.heap.size w6 WC from by rw [← hWC]; exact HBL2.out.alloc HBL2.out.size _)
          have HRBC := hid (show RowB WC w6.heap.size gl from by rw [← hWC]; exact HRB2.out.alloc _)
          have HRIC := hid (show RowI WC g14 (List.replicate (c.length + 1) 0) from by rw [← hWC, hg14]; exact RowI.made wo2 (c.length + 1))
          clear hg14 hWC
          go_loopw [83, 15] (fun i o wr => ∃ (k : Nat) (a15 : Option Addr) (c15 : Nat) (gl : List Bool) (nl : List Int), k ≤ c.length ∧ i = .int .i64 k ∧ o = .slice a15 (keepN G k) c15 ∧ OwnE insE B 39 wr (.slice a15 (keepN G k) c15) (filt id G ((targL c).take k) 0) ∧ gl.length = c.length ∧ (∀ j, j < c.length → nth gl j = if j < k then G j else decide ((j : Int) ∈ dl)) ∧ RowB wr w6.heap.size gl ∧ nl.length = c.length + 1 ∧ (∀ j, j < k → nth nl j = (keepN G j : Nat)) ∧ RowI wr g14 nl ∧ Below w6.heap.size w6 wr) (fun i _ _ => c.length - (intOf i).toNat)
          case atStart => exact ⟨0, none, 0, gl, _, Nat.zero_le _, rfl, rfl, OwnE.nil _ _ _ _, HGL.out, fun j hj => by rw [HG2.out j hj, if_neg (by omega)], HRBC.out, by simp, fun j hj => by omega, HRIC.out, HBC.out⟩
          case round =>
          obtain ⟨k, a15, c15, gl, nl, hk, rfl, rfl, hout, hgl3, hgn3, hrb3, hnl3, hnn3, hri3, hbl3⟩ := hrel
          obtain ⟨wo3, hwo3⟩ : ∃ wo3, wo3 = wr := ⟨_, rfl⟩
          subst hwo3
          have HOUT3 := hid hout
          have HGL3 := hid hgl3
          have HGN3 := hid hgn3
          have HRB3 := hid hrb3
          have HNL3 := hid hnl3
          have HNN3 := hid hnn3
          have HRI3 := hid hri3
          have HBL3 := hid hbl3
          have hkn := keepN_le G k
          have HLN := hid (show (filt id G ((targL c).take k) 0).length = keepN G k by rw [filt_len0, List.length_take, targL_len, Nat.min_eq_left hk])
          clear hout hgl3 hgn3 hrb3 hnl3 hnn3 hri3 hbl3
          refine (Classical.em (k < c.length)).elim (fun hlt => ?_) (fun hge => ?_)
          rotate_left
          · have hkc : k = c.length := by omega
            subst hkc
            have HTAKE := hid (show (targL c).take c.length = targL c by rw [← targL_len c]; exact List.take_length)
            have HL0 := hid (show (filt id G (targL c) 0).length = keepN G c.length by rw [filt_len0, targL_len])
            have HNM := hid (show newC p F = (filt id G (targL c) 0).map (reN G) by unfold newC outC; rw [filt_map, HC.out, HGE.out])
            have zi := HRI3.out.frozen c.length
            have si := HRI3.out.lt
            have ci := HRI3.out.cell (i := c.length) (by rw [HNL3.out]; omega)
            have n2 : ¬ (g14 = w6.heap.size) := by omega
            have hoN : ∀ q, (Value.slice a15 (keepN G c.length) c15).ownBlock = some q → q ≠ (⟨g14, c.length, none⟩ : Addr).block := fun q hq => by have := (HOUT3.out.lt q hq).1; show q ≠ g14; omega
            obtain ⟨m, hm⟩ : ∃ m, m = keepN G c.length := ⟨_, rfl⟩
            have HOUT4 := hid (HOUT3.out.other _ (.int .i64 (keepN G c.length : Nat)) hoN)
            have HRI4 := hid (HRI3.out.set c.length (keepN G c.length : Nat))
            have HBL4 := hid (HBL3.out.setCell (p := ⟨g14, c.length, none⟩) (by show w6.heap.size ≤ g14; omega) (.int .i64 (keepN G c.length : Nat)))
            have hmc : (m : Int) = keepN G c.length := by rw [hm]
            rw [HTAKE.out] at HOUT4
            rw [← hm] at HOUT4 HRI4 HBL4 HL0 hkn
            simp only [← hm]
            clear hoN hmc hm
            go_wp2_with fail
            obtain ⟨wS, hwS⟩ : ∃ wS, wo3.setCell ⟨g14, c.length, none⟩ (.int .i64 (m : Int)) = wS := ⟨_, rfl⟩
            rw [hwS] at HOUT4 HRI4 HBL4
            rw [hwS]
            clear hwS zi si ci n2
            have HNN4 := hid (show ∀ j, j < c.length → nth (nl.set c.length (m : Int)) j = (keepN G j : Nat) from fun j hj => by rw [nth_set_ne _ _ _ _ (by omega)]; exact HNN3.out j hj)
            have HNL4 := hid (show (nl.set c.length (m : Int)).length = c.length + 1 by simp [HNL3.out])
            obtain ⟨nl4, hnl4⟩ : ∃ nl4, nl.set c.length (m : Int) = nl4 := ⟨_, rfl⟩
            rw [hnl4] at HRI4 HNN4 HNL4
            clear hnl4
            obtain ⟨o0, ho0⟩ : ∃ o0, filt id G (targL c) 0 = o0 := ⟨_, rfl⟩
            rw [ho0] at HOUT4 HL0 HNM
            have HOF := hid (show ∀ j, j < o0.length → jumps (nth o0 j).op → ∃ q : Nat, (nth o0 j).c = q ∧ q < c.length from fun j hj hjm => by
              rw [← ho0] at hj hjm ⊢
              obtain ⟨q, h1, h2, h3⟩ := filt_from id G (targL c) j hj
              have h4 := (filt_at id G (targL c) q h1 h2).2
              rw [h3] at h4
              replace h4 : nth (filt id G (targL c) 0) j = nth (targL c) q := h4
              rw [h4] at hjm ⊢
              obtain ⟨t1, t2, _⟩ := targL_tgs HTG.out q h1 hjm
              rw [targL_len] at t2
              exact ⟨(nth (targL c) q).c.toNat, (Int.toNat_of_nonneg t1).symm, by omega⟩)
            clear ho0
            go_loopw [136] (fun i wr => ∃ (k : Nat) (ol : List Ins), k ≤ m ∧ i = .int .i64 k ∧ ol.length = m ∧ (∀ j, j < m → nth ol j = if j < k then reN G (nth o0 j) else nth o0 j) ∧ OwnE insE B 39 wr (.slice a15 m c15) ol ∧ Below B wS wr) (fun i _ => m - (intOf i).toNat)
            case atStart => exact ⟨0, o0, Nat.zero_le _, rfl, HL0.out, fun j _ => by rw [if_neg (by omega)], HOUT4.out, Below.refl _ _⟩
            case round =>
            obtain ⟨k, ol, hk4, rfl, hol, holn, how, hbl4⟩ := hrel
            obtain ⟨wo4, hwo4⟩ : ∃ wo4, wo4 = wr := ⟨_, rfl⟩
            subst hwo4
            have HOL := hid hol
            have HOLN := hid holn
            have HOW := hid how
            have HB4 := hid hbl4
            clear hol holn how hbl4
            by_cases hlt4 : k < m
            · have hlt5 : (k : Int) < m := Int.ofNat_lt.2 hlt4
              have hki : ¬ ((k : Int) < 0) := by omega
              obtain ⟨g15, c16, he15, l15, u15⟩ := HOW.out.open (by rw [HOL.out]; omega)
              obtain ⟨rfl, hml, rfl⟩ := Value.slice.inj he15
              clear hml
              obtain ⟨y0, y1, y2, y3, y4, yf, yg⟩ := ins_cells HOW.out k (by rw [HOL.out]; exact hlt4)
              have hok : nth ol k = nth o0 k := by rw [HOLN.out k hlt4, if_neg (by omega)]
              rw [hok] at y0 y1 y2 y3 y4
              have HOK := hid hok
              clear hok he15
              cases hj : jmpB (nth o0 k).op with
              | false =>
                have HJ := hid hj
                clear hj
                go_wp2_with (
                  go_at_call 41
                  refine (pjumps_calls _ _).mono ?_
                  rw [HJ.out]
                  rintro e wj ⟨rfl, rfl⟩)
                go_roundw
                case rel =>
                  refine ⟨k + 1, ol, by omega, by go_num, HOL.out, fun j hj => ?_, HOW.out, HB4.out⟩
                  rw [HOLN.out j hj]
                  by_cases e : j = k
                  · subst e
                    rw [if_neg (by omega), if_pos (by omega)]
                    unfold reN
                    rw [if_neg (of_decide_eq_false HJ.out)]
                  · by_cases e2 : j < k
                    · rw [if_pos e2, if_pos (by omega)]
                    · rw [if_neg e2, if_neg (by omega)]
                case measure => simp [intOf] <;> omega
              | true =>
                have HJ := hid hj
                clear hj
                obtain ⟨q, hq, hqn⟩ := HOF.out k (by rw [HL0.out]; exact hlt4) (of_decide_eq_true HJ.out)
                rw [hq] at y3
                have HQQ := hid hq
                have hqi : (q : Int) < (c.length : Int) + 1 := by omega
                have hq0 : ¬ ((q : Int) < 0) := by omega
                have hri : RowI wo4 g14 nl4 := World.rowIs.of_block HRI4.out (HB4.out.block _ (by omega))
                have cq := hri.cell (i := q) (by rw [HNL4.out]; omega)
                rw [HNN4.out q hqn] at cq
                have sq := hri.lt
                have z3 := yf (k * 5 + 3)
                clear hri hq yf
                go_wp2_with (
                  go_at_call 41
                  refine (pjumps_calls _ _).mono ?_
                  rw [HJ.out]
                  rintro e wj ⟨rfl, rfl⟩)
                go_roundw
                case rel =>
                  refine ⟨k + 1, ol.set k { nth ol k with c := (keepN G q : Nat) }, by omega, by go_num, by simp [HOL.out], fun j hj => ?_, HOW.out.put k 3 _ _ (by rw [HOL.out]; exact hlt4) (by decide) rfl, HB4.out.setCell (by show B ≤ g15; omega) _⟩
                  by_cases e : k = j
                  · subst e
                    rw [nth_set_eq _ _ _ (by rw [HOL.out]; exact hlt4), if_pos (by omega), HOK.out]
                    unfold reN
                    rw [if_pos (of_decide_eq_true HJ.out), HQQ.out, Int.toNat_natCast]
                  · rw [nth_set_ne _ _ _ _ e, HOLN.out j hj]
                    by_cases e2 : j < k
                    · rw [if_pos e2, if_pos (by omega)]
                    · rw [if_neg e2, if_neg (by omega)]
                case measure => simp [intOf] <;> omega
            · have hkm : k = m := by omega
              have HOE := hid (show ol = newC p F by
                rw [HNM.out]
                refine List.ext_getElem (by rw [List.length_map, HL0.out, HOL.out]) fun i h1 h2 => ?_
                rw [← nth_eq _ _ h1, HOLN.out i (by rw [← HOL.out]; exact h1), if_pos (by rw [hkm, ← HOL.out]; exact h1), List.getElem_map, ← nth_eq])
              clear hkm
              have hW4 := (HB10.out.trans ((HBL4.out.trans (HB4.out.mono (by omega))).mono HB10.out.size))
              have HW4 := hid hW4
              have HOS4 := hid (HOS.out.frame (Only.below hW4 none))
              obtain ⟨q0, q1, q2, q3, qf, qg, qc⟩ := HOS4.out.cells F HF'.out
              have z3 := qf (F * 4 + 3)
              have hgB : g < B := by
                have h1 := HGW.out
                have h2 := HBelow.out.size
                have h3 := HW4.out.size
                have h4 := HOS.out.back.2
                have h5 := HB10.out.size
                omega
              have HCAn := hid (show CodeAt 0 wo4 (.slice a15 m c15) (newC p F) by rw [← HOE.out]; exact HOW.out.sl (Nat.zero_le _) (by rw [HOL.out]; omega))
              have HFar := hid (HOW.out.far (X := X) (fun k hk => by have h4 := HOS.out.xlt k hk; have h5 := HB10.out.size; omega))
              have HFin := hid (show OutP X base g cap (wo4.setCell ⟨g, F * 4 + 3, none⟩ (.slice a15 m c15)) (.slice ga gn gc) (.slice la p.layouts.length lc) (put (targP p F) F (newC p F)) ((ss.set F ⟨some ⟨g7, 0, none⟩, c.length, c7⟩).set F ⟨a15, m, c15⟩) rs from HOS4.out.put F HF'.out ⟨a15, m, c15⟩ (newC p F) HCAn.out HFar.out)
              rw [show put (targP p F) F (newC p F) = put p F (newC p F) by unfold targP; rw [put_put p F _ _ hF], List.set_set] at HFin
              have HOnly2 := hid ((HOnly.out.trans (Only.below HW4.out (some g))).trans (Only.store wo4 g (F * 4 + 3) (.slice a15 m c15)))
              have HBelow2 := hid ((HBelow.out.trans (HW4.out.mono (Nat.le_of_lt HOS.out.back.2))).setCell (p := ⟨g, F * 4 + 3, none⟩) (Nat.le_refl _) (.slice a15 m c15))
              have HEo := hid (((HO65.out.fresh (Only.below HW4.out none)).other ⟨g, F * 4 + 3, none⟩ (.slice a15 m c15) (fun q hq e => by cases hq; exact hne6 e)).sl (lo := 0) (Nat.zero_le _) (by omega))
              have HEn := hid (SlE.only HCAn.out (Only.store wo4 g (F * 4 + 3) (.slice a15 m c15)) (HFar.out.some HOS.out.xg))
              clear q0 q1 q2 qf qc hW4
              go_wp2_with (
                go_at_call 45
                refine (eqIns_calls 0 0 _ _ c (newC p F) _ HEo.out HEn.out).mono ?_
                rintro e wE ⟨rfl, hbE⟩
                have HBE := hid hbE
                clear hbE)
              go_ret
              exact ⟨⟨a15, m, c15⟩, rfl, HFin.out.below HBE.out, HOnly2.out.trans (Only.below HBE.out _), HBelow2.out.trans (HBE.out.mono (Nat.le_of_lt HFin.out.back.2))⟩
          have hlt2 : (k : Int) < c.length := Int.ofNat_lt.2 hlt
          have hlt3 : (k : Int) < (c.length : Int) + 1 := by omega
          have hki : ¬ ((k : Int) < 0) := by omega
          have hot3 := ((HOT5.out.fresh (Only.below HB10.out none)).fresh (Only.below HBL3.out none))
          obtain ⟨x0, x1, x2, x3, x4, xf, xg⟩ := ins_cells hot3 k (by rw [targL_len]; exact hlt)
          have hrr := HR10.out.below HBL3.out
          have ch := hrr.cell (i := k) (by rw [reachL_len, targL_len]; exact hlt)
          have sh := hrr.lt
          have ck := HRB3.out.cell (i := k) (by rw [HGL3.out]; exact hlt)
          rw [HGN3.out k hlt, if_neg (by omega)] at ck
          have zk := HRB3.out.frozen k
          have sk := HRB3.out.lt
          have ci := HRI3.out.cell (i := k) (by rw [HNL3.out]; omega)
          have zi := HRI3.out.frozen k
          have si := HRI3.out.lt
          have n1 : ¬ (w6.heap.size = g14) := by omega
          have n2 : ¬ (g14 = w6.heap.size) := by omega
          have hoG : ∀ q, (Value.slice a15 (keepN G k) c15).ownBlock = some q → q ≠ (⟨w6.heap.size, k, none⟩ : Addr).block := fun q hq => by have := (HOUT3.out.lt q hq).1; show q ≠ w6.heap.size; omega
          have hoN : ∀ q, (Value.slice a15 (keepN G k) c15).ownBlock = some q → q ≠ (⟨g14, k, none⟩ : Addr).block := fun q hq => by have := (HOUT3.out.lt q hq).1; show q ≠ g14; omega
          clear hot3 hrr xf
          cases hr : nth (reachL (targL c)) k with
          | false =>
              rw [hr] at ch
              have hG : G k = true := by rw [HGD.out k]; rw [hr]; simp
              have HGK := hid hG
              have HK1 := hid (show keepN G (k + 1) = keepN G k + 0 by simp [keepN, hG])
              clear hG
              clear hr
              go_wp2_with fail
              go_roundw
              case rel =>
                refine ⟨k + 1, a15, c15, gl.set k true, nl.set k (keepN G k : Nat), by omega, by go_num, by rw [HK1.out]; rfl, ?_, by simp [HGL3.out], fun j hj => ?_, ?_, by simp [HNL3.out], fun j hj => ?_, ?_, ?_⟩
                · rw [filt_take id G (targL c) k (by rw [targL_len]; exact hlt), HGK.out]
                  rw [HK1.out, if_pos rfl, List.append_nil]
                  exact ((HOUT3.out.other _ _ hoG).other _ _ hoN).alloc _
                · rw [nth_set _ _ _ _ (by rw [HGL3.out]; exact hj)]
                  by_cases e : j = k
                  · subst e; rw [if_pos rfl, if_pos (by omega), HGK.out]
                  · rw [if_neg e, HGN3.out j hj]
                    by_cases e2 : j < k
                    · rw [if_pos e2, if_pos (by omega)]
                    · rw [if_neg e2, if_neg (by omega)]
                · exact ((HRB3.out.set k true).other (by show w6.heap.size ≠ g14; omega) _).alloc _
                · rw [nth_set _ _ _ _ (by rw [HNL3.out]; omega)]
                  by_cases e : j = k
                  · subst e; rw [if_pos rfl]
                  · rw [if_neg e]; exact HNN3.out j (by omega)
                · exact ((HRI3.out.other (by show g14 ≠ w6.heap.size; omega) _).set k _).alloc _
                · exact ((HBL3.out.setCell (by show w6.heap.size ≤ w6.heap.size; exact Nat.le_refl _) _).setCell (by show w6.heap.size ≤ g14; omega) _).alloc (by simp; exact HBL3.out.size) _
              case measure => simp [intOf] <;> omega
          | true =>
              rw [hr] at ch
              by_cases h16 : (nth (targL c) k).op = 16
              · have h16b : ((nth (targL c) k).op == 16) = true := by rw [h16]; rfl
                clear h16
                by_cases hcc : (nth (targL c) k).c = (k : Int) + 1
                · have hccb : ((nth (targL c) k).c == (k : Int) + 1) = true := by rw [hcc]; simp
                  clear hcc
                  have hG : G k = true := by rw [HGD.out k]; rw [h16b, hccb]; simp
                  have HGK := hid hG
                  have HK1 := hid (show keepN G (k + 1) = keepN G k + 0 by simp [keepN, hG])
                  clear hG
                  clear hr
                  go_wp2_with fail
                  go_roundw
                  case rel =>
                    refine ⟨k + 1, a15, c15, gl.set k true, nl.set k (keepN G k : Nat), by omega, by go_num, by rw [HK1.out]; rfl, ?_, by simp [HGL3.out], fun j hj => ?_, ?_, by simp [HNL3.out], fun j hj => ?_, ?_, ?_⟩
                    · rw [filt_take id G (targL c) k (by rw [targL_len]; exact hlt), HGK.out]
                      rw [HK1.out, if_pos rfl, List.append_nil]
                      exact ((HOUT3.out.other _ _ hoG).other _ _ hoN).alloc _
                    · rw [nth_set _ _ _ _ (by rw [HGL3.out]; exact hj)]
                      by_cases e : j = k
                      · subst e; rw [if_pos rfl, if_pos (by omega), HGK.out]
                      · rw [if_neg e, HGN3.out j hj]
                        by_cases e2 : j < k
                        · rw [if_pos e2, if_pos (by omega)]
                        · rw [if_neg e2, if_neg (by omega)]
                    · exact ((HRB3.out.set k true).other (by show w6.heap.size ≠ g14; omega) _).alloc _
                    · rw [nth_set _ _ _ _ (by rw [HNL3.out]; omega)]
                      by_cases e : j = k
                      · subst e; rw [if_pos rfl]
                      · rw [if_neg e]; exact HNN3.out j (by omega)
                    · exact ((HRI3.out.other (by show g14 ≠ w6.heap.size; omega) _).set k _).alloc _
                    · exact ((HBL3.out.setCell (by show w6.heap.size ≤ w6.heap.size; exact Nat.le_refl _) _).setCell (by show w6.heap.size ≤ g14; omega) _).alloc (by simp; exact HBL3.out.size) _
                  case measure => simp [intOf] <;> omega
                · have hccb : ((nth (targL c) k).c == (k : Int) + 1) = false := beq_eq_false_iff_ne.2 hcc
                  clear hcc
                  cases hdk : decide ((k : Int) ∈ dl) with
                  | true =>
                    have HDK := hid hdk
                    rw [hdk] at ck
                    have hG : G k = true := by rw [HGD.out k]; rw [hdk]; simp
                    have HGK := hid hG
                    have HK1 := hid (show keepN G (k + 1) = keepN G k + 0 by simp [keepN, hG])
                    clear hG
                    clear hdk
                    go_wp2_with fail
                    go_roundw
                    case rel =>
                      refine ⟨k + 1, a15, c15, gl, nl.set k (keepN G k : Nat), by omega, by go_num, by rw [HK1.out]; rfl, ?_, HGL3.out, fun j hj => ?_, ?_, by simp [HNL3.out], fun j hj => ?_, ?_, ?_⟩
                      · rw [filt_take id G (targL c) k (by rw [targL_len]; exact hlt), HGK.out]
                        rw [HK1.out, if_pos rfl, List.append_nil]
                        exact (HOUT3.out.other _ _ hoN).alloc _
                      · rw [HGN3.out j hj]
                        by_cases e : j = k
                        · subst e; rw [if_neg (by omega), if_pos (by omega), HGK.out, HDK.out]
                        · by_cases e2 : j < k
                          · rw [if_pos e2, if_pos (by omega)]
                          · rw [if_neg e2, if_neg (by omega)]
                      · exact (HRB3.out.other (by show w6.heap.size ≠ g14; omega) _).alloc _
                      · rw [nth_set _ _ _ _ (by rw [HNL3.out]; omega)]
                        by_cases e : j = k
                        · subst e; rw [if_pos rfl]
                        · rw [if_neg e]; exact HNN3.out j (by omega)
                      · exact (HRI3.out.set k _).alloc _
                      · exact (HBL3.out.setCell (by show w6.heap.size ≤ g14; omega) _).alloc (by simp; exact HBL3.out.size) _
                    case measure => simp [intOf] <;> omega
                  | false =>
                    have HDK := hid hdk
                    rw [hdk] at ck
                    have hG : G k = false := by rw [HGD.out k]; rw [hdk, hr, h16b, hccb]; rfl
                    have HGK := hid hG
                    have HK1 := hid (show keepN G (k + 1) = keepN G k + 1 by simp [keepN, hG])
                    clear hG
                    clear hdk
                    go_wp2_with (
                      at_builtin
                      go_loud (refine wpList_append_one insE (o := ⟨some 126, _, _, _, _, _⟩) rfl (.tmp 123) (.tmp 125) 31 rfl B 0 39 _ 40 Tryz.underlying31 clnIns_info rfl (filt id G ((targL c).take k) 0) (nth (targL c) k) (((HOUT3.out.other _ _ hoN).alloc _).alloc _) ((OwnE.lit insE _ 0 39 [nth (targL c) k] #[.int .i64 (nth (targL c) k).op, .int .i64 (nth (targL c) k).a, .int .i64 (nth (targL c) k).b, .int .i64 (nth (targL c) k).c, .int .i64 (nth (targL c) k).pos] (wo3.heap.size + 1) 1 (by simp) (Nat.zero_le _) rfl rfl (by simp)).sl (Nat.zero_le _) (by simp)) (by rw [HLN.out]; omega) (by rw [HLN.out]; simp only [maxLen]; omega) (by simp; omega) ?_)
                      intro g15 c16 w15 ho15 _ _ hb15
                      have HO15 := hid ho15
                      have HB15 := hid hb15
                      clear ho15 hb15)
                    go_roundw
                    case rel =>
                      refine ⟨k + 1, some ⟨g15, 0, none⟩, c16, gl, nl.set k (keepN G k : Nat), by omega, by go_num, by rw [HK1.out, HLN.out], ?_, HGL3.out, fun j hj => ?_, ?_, by simp [HNL3.out], fun j hj => ?_, ?_, ?_⟩
                      · rw [filt_take id G (targL c) k (by rw [targL_len]; exact hlt), HGK.out]
                        have := HO15.out
                        rw [HLN.out] at this
                        rw [HK1.out]
                        exact this
                      · rw [HGN3.out j hj]
                        by_cases e : j = k
                        · subst e; rw [if_neg (by omega), if_pos (by omega), HGK.out, HDK.out]
                        · by_cases e2 : j < k
                          · rw [if_pos e2, if_pos (by omega)]
                          · rw [if_neg e2, if_neg (by omega)]
                      · refine World.rowIs.of_block (((HRB3.out.other (by show w6.heap.size ≠ g14; omega) _).alloc _).alloc _) (HB15.out.block _ (by omega))
                      · rw [nth_set _ _ _ _ (by rw [HNL3.out]; omega)]
                        by_cases e : j = k
                        · subst e; rw [if_pos rfl]
                        · rw [if_neg e]; exact HNN3.out j (by omega)
                      · exact World.rowIs.of_block (((HRI3.out.set k _).alloc _).alloc _) (HB15.out.block _ (by omega))
                      · exact (((HBL3.out.setCell (by show w6.heap.size ≤ g14; omega) _).alloc (by simp; exact HBL3.out.size) _).alloc (by simp; have := HBL3.out.size; omega) _).trans (HB15.out.mono (by omega))
                    case measure => simp [intOf] <;> omega
              · have h16b : ((nth (targL c) k).op == 16) = false := beq_eq_false_iff_ne.2 h16
                clear h16
                by_cases h17 : (nth (targL c) k).op = 17
                · have h17b : ((nth (targL c) k).op == 17) = true := by rw [h17]; rfl
                  clear h17
                  by_cases hcc : (nth (targL c) k).c = (k : Int) + 1
                  · have hccb : ((nth (targL c) k).c == (k : Int) + 1) = true := by rw [hcc]; simp
                    clear hcc
                    have hG : G k = true := by rw [HGD.out k]; rw [h17b, hccb]; simp
                    have HGK := hid hG
                    have HK1 := hid (show keepN G (k + 1) = keepN G k + 0 by simp [keepN, hG])
                    clear hG
                    clear hr
                    go_wp2_with fail
                    go_roundw
                    case rel =>
                      refine ⟨k + 1, a15, c15, gl.set k true, nl.set k (keepN G k : Nat), by omega, by go_num, by rw [HK1.out]; rfl, ?_, by simp [HGL3.out], fun j hj => ?_, ?_, by simp [HNL3.out], fun j hj => ?_, ?_, ?_⟩
                      · rw [filt_take id G (targL c) k (by rw [targL_len]; exact hlt), HGK.out]
                        rw [HK1.out, if_pos rfl, List.append_nil]
                        exact ((HOUT3.out.other _ _ hoG).other _ _ hoN).alloc _
                      · rw [nth_set _ _ _ _ (by rw [HGL3.out]; exact hj)]
                        by_cases e : j = k
                        · subst e; rw [if_pos rfl, if_pos (by omega), HGK.out]
                        · rw [if_neg e, HGN3.out j hj]
                          by_cases e2 : j < k
                          · rw [if_pos e2, if_pos (by omega)]
                          · rw [if_neg e2, if_neg (by omega)]
                      · exact ((HRB3.out.set k true).other (by show w6.heap.size ≠ g14; omega) _).alloc _
                      · rw [nth_set _ _ _ _ (by rw [HNL3.out]; omega)]
                        by_cases e : j = k
                        · subst e; rw [if_pos rfl]
                        · rw [if_neg e]; exact HNN3.out j (by omega)
                      · exact ((HRI3.out.other (by show g14 ≠ w6.heap.size; omega) _).set k _).alloc _
                      · exact ((HBL3.out.setCell (by show w6.heap.size ≤ w6.heap.size; exact Nat.le_refl _) _).setCell (by show w6.heap.size ≤ g14; omega) _).alloc (by simp; exact HBL3.out.size) _
                    case measure => simp [intOf] <;> omega
                  · have hccb : ((nth (targL c) k).c == (k : Int) + 1) = false := beq_eq_false_iff_ne.2 hcc
                    clear hcc
                    cases hdk : decide ((k : Int) ∈ dl) with
                    | true =>
                      have HDK := hid hdk
                      rw [hdk] at ck
                      have hG : G k = true := by rw [HGD.out k]; rw [hdk]; simp
                      have HGK := hid hG
                      have HK1 := hid (show keepN G (k + 1) = keepN G k + 0 by simp [keepN, hG])
                      clear hG
                      clear hdk
                      go_wp2_with fail
                      go_roundw
                      case rel =>
                        refine ⟨k + 1, a15, c15, gl, nl.set k (keepN G k : Nat), by omega, by go_num, by rw [HK1.out]; rfl, ?_, HGL3.out, fun j hj => ?_, ?_, by simp [HNL3.out], fun j hj => ?_, ?_, ?_⟩
                        · rw [filt_take id G (targL c) k (by rw [targL_len]; exact hlt), HGK.out]
                          rw [HK1.out, if_pos rfl, List.append_nil]
                          exact (HOUT3.out.other _ _ hoN).alloc _
                        · rw [HGN3.out j hj]
                          by_cases e : j = k
                          · subst e; rw [if_neg (by omega), if_pos (by omega), HGK.out, HDK.out]
                          · by_cases e2 : j < k
                            · rw [if_pos e2, if_pos (by omega)]
                            · rw [if_neg e2, if_neg (by omega)]
                        · exact (HRB3.out.other (by show w6.heap.size ≠ g14; omega) _).alloc _
                        · rw [nth_set _ _ _ _ (by rw [HNL3.out]; omega)]
                          by_cases e : j = k
                          · subst e; rw [if_pos rfl]
                          · rw [if_neg e]; exact HNN3.out j (by omega)
                        · exact (HRI3.out.set k _).alloc _
                        · exact (HBL3.out.setCell (by show w6.heap.size ≤ g14; omega) _).alloc (by simp; exact HBL3.out.size) _
                      case measure => simp [intOf] <;> omega
                    | false =>
                      have HDK := hid hdk
                      rw [hdk] at ck
                      have hG : G k = false := by rw [HGD.out k]; rw [hdk, hr, h16b, h17b, hccb]; rfl
                      have HGK := hid hG
                      have HK1 := hid (show keepN G (k + 1) = keepN G k + 1 by simp [keepN, hG])
                      clear hG
                      clear hdk
                      go_wp2_with (
                        at_builtin
                        go_loud (refine wpList_append_one insE (o := ⟨some 126, _, _, _, _, _⟩) rfl (.tmp 123) (.tmp 125) 31 rfl B 0 39 _ 40 Tryz.underlying31 clnIns_info rfl (filt id G ((targL c).take k) 0) (nth (targL c) k) (((HOUT3.out.other _ _ hoN).alloc _).alloc _) ((OwnE.lit insE _ 0 39 [nth (targL c) k] #[.int .i64 (nth (targL c) k).op, .int .i64 (nth (targL c) k).a, .int .i64 (nth (targL c) k).b, .int .i64 (nth (targL c) k).c, .int .i64 (nth (targL c) k).pos] (wo3.heap.size + 1) 1 (by simp) (Nat.zero_le _) rfl rfl (by simp)).sl (Nat.zero_le _) (by simp)) (by rw [HLN.out]; omega) (by rw [HLN.out]; simp only [maxLen]; omega) (by simp; omega) ?_)
                        intro g15 c16 w15 ho15 _ _ hb15
                        have HO15 := hid ho15
                        have HB15 := hid hb15
                        clear ho15 hb15)
                      go_roundw
                      case rel =>
                        refine ⟨k + 1, some ⟨g15, 0, none⟩, c16, gl, nl.set k (keepN G k : Nat), by omega, by go_num, by rw [HK1.out, HLN.out], ?_, HGL3.out, fun j hj => ?_, ?_, by simp [HNL3.out], fun j hj => ?_, ?_, ?_⟩
                        · rw [filt_take id G (targL c) k (by rw [targL_len]; exact hlt), HGK.out]
                          have := HO15.out
                          rw [HLN.out] at this
                          rw [HK1.out]
                          exact this
                        · rw [HGN3.out j hj]
                          by_cases e : j = k
                          · subst e; rw [if_neg (by omega), if_pos (by omega), HGK.out, HDK.out]
                          · by_cases e2 : j < k
                            · rw [if_pos e2, if_pos (by omega)]
                            · rw [if_neg e2, if_neg (by omega)]
                        · refine World.rowIs.of_block (((HRB3.out.other (by show w6.heap.size ≠ g14; omega) _).alloc _).alloc _) (HB15.out.block _ (by omega))
                        · rw [nth_set _ _ _ _ (by rw [HNL3.out]; omega)]
                          by_cases e : j = k
                          · subst e; rw [if_pos rfl]
                          · rw [if_neg e]; exact HNN3.out j (by omega)
                        · exact World.rowIs.of_block (((HRI3.out.set k _).alloc _).alloc _) (HB15.out.block _ (by omega))
                        · exact (((HBL3.out.setCell (by show w6.heap.size ≤ g14; omega) _).alloc (by simp; exact HBL3.out.size) _).alloc (by simp; have := HBL3.out.size; omega) _).trans (HB15.out.mono (by omega))
                      case measure => simp [intOf] <;> omega
                · have h17b : ((nth (targL c) k).op == 17) = false := beq_eq_false_iff_ne.2 h17
                  clear h17
                  cases hdk : decide ((k : Int) ∈ dl) with
                  | true =>
                    have HDK := hid hdk
                    rw [hdk] at ck
                    have hG : G k = true := by rw [HGD.out k]; rw [hdk]; simp
                    have HGK := hid hG
                    have HK1 := hid (show keepN G (k + 1) = keepN G k + 0 by simp [keepN, hG])
                    clear hG
                    clear hdk
                    go_wp2_with fail
                    go_roundw
                    case rel =>
                      refine ⟨k + 1, a15, c15, gl, nl.set k (keepN G k : Nat), by omega, by go_num, by rw [HK1.out]; rfl, ?_, HGL3.out, fun j hj => ?_, ?_, by simp [HNL3.out], fun j hj => ?_, ?_, ?_⟩
                      · rw [filt_take id G (targL c) k (by rw [targL_len]; exact hlt), HGK.out]
                        rw [HK1.out, if_pos rfl, List.append_nil]
                        exact (HOUT3.out.other _ _ hoN).alloc _
                      · rw [HGN3.out j hj]
                        by_cases e : j = k
                        · subst e; rw [if_neg (by omega), if_pos (by omega), HGK.out, HDK.out]
                        · by_cases e2 : j < k
                          · rw [if_pos e2, if_pos (by omega)]
                          · rw [if_neg e2, if_neg (by omega)]
                      · exact (HRB3.out.other (by show w6.heap.size ≠ g14; omega) _).alloc _
                      · rw [nth_set _ _ _ _ (by rw [HNL3.out]; omega)]
                        by_cases e : j = k
                        · subst e; rw [if_pos rfl]
                        · rw [if_neg e]; exact HNN3.out j (by omega)
                      · exact (HRI3.out.set k _).alloc _
                      · exact (HBL3.out.setCell (by show w6.heap.size ≤ g14; omega) _).alloc (by simp; exact HBL3.out.size) _
                    case measure => simp [intOf] <;> omega
                  | false =>
                    have HDK := hid hdk
                    rw [hdk] at ck
                    have hG : G k = false := by rw [HGD.out k]; rw [hdk, hr, h16b, h17b]; rfl
                    have HGK := hid hG
                    have HK1 := hid (show keepN G (k + 1) = keepN G k + 1 by simp [keepN, hG])
                    clear hG
                    clear hdk
                    go_wp2_with (
                      at_builtin
                      go_loud (refine wpList_append_one insE (o := ⟨some 126, _, _, _, _, _⟩) rfl (.tmp 123) (.tmp 125) 31 rfl B 0 39 _ 40 Tryz.underlying31 clnIns_info rfl (filt id G ((targL c).take k) 0) (nth (targL c) k) (((HOUT3.out.other _ _ hoN).alloc _).alloc _) ((OwnE.lit insE _ 0 39 [nth (targL c) k] #[.int .i64 (nth (targL c) k).op, .int .i64 (nth (targL c) k).a, .int .i64 (nth (targL c) k).b, .int .i64 (nth (targL c) k).c, .int .i64 (nth (targL c) k).pos] (wo3.heap.size + 1) 1 (by simp) (Nat.zero_le _) rfl rfl (by simp)).sl (Nat.zero_le _) (by simp)) (by rw [HLN.out]; omega) (by rw [HLN.out]; simp only [maxLen]; omega) (by simp; omega) ?_)
                      intro g15 c16 w15 ho15 _ _ hb15
                      have HO15 := hid ho15
                      have HB15 := hid hb15
                      clear ho15 hb15)
                    go_roundw
                    case rel =>
                      refine ⟨k + 1, some ⟨g15, 0, none⟩, c16, gl, nl.set k (keepN G k : Nat), by omega, by go_num, by rw [HK1.out, HLN.out], ?_, HGL3.out, fun j hj => ?_, ?_, by simp [HNL3.out], fun j hj => ?_, ?_, ?_⟩
                      · rw [filt_take id G (targL c) k (by rw [targL_len]; exact hlt), HGK.out]
                        have := HO15.out
                        rw [HLN.out] at this
                        rw [HK1.out]
                        exact this
                      · rw [HGN3.out j hj]
                        by_cases e : j = k
                        · subst e; rw [if_neg (by omega), if_pos (by omega), HGK.out, HDK.out]
                        · by_cases e2 : j < k
                          · rw [if_pos e2, if_pos (by omega)]
                          · rw [if_neg e2, if_neg (by omega)]
                      · refine World.rowIs.of_block (((HRB3.out.other (by show w6.heap.size ≠ g14; omega) _).alloc _).alloc _) (HB15.out.block _ (by omega))
                      · rw [nth_set _ _ _ _ (by rw [HNL3.out]; omega)]
                        by_cases e : j = k
                        · subst e; rw [if_pos rfl]
                        · rw [if_neg e]; exact HNN3.out j (by omega)
                      · exact World.rowIs.of_block (((HRI3.out.set k _).alloc _).alloc _) (HB15.out.block _ (by omega))
                      · exact (((HBL3.out.setCell (by show w6.heap.size ≤ g14; omega) _).alloc (by simp; exact HBL3.out.size) _).alloc (by simp; have := HBL3.out.size; omega) _).trans (HB15.out.mono (by omega))
                    case measure => simp [intOf] <;> omega

end Go.Proofs.YteiohnfmlabelaaGreat
