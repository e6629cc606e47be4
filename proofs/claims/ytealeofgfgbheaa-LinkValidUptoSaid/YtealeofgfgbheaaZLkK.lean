/-
  The linker's numbering (the closure of relocate), walked.
-/
import Derived.Test.YtealeofgfgbheaaZLkJ
namespace Go.Proofs.Ytealeofgfgbheaa
set_option linter.unusedVariables false
set_option linter.unusedSimpArgs false
open Go.RowKit

/-- The number of an operand behind the linking. -/
def numR (NF NG : List ByteArray) (Y : List (List Int)) (P : Prg) (op n : Int) : Int :=
  if op = 18 then (fnd NG (nth P.globals n.toNat).name).getD 0 else if op = 21 then (fnd Y (nth P.layouts n.toNat)).getD 0 else (fnd NF (nth P.funcs n.toNat).name).getD 0
/-- An operand is in its range. -/
def RngI (P : Prg) (op n : Int) : Prop := 0 ≤ n ∧ (op = 18 → n < P.globals.length) ∧ (op = 21 → n < P.layouts.length) ∧ (op ≠ 18 → op ≠ 21 → n < P.funcs.length)

noncomputable def planNr3 : Plan := mkPlan (regionOf Try.f54 3) [] []
noncomputable def planNr5 : Plan := mkPlan (regionOf Try.f54 5) [(6, .new)] []
noncomputable def planNr6 : Plan := mkPlan (regionOf Try.f54 6) [] []

set_option maxRecDepth 100000 in
set_option maxHeartbeats 8000000 in
theorem number_calls (lo : Nat) (w0 w : World) (bK bF bG cF cG bk bp : Nat) (ya : Option Addr) (yc : Nat) (vq vg uf ug ul : Value) (D : List Fun) (ss : List Slc) (G : List Glob) (Y : List (List Int)) (rs : List Slc) (m : Int) (P : Prg) (op n : Int)
    (h : LkSt lo w0 w bK bF bG cF cG vq vg (.slice ya Y.length yc) D ss G Y rs m) (hP : ProgAt lo w0 uf ug ul P) (hW : PrgWf P) (hk : BoxAt w bk 51 [.pointer (some ⟨bK, 0, none⟩)]) (hp : BoxAt w bp 26 [uf, ug, ul, .int .i64 P.main])
    (hr : RngI P op n) (hY : Y.length ≤ 10000) (hYr : ∀ c ∈ Y, c.length ≤ 1000000) (hPY : ∀ c ∈ P.layouts, c ∈ Y) :
    Calls Try.prog 54 #[.int .i64 op, .int .i64 n, .pointer (some ⟨bk, 0, none⟩), .pointer (some ⟨bp, 0, none⟩)] w fun e w' => e = .returned (.int .i64 (numR (D.map fun f => f.name) (G.map fun g => g.name) Y P op n)) ∧ Below w.heap.size w w' := by
  have H := hid h
  have HK := hid hk
  have HP := hid hp
  obtain ⟨h0, hg, hl, hf⟩ := hr
  obtain ⟨i, rfl⟩ : ∃ i : Nat, n = i := ⟨n.toNat, by omega⟩
  obtain ⟨fa, fc, fb, fo, FS, rfl, fp, f0, f1, f2, f3, fcode, fbl, -, -, -⟩ := hP.funcs.open
  obtain ⟨pa, pc, pb, po, rfl, pp, p0, p1, pbl, -, -, -⟩ := hP.globs.open
  obtain ⟨la, lc, lb, lo', LS, rfl, lp, l0, li, lbl, -, -, -⟩ := hP.lays.open
  have hi3 : ¬ ((i : Int) < 0) := by omega
  have hlow := h.q.low
  clear h hk hp
  have kA := HK.out.cell 0 _ rfl
  have kz := HK.out.lt
  have pA := HP.out.cell 0 _ rfl
  have pB := HP.out.cell 1 _ rfl
  have pC := HP.out.cell 2 _ rfl
  have pz := HP.out.lt
  have bF' := H.out.box.cell 4 _ rfl
  have bG' := H.out.box.cell 5 _ rfl
  have bz := H.out.box.lt
  by_cases h18 : op = 18
  · have hi := hg h18
    have hiN : i < P.globals.length := by omega
    obtain rfl := pp (by omega)
    have gl := Nat.lt_of_lt_of_le (pbl (by omega)) hlow.size
    have y0 := (hlow.cell (p := ⟨pb, _, none⟩) (pbl (by omega))).trans (p0 i hiN)
    have HGD := hid (show strK.good (nth P.globals i).name from (hW.glob _ (nth_mem P.globals i hiN)).1)
    have e1 : (op == 18) = true := by simp [h18]
    have HN := hid (show numR (D.map fun f => f.name) (G.map fun g => g.name) Y P op i = (fnd (G.map fun g => g.name) (nth P.globals i).name).getD 0 by unfold numR; rw [if_pos h18, Int.toNat_natCast])
    clear h18 hg hl hf fp f0 f1 f2 f3 fcode fbl pp p0 p1 pbl lp l0 li lbl hlow hP hW hYr hPY
    go_enter Try.func54, Try.ntmps54
    go_wp2_with fail
    refine Plan.wp_chain planNr3 w.heap.size (by kernel_rfl) rfl (by kernel_rfl) (by kernel_rfl) ?_
    repeat (first | (apply Plan.chain_skip rfl rfl; simp only [Act.put, List.setIfInBounds_toArray, List.set_cons_zero, List.set_cons_succ]) | (apply Plan.chain_det rfl rfl; (· intro w' hb; obtain ⟨hcl, hfz⟩ := bcellB hb; go_simp; rfl); simp only [Act.put, List.setIfInBounds_toArray, List.set_cons_zero, List.set_cons_succ]))
    refine Plan.chain_det (v := .int .i64 ((fnd (G.map fun g => g.name) (nth P.globals i).name).getD 0)) rfl rfl (fun w' hb => ?_) ?_
    · have hlk := (H.out.mG.below hb).look 52 Try.underlying52 (nth P.globals i).name HGD.out
      have hlk' : (Instr.lookup 52 (.map (some bG)) (.string (nth P.globals i).name) false).run Try.prog w' = .ok (.int .i64 ((fnd (G.map fun g => g.name) (nth P.globals i).name).getD 0)) w' := hlk
      clear hlk
      go_simp
    simp only [Act.put, List.setIfInBounds_toArray, List.set_cons_zero, List.set_cons_succ]
    repeat (first | (apply Plan.chain_skip rfl rfl; simp only [Act.put, List.setIfInBounds_toArray, List.set_cons_zero, List.set_cons_succ]) | (apply Plan.chain_det rfl rfl; (· intro w' hb; obtain ⟨hcl, hfz⟩ := bcellB hb; go_simp; rfl); simp only [Act.put, List.setIfInBounds_toArray, List.set_cons_zero, List.set_cons_succ]))
    refine Plan.chain_nil ?_
    go_wp2_with fail
    go_ret
    exact ⟨by rw [HN.out]; rfl, (Below.refl _ _).drew⟩
  · by_cases h21 : op = 21
    · have hi := hl h21
      have hiN : i < P.layouts.length := by omega
      obtain rfl := lp (by omega)
      have gl := Nat.lt_of_lt_of_le (lbl (by omega)) hlow.size
      have y0 := (hlow.cell (p := ⟨lb, _, none⟩) (lbl (by omega))).trans (l0 i hiN)
      have HLI := hid ((li i hiN).below hlow)
      have e1 : (op == 18) = false := by simp [h18]
      have e2 : (op == 21) = true := by simp [h21]
      have hin := hPY _ (nth_mem P.layouts i hiN)
      have HAY := hid (show addY Y (nth P.layouts i) = Y by unfold addY; rw [if_pos hin])
      have HIN := hid hin
      have HYR := hid hYr
      have hcl := hYr _ hin
      have HN := hid (show numR (D.map fun f => f.name) (G.map fun g => g.name) Y P op i = (fnd Y (nth P.layouts i)).getD 0 by unfold numR; rw [if_neg h18, if_pos h21, Int.toNat_natCast])
      clear h18 h21 hg hl hf fp f0 f1 f2 f3 fcode fbl pp p0 p1 pbl lp l0 li lbl hlow hP hW hYr hPY hin
      go_enter Try.func54, Try.ntmps54
      go_wp2_with fail
      refine Plan.wp_chain planNr5 w.heap.size (by kernel_rfl) rfl (by kernel_rfl) (by kernel_rfl) ?_
      repeat (first | (apply Plan.chain_skip rfl rfl; simp only [Act.put, List.setIfInBounds_toArray, List.set_cons_zero, List.set_cons_succ]) | (apply Plan.chain_det rfl rfl; (· intro w' hb; obtain ⟨hcl, hfz⟩ := bcellB hb; go_simp; rfl); simp only [Act.put, List.setIfInBounds_toArray, List.set_cons_zero, List.set_cons_succ]))
      refine Plan.chain_call 33 #[.pointer (some ⟨bK, 0, none⟩), .slice (LS i).a (nth P.layouts i).length (LS i).c] (fun v w' => v = .int .i64 ((fnd Y (nth P.layouts i)).getD 0) ∧ Below w.heap.size w w') rfl rfl rfl (by go_simp) ?_ (fun v w' h => ?_) (fun v3 w3 h => ?_)
      · refine (layout_calls lo lo w0 w.drew bK bF bG cF cG ya yc _ _ _ D ss G Y rs m (nth P.layouts i) (H.out.fresh (Below.refl _ _).drew) (HLI.out.below (Below.refl _ _).drew) hY HYR.out hcl).mono ?_
        rintro e w' ⟨v, rfl, hv, hb, -⟩
        rw [HAY.out] at hv
        exact ⟨_, rfl, by rw [hv]; rfl, (Below.refl _ _).drew.trans (hb HIN.out)⟩
      · exact h.2
      obtain ⟨rfl, hb3⟩ := h
      simp only [Act.put, List.setIfInBounds_toArray, List.set_cons_zero, List.set_cons_succ]
      repeat (first | (apply Plan.chain_skip rfl rfl; simp only [Act.put, List.setIfInBounds_toArray, List.set_cons_zero, List.set_cons_succ]) | (apply Plan.chain_det rfl rfl; (· intro w' hb; obtain ⟨hcl, hfz⟩ := bcellB hb; go_simp; rfl); simp only [Act.put, List.setIfInBounds_toArray, List.set_cons_zero, List.set_cons_succ]))
      refine Plan.chain_nil ?_
      go_wp2_with fail
      go_ret
      exact ⟨by rw [HN.out]; rfl, hb3⟩
    · have hi := hf h18 h21
      have hiN : i < P.funcs.length := by omega
      obtain rfl := fp (by omega)
      have gl := Nat.lt_of_lt_of_le (fbl (by omega)) hlow.size
      have y0 := (hlow.cell (p := ⟨fb, _, none⟩) (fbl (by omega))).trans (f0 i hiN)
      have HGD := hid (show strK.good (nth P.funcs i).name from (hW.func _ (nth_mem P.funcs i hiN)).name)
      have e1 : (op == 18) = false := by simp [h18]
      have e2 : (op == 21) = false := by simp [h21]
      have HN := hid (show numR (D.map fun f => f.name) (G.map fun g => g.name) Y P op i = (fnd (D.map fun f => f.name) (nth P.funcs i).name).getD 0 by unfold numR; rw [if_neg h18, if_neg h21, Int.toNat_natCast])
      clear h18 h21 hg hl hf fp f0 f1 f2 f3 fcode fbl pp p0 p1 pbl lp l0 li lbl hlow hP hW hYr hPY
      go_enter Try.func54, Try.ntmps54
      go_wp2_with fail
      refine Plan.wp_chain planNr6 w.heap.size (by kernel_rfl) rfl (by kernel_rfl) (by kernel_rfl) ?_
      repeat (first | (apply Plan.chain_skip rfl rfl; simp only [Act.put, List.setIfInBounds_toArray, List.set_cons_zero, List.set_cons_succ]) | (apply Plan.chain_det rfl rfl; (· intro w' hb; obtain ⟨hcl, hfz⟩ := bcellB hb; go_simp; rfl); simp only [Act.put, List.setIfInBounds_toArray, List.set_cons_zero, List.set_cons_succ]))
      refine Plan.chain_det (v := .int .i64 ((fnd (D.map fun f => f.name) (nth P.funcs i).name).getD 0)) rfl rfl (fun w' hb => ?_) ?_
      · have hlk := (H.out.mF.below hb).look 52 Try.underlying52 (nth P.funcs i).name HGD.out
        have hlk' : (Instr.lookup 52 (.map (some bF)) (.string (nth P.funcs i).name) false).run Try.prog w' = .ok (.int .i64 ((fnd (D.map fun f => f.name) (nth P.funcs i).name).getD 0)) w' := hlk
        clear hlk
        go_simp
      simp only [Act.put, List.setIfInBounds_toArray, List.set_cons_zero, List.set_cons_succ]
      repeat (first | (apply Plan.chain_skip rfl rfl; simp only [Act.put, List.setIfInBounds_toArray, List.set_cons_zero, List.set_cons_succ]) | (apply Plan.chain_det rfl rfl; (· intro w' hb; obtain ⟨hcl, hfz⟩ := bcellB hb; go_simp; rfl); simp only [Act.put, List.setIfInBounds_toArray, List.set_cons_zero, List.set_cons_succ]))
      refine Plan.chain_nil ?_
      go_wp2_with fail
      go_ret
      exact ⟨by rw [HN.out]; rfl, (Below.refl _ _).drew⟩

end Go.Proofs.Ytealeofgfgbheaa
