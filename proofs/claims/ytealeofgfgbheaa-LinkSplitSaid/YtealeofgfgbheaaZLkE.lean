/-
  The linker's define, walked.
-/
import Derived.Test.YtealeofgfgbheaaZLkF
namespace Go.Proofs.Ytealeofgfgbheaa
set_option linter.unusedVariables false
set_option linter.unusedSimpArgs false
open Go.RowKit

noncomputable def planDf5 : Plan := mkPlan (regionOf Try.f30 5) [] []
noncomputable def planDf8 : Plan := mkPlan (regionOf Try.f30 8) [(12, .fin)] []
noncomputable def planDf11 : Plan := mkPlan (regionOf Try.f30 11) [(7, .new), (8, .new), (12, .fin)] []

theorem mainK_stay {D : List Fun} {m : Int} {P : Prg} {j : Nat} (h : (j : Int) ≠ P.main) : mainK D m P (j + 1) = mainK D m P j := by
  unfold mainK
  by_cases h1 : 0 ≤ P.main ∧ P.main < j
  · rw [if_pos h1, if_pos ⟨h1.1, by omega⟩]
  · rw [if_neg h1, if_neg (by omega)]
theorem mainK_at {D : List Fun} {m : Int} {P : Prg} {j : Nat} (h : (j : Int) = P.main) : mainK D m P (j + 1) = ((D ++ defsK P j).length : Nat) := by
  unfold mainK
  rw [if_pos (by omega), ← h, Int.toNat_natCast, List.length_append]
theorem mainK_before {D : List Fun} {m : Int} {P : Prg} {j : Nat} (h : (j : Int) = P.main) : mainK D m P j = m := by
  unfold mainK
  rw [if_neg (by omega)]

set_option maxRecDepth 100000 in
set_option maxHeartbeats 8000000 in
theorem define_calls (lo : Nat) (w0 w : World) (bK bF bG cF cG : Nat) (va : Option Addr) (vc : Nat) (vg vl uf ug ul : Value) (D : List Fun) (ss : List Slc) (G : List Glob) (Y : List (List Int)) (rs : List Slc) (m : Int) (P : Prg)
    (h : LkSt lo w0 w bK bF bG cF cG (.slice va D.length vc) vg vl D ss G Y rs m) (hP : ProgAt lo w0 uf ug ul P) (hW : PrgWf P) (hD : D.length + P.funcs.length ≤ 10000)
    (hnm : ∀ j, j < P.funcs.length → isDef (nth P.funcs j) = true → (nth P.funcs j).name ∉ (D ++ defsK P j).map fun f => f.name) (hmn : 0 ≤ P.main → m < 0) (hmd : ∀ j : Nat, (j : Int) = P.main → j < P.funcs.length → isDef (nth P.funcs j) = true) :
    Calls Try.prog 30 #[.pointer (some ⟨bK, 0, none⟩), .agg #[uf, ug, ul, .int .i64 P.main]] w fun e w' => e = .returned (.bool true) ∧ ∃ cF' va' vc' ss', LkSt lo w0 w' bK bF bG cF' cG (.slice va' (D ++ defsP P).length vc') vg vl (D ++ defsP P) ss' G Y rs (mainK D m P P.funcs.length) := by
  have H := hid h
  have HP := hid hP
  have HW := hid hW
  have HNM := hid hnm
  have HMN := hid hmn
  have HMD := hid hmd
  have hww := h.q.low.size
  obtain ⟨fa, fc, fb, fo, FS, rfl, fp, f0, f1, f2, f3, fcode, fbl, -, -, -⟩ := hP.funcs.open
  obtain ⟨ga, gc, _, _, rfl, -⟩ := hP.globs.open
  obtain ⟨la, lc, _, _, _, rfl, -⟩ := hP.lays.open
  have HFQ := hid (And.intro fp (And.intro f0 (And.intro f1 (And.intro f2 (And.intro f3 (And.intro fcode fbl))))))
  clear h hP hW hnm hmn hmd fp f0 f1 f2 f3 fcode fbl
  go_enter Try.func30, Try.ntmps30
  go_wp2_with fail
  generalize hW1 : World.alloc _ _ = W1
  have hb1 : Below w.heap.size w W1 := by rw [← hW1]; exact (Below.refl _ _).alloc (Nat.le_refl _) _
  have R1 := hid (show BoxAt W1 w.heap.size 26 [.slice fa P.funcs.length fc, .slice ga P.globals.length gc, .slice la P.layouts.length lc, .int .i64 P.main] by rw [← hW1]; exact BoxAt.new _ _ _ _ _ rfl rfl)
  have H1 := hid (H.out.fresh hb1)
  obtain ⟨b3, hb3⟩ : ∃ b, w.heap.size = b := ⟨_, rfl⟩
  rw [hb3] at R1 ⊢
  have hb3w : w0.heap.size ≤ b3 := by omega
  clear hW1 hb1 H hb3
  go_loopw [12] (fun iv wr => ∃ (j : Nat) (ss' : List Slc) (va' : Option Addr) (vc' cF' : Nat), j ≤ P.funcs.length ∧ iv = .int .i64 j ∧ LkSt lo w0 wr bK bF bG cF' cG (.slice va' (D ++ defsK P j).length vc') vg vl (D ++ defsK P j) ss' G Y rs (mainK D m P j) ∧ BoxAt wr b3 26 [.slice fa P.funcs.length fc, .slice ga P.globals.length gc, .slice la P.layouts.length lc, .int .i64 P.main]) (fun iv _ => P.funcs.length - (intOf iv).toNat)
  case atStart =>
    refine ⟨0, ss, va, vc, cF, Nat.zero_le _, rfl, ?_, R1.out⟩
    have e0 : defsK P 0 = [] := by simp [defsK]
    have e1 : mainK D m P 0 = m := by unfold mainK; rw [if_neg (by omega)]
    rw [e0, e1, List.append_nil]
    exact H1.out
  case round =>
  clear H1 R1
  obtain ⟨j, sj, vj, vcj, cj, hj, rfl, hst, hx⟩ := hrel
  obtain ⟨wo, hwo⟩ : ∃ wo, wo = wr := ⟨_, rfl⟩
  subst hwo
  obtain ⟨E, hE⟩ : ∃ E, D ++ defsK P j = E := ⟨_, rfl⟩
  rw [hE] at hst
  have HE := hid hE
  clear hE
  have HST := hid hst
  have HX := hid hx
  have c3 := hx.cell 3 _ rfl
  have cz := hx.lt
  clear hst hx
  by_cases hlt : j < P.funcs.length
  · have hlt2 : (j : Int) < P.funcs.length := Int.ofNat_lt.2 hlt
    have hki : ¬ ((j : Int) < 0) := by omega
    obtain ⟨fp, f0, f1, f2, f3, fcode, fbl⟩ := HFQ.out
    obtain rfl := fp (by omega)
    have hbw := HST.out.q.low
    have gl := fbl (by omega)
    have z0 := (hbw.cell (p := ⟨fb, _, none⟩) gl).trans (f0 j hlt)
    have z1 := (hbw.cell (p := ⟨fb, _, none⟩) gl).trans (f1 j hlt)
    have z2 := (hbw.cell (p := ⟨fb, _, none⟩) gl).trans (f2 j hlt)
    have z3 := (hbw.cell (p := ⟨fb, _, none⟩) gl).trans (f3 j hlt)
    have gl2 : fb < wo.heap.size := Nat.lt_of_lt_of_le gl hbw.size
    have hcd := fcode j hlt
    have hfw := HW.out.func _ (nth_mem P.funcs j hlt)
    obtain ⟨f, hf⟩ : ∃ f, nth P.funcs j = f := ⟨_, rfl⟩
    rw [hf] at z0 z1 z2 z3 hcd hfw
    have HF := hid hf
    have HCD := hid hcd
    have hgd : strK.good f.name := hfw.name
    have HGD := hid hgd
    have hal : Below wo.heap.size wo (wo.alloc (.cells #[.string f.name, .int .i64 f.params, .int .i64 f.regs, .slice (FS j).a f.code.length (FS j).c] 41)) := (Below.refl _ _).alloc (Nat.le_refl _) _
    have HAL := hid hal
    have HBX := hid (BoxAt.new wo #[.string f.name, .int .i64 f.params, .int .i64 f.regs, .slice (FS j).a f.code.length (FS j).c] 41 wo.heap.size _ rfl rfl)
    clear fp f0 f1 f2 f3 fcode fbl hbw gl hcd hfw hf hgd hal
    go_wp2_with fail
    refine (imported_calls lo _ f _ ((HCD.out.below HST.out.q.low).below HAL.out)).mono ?_
    rintro e w2 ⟨rfl, hb2⟩
    have hb2' := HAL.out.trans (hb2.mono HAL.out.size)
    have HS2 := hid (HST.out.fresh hb2')
    have HX2 := hid (HX.out.below hb2')
    have HBX2 := hid (HBX.out.below hb2)
    have HZ2 := hid hb2'.size
    have hsc : ∀ k, (Value.slice vj E.length vcj).ownBlock = some k → k < wo.heap.size := fun k hk => (HST.out.q.row.lt k hk).2
    have HSC := hid hsc
    clear hb2 hb2' c3 cz z0 z1 z2 z3 hsc
    have c3 := HX2.out.cell 3 _ rfl
    have cz := HX2.out.lt
    have k0 := HS2.out.box.cell 0 _ rfl
    have k3 := HS2.out.box.cell 3 _ rfl
    have k4 := HS2.out.box.cell 4 _ rfl
    have kz := HS2.out.box.lt
    have e0 := HBX2.out.cell 0 _ rfl
    have e1 := HBX2.out.cell 1 _ rfl
    have e2 := HBX2.out.cell 2 _ rfl
    have e3 := HBX2.out.cell 3 _ rfl
    have ez := HBX2.out.lt
    cases hde : f.code.isEmpty with
    | true =>
      have hnd : isDef f = false := by unfold isDef; rw [hde]; rfl
      have hjm : (j : Int) ≠ P.main := fun e => by have := HMD.out j e hlt; rw [HF.out, hnd] at this; cases this
      have HDK := hid (show D ++ defsK P (j + 1) = E by rw [defsK_succ P j hlt, HF.out, hnd, ← HE.out]; simp)
      have HMK := hid (mainK_stay (D := D) (m := m) hjm)
      clear hnd hjm hde
      go_wp2_with fail
      refine ⟨⟨j + 1, sj, vj, vcj, cj, hlt, rfl, by rw [HDK.out, HMK.out]; exact HS2.out, HX2.out⟩, ?_⟩
      simp only [intOf]
      omega
    | false =>
      have hnd : isDef f = true := by unfold isDef; rw [hde]; rfl
      have hnew := HNM.out j hlt (by rw [HF.out]; exact hnd)
      rw [HF.out, HE.out] at hnew
      have hlkv : fnd (E.map fun f => f.name) f.name = none := (fnd_none _ _).2 hnew
      have HDK := hid (show D ++ defsK P (j + 1) = E ++ [f] by rw [defsK_succ P j hlt, HF.out, hnd, ← HE.out]; simp)
      have HNEW := hid hnew
      have HLK := hid hlkv
      have hdl : E.length ≤ 10000 := by
        rw [← HE.out, List.length_append]
        have : (defsK P j).length ≤ P.funcs.length := by
          unfold defsK
          exact Nat.le_trans (List.length_filter_le _ _) (by rw [List.length_take]; omega)
        omega
      clear hnd hnew hlkv hde
      go_wp2_with fail
      refine Plan.wp_chain planDf5 w2.heap.size (by kernel_rfl) rfl (by kernel_rfl) (by kernel_rfl) ?_
      repeat (first | (apply Plan.chain_skip rfl rfl; simp only [Act.put, List.setIfInBounds_toArray, List.set_cons_zero, List.set_cons_succ]) | (apply Plan.chain_det rfl rfl; (· intro w' hb; obtain ⟨hcl, hfz⟩ := bcellB hb; go_simp; rfl); simp only [Act.put, List.setIfInBounds_toArray, List.set_cons_zero, List.set_cons_succ]))
      refine Plan.chain_det (v := .tuple #[.int .i64 0, .bool false]) rfl rfl (fun w' hb => ?_) ?_
      · have hlk := (HS2.out.mF.below hb).look_ok 52 Try.underlying52 f.name HGD.out
        rw [HLK.out] at hlk
        have hlk' : (Instr.lookup 52 (.map (some bF)) (.string f.name) true).run Try.prog w' = .ok (.tuple #[.int .i64 0, .bool false]) w' := hlk
        clear hlk
        go_simp
      simp only [Act.put, List.setIfInBounds_toArray, List.set_cons_zero, List.set_cons_succ]
      repeat (first | (apply Plan.chain_skip rfl rfl; simp only [Act.put, List.setIfInBounds_toArray, List.set_cons_zero, List.set_cons_succ]) | (apply Plan.chain_det rfl rfl; (· intro w' hb; obtain ⟨hcl, hfz⟩ := bcellB hb; go_simp; rfl); simp only [Act.put, List.setIfInBounds_toArray, List.set_cons_zero, List.set_cons_succ]))
      refine Plan.chain_nil ?_
      have hdw : Below w2.heap.size w2 w2.drew := (Below.refl _ _).drew
      have hs3 := HS2.out.fresh hdw
      have hx3 := HX2.out.below hdw
      have hbx3 := HBX2.out.below hdw
      have HZ3 := hid (Nat.le_trans HZ2.out hdw.size)
      generalize w2.drew = X3 at *
      have HS3 := hid hs3
      have HX3 := hid hx3
      have HBX3 := hid hbx3
      clear hdw hs3 hx3 hbx3 c3 cz k0 k3 k4 kz e0 e1 e2 e3 ez HS2 HX2 HBX2 HZ2
      have c3 := HX3.out.cell 3 _ rfl
      have cz := HX3.out.lt
      have k0 := HS3.out.box.cell 0 _ rfl
      have k3 := HS3.out.box.cell 3 _ rfl
      have k4 := HS3.out.box.cell 4 _ rfl
      have kz := HS3.out.box.lt
      have e0 := HBX3.out.cell 0 _ rfl
      have e1 := HBX3.out.cell 1 _ rfl
      have e2 := HBX3.out.cell 2 _ rfl
      have e3 := HBX3.out.cell 3 _ rfl
      have ez := HBX3.out.lt
      by_cases hjm : (j : Int) = P.main
      · have hj1 : ((j : Int) == P.main) = true := by simp [hjm]
        have hm0 : mainK D m P j < 0 := by rw [mainK_before hjm]; exact HMN.out (by omega)
        have hm1 : ¬ (0 ≤ mainK D m P j) := by omega
        have hm2 : decide (0 ≤ mainK D m P j) = false := decide_eq_false hm1
        have HJM := hid hjm
        clear hjm
        go_wp2_with fail
        refine Plan.wp_chain planDf8 X3.heap.size (by kernel_rfl) rfl (by kernel_rfl) (by kernel_rfl) ?_
        repeat (first | (apply Plan.chain_skip rfl rfl; simp only [Act.put, List.setIfInBounds_toArray, List.set_cons_zero, List.set_cons_succ]) | (apply Plan.chain_det rfl rfl; (· intro w' hb; obtain ⟨hcl, hfz⟩ := bcellB hb; go_simp; rfl); simp only [Act.put, List.setIfInBounds_toArray, List.set_cons_zero, List.set_cons_succ]))
        have hdr : Below X3.heap.size X3 X3.drew := (Below.refl _ _).drew
        have hcj := HS3.out.cF
        obtain ⟨wA, hrun, hmA, hgA⟩ := (HS3.out.mF.below hdr).upd 52 Try.underlying52 (by simp only [maxLen]; omega) f.name HGD.out (E.length : Nat) (by unfold I64; omega)
        have hrun' : (Instr.mapUpdate 52 (.map (some bF)) (.string f.name) (.int .i64 (E.length : Nat))).run Try.prog X3.drew = .ok () wA := hrun
        have hM := (HS3.out.fresh hdr).named HNEW.out hgA hmA
        have hxA := (HX3.out.below hdr).only (Only.grown hgA) ((HX3.out.below hdr).neMapN (HS3.out.mF.below hdr))
        have hbxA := (HBX3.out.below hdr).only (Only.grown hgA) ((HBX3.out.below hdr).neMapN (HS3.out.mF.below hdr))
        have hzA : wo.heap.size ≤ wA.heap.size := Nat.le_trans HZ3.out (Nat.le_trans hdr.size hgA.size)
        refine Plan.chain_fin rfl rfl ?_
        unfold Oper.wp
        go_simp
        have HMX := hid hM
        have HXA := hid hxA
        have HBXA := hid hbxA
        have HZA := hid hzA
        clear hrun hrun' hmA hgA hdr hM hxA hbxA hzA c3 cz k0 k3 k4 kz e0 e1 e2 e3 ez
        have c3 := HXA.out.cell 3 _ rfl
        have cz := HXA.out.lt
        have k0 := HMX.out.box.cell 0 _ rfl
        have k3 := HMX.out.box.cell 3 _ rfl
        have k3f := HMX.out.box.frozen 3
        have kz := HMX.out.box.lt
        have hX4m := HMX.out.setMain (E.length : Nat)
        have hX4b := HBXA.out.only (Only.store wA bK 3 (.int .i64 (E.length : Nat))) (HBXA.out.neBox HMX.out.box (by decide))
        have hX4x := HXA.out.only (Only.store wA bK 3 (.int .i64 (E.length : Nat))) (HXA.out.neBox HMX.out.box (by decide))
        obtain ⟨X4, hX4⟩ : ∃ X4, wA.setCell ⟨bK, 3, none⟩ (.int .i64 (E.length : Nat)) = X4 := ⟨_, rfl⟩
        rw [hX4] at hX4m hX4b hX4x
        have HMY := hid hX4m
        have HBY := hid hX4b
        have HXY := hid hX4x
        clear hX4m hX4b hX4x
        go_wp2_with fail
        clear hX4 c3 cz k0 k3 k3f kz
        have HG := hid (show ∀ w', (BoxAt w' bK tLk [.slice vj E.length vcj, vg, vl, .int .i64 (E.length : Nat), .map (some bF), .map (some bG)] ∧ BoxAt w' wo.heap.size 41 [.string f.name, .int .i64 f.params, .int .i64 f.regs, .slice (FS j).a f.code.length (FS j).c]) → w'.cell? ⟨bK, 0, none⟩ = some (.slice vj E.length vcj) ∧ (w'.cell? ⟨wo.heap.size, 0, none⟩ = some (.string f.name) ∧ w'.cell? ⟨wo.heap.size, 1, none⟩ = some (.int .i64 f.params) ∧ w'.cell? ⟨wo.heap.size, 2, none⟩ = some (.int .i64 f.regs) ∧ w'.cell? ⟨wo.heap.size, 3, none⟩ = some (.slice (FS j).a f.code.length (FS j).c) ∧ bK < w'.heap.size ∧ wo.heap.size < w'.heap.size) from fun w' hw => ⟨hw.1.cell 0 _ rfl, hw.2.cell 0 _ rfl, hw.2.cell 1 _ rfl, hw.2.cell 2 _ rfl, hw.2.cell 3 _ rfl, hw.1.lt, hw.2.lt⟩)
        refine Plan.wp_chainG planDf11 (fun w' => BoxAt w' bK tLk [.slice vj E.length vcj, vg, vl, .int .i64 (E.length : Nat), .map (some bF), .map (some bG)] ∧ BoxAt w' wo.heap.size 41 [.string f.name, .int .i64 f.params, .int .i64 f.regs, .slice (FS j).a f.code.length (FS j).c]) ⟨HMY.out.box.drew, HBY.out.drew⟩ (by kernel_rfl) rfl (by kernel_rfl) (by kernel_rfl) ?_
        repeat (first | (apply Plan.chain_skip rfl rfl; simp only [Act.put, List.setIfInBounds_toArray, List.set_cons_zero, List.set_cons_succ]) | (apply Plan.chain_det rfl rfl; (· intro w' hb; obtain ⟨hcl, hG0, hG1, hG2, hG3, hG4, hG5⟩ := HG.out w' hb; go_simp; rfl); simp only [Act.put, List.setIfInBounds_toArray, List.set_cons_zero, List.set_cons_succ]))
        have hA4 : Below X4.heap.size X4 (X4.drew.alloc (.cells #[.string f.name, .int .i64 f.params, .int .i64 f.regs, .slice (FS j).a f.code.length (FS j).c] 41)) := (Below.refl _ _).drew.alloc (Nat.le_refl _) _
        refine Plan.chain_run (.slice (some ⟨X4.heap.size, 0, none⟩) 1 1) (X4.drew.alloc (.cells #[.string f.name, .int .i64 f.params, .int .i64 f.regs, .slice (FS j).a f.code.length (FS j).c] 41)) rfl rfl rfl (by go_simp) ⟨HMY.out.box.below hA4, HBY.out.below hA4⟩ ?_
        simp only [Act.put, List.setIfInBounds_toArray, List.set_cons_zero, List.set_cons_succ]
        have HM4 := hid (HMY.out.fresh hA4)
        have HB4 := hid (HBY.out.below hA4)
        have HX4 := hid (HXY.out.below hA4)
        have hzl : (E.zip sj).length = E.length := HM4.out.q.zlen
        have hzx : w0.heap.size ≤ X4.heap.size := HMY.out.q.low.size
        refine Plan.chain_appG funE (.tmp 75) (.tmp 77) 22 w0.heap.size w0.heap.size 41 _ 56 (E.zip sj) [(f, (⟨(FS j).a, f.code.length, (FS j).c⟩ : Slc))] rfl rfl rfl rfl Try.underlying22 infoFun12 rfl HM4.out.q.row (OwnE.sl (OwnE.lit funE X4.drew w0.heap.size 41 [(f, (⟨(FS j).a, f.code.length, (FS j).c⟩ : Slc))] _ X4.heap.size 1 rfl hzx rfl rfl (by simp)) (Nat.le_refl _) (by simp)) (by rw [hzl]; simp; omega) (by rw [hzl]; simp only [maxLen]; simp; omega) (Nat.le_trans hzx hA4.size) (fun g5 cap5 w5 ho5 hg5 => ?_)
        have hz5 : (E.zip sj ++ [(f, (⟨(FS j).a, f.code.length, (FS j).c⟩ : Slc))]).length = E.length + 1 := by rw [List.length_append, hzl]; rfl
        rw [hz5] at ho5 ⊢
        have hk5 := HM4.out.box.only (Only.grown hg5) (HM4.out.box.neRow HM4.out.q.row (by decide))
        have hf5 := HB4.out.only (Only.grown hg5) (fun e => by have := HSC.out _ e.symm; omega)
        have hx5 := HX4.out.only (Only.grown hg5) (HX4.out.neRow HM4.out.q.row (by decide))
        have HS5 := hid (HM4.out.snoc (f := f) (s := ⟨(FS j).a, f.code.length, (FS j).c⟩) (v2 := .slice g5 (E.length + 1) cap5) hg5 ho5 (.inl HCD.out))
        have HX5 := hid (hx5.only (Only.store w5 bK 0 (.slice g5 (E.length + 1) cap5)) (hx5.neBox hk5 (by decide)))
        refine ⟨⟨hk5, hf5⟩, ?_⟩
        simp only [Act.put, List.setIfInBounds_toArray, List.set_cons_zero, List.set_cons_succ]
        have q0 := hk5.cell 0 _ rfl
        have qf := hk5.frozen 0
        have qz := hk5.lt
        clear hk5 hf5 hx5 ho5 hg5 hz5 hA4 hzl hzx
        repeat (first | (apply Plan.chain_skip rfl rfl; simp only [Act.put, List.setIfInBounds_toArray, List.set_cons_zero, List.set_cons_succ]) | (apply Plan.chain_det rfl rfl; (· intro w' hb; obtain ⟨hcl, hG0, hG1, hG2, hG3, hG4, hG5⟩ := HG.out w' hb; go_simp; rfl); simp only [Act.put, List.setIfInBounds_toArray, List.set_cons_zero, List.set_cons_succ]))
        refine Plan.chain_fin rfl rfl ?_
        unfold Oper.wp
        go_simp
        go_wp2_with fail
        refine ⟨⟨j + 1, sj ++ [(⟨(FS j).a, f.code.length, (FS j).c⟩ : Slc)], g5, cap5, cj + 1, hlt, rfl, ?_, HX5.out⟩, ?_⟩
        · rw [HDK.out, List.length_append, List.length_singleton]
          rw [mainK_at HJM.out, HE.out]
          exact HS5.out
        · simp only [intOf]
          omega
      · have hj1 : ((j : Int) == P.main) = false := by simp [hjm]
        have HJM := hid hjm
        clear hjm
        go_wp2_with fail
        refine Plan.wp_chain planDf8 X3.heap.size (by kernel_rfl) rfl (by kernel_rfl) (by kernel_rfl) ?_
        repeat (first | (apply Plan.chain_skip rfl rfl; simp only [Act.put, List.setIfInBounds_toArray, List.set_cons_zero, List.set_cons_succ]) | (apply Plan.chain_det rfl rfl; (· intro w' hb; obtain ⟨hcl, hfz⟩ := bcellB hb; go_simp; rfl); simp only [Act.put, List.setIfInBounds_toArray, List.set_cons_zero, List.set_cons_succ]))
        have hdr : Below X3.heap.size X3 X3.drew := (Below.refl _ _).drew
        have hcj := HS3.out.cF
        obtain ⟨wA, hrun, hmA, hgA⟩ := (HS3.out.mF.below hdr).upd 52 Try.underlying52 (by simp only [maxLen]; omega) f.name HGD.out (E.length : Nat) (by unfold I64; omega)
        have hrun' : (Instr.mapUpdate 52 (.map (some bF)) (.string f.name) (.int .i64 (E.length : Nat))).run Try.prog X3.drew = .ok () wA := hrun
        have hM := (HS3.out.fresh hdr).named HNEW.out hgA hmA
        have hxA := (HX3.out.below hdr).only (Only.grown hgA) ((HX3.out.below hdr).neMapN (HS3.out.mF.below hdr))
        have hbxA := (HBX3.out.below hdr).only (Only.grown hgA) ((HBX3.out.below hdr).neMapN (HS3.out.mF.below hdr))
        have hzA : wo.heap.size ≤ wA.heap.size := Nat.le_trans HZ3.out (Nat.le_trans hdr.size hgA.size)
        refine Plan.chain_fin rfl rfl ?_
        unfold Oper.wp
        go_simp
        have HMX := hid hM
        have HXA := hid hxA
        have HBXA := hid hbxA
        have HZA := hid hzA
        clear hrun hrun' hmA hgA hdr hM hxA hbxA hzA c3 cz k0 k3 k4 kz e0 e1 e2 e3 ez
        have c3 := HXA.out.cell 3 _ rfl
        have cz := HXA.out.lt
        have k0 := HMX.out.box.cell 0 _ rfl
        have k3 := HMX.out.box.cell 3 _ rfl
        have k3f := HMX.out.box.frozen 3
        have kz := HMX.out.box.lt
        have HMY := hid HMX.out
        have HBY := hid HBXA.out
        have HXY := hid HXA.out
        go_wp2_with fail
        clear c3 cz k0 k3 k3f kz
        have HG := hid (show ∀ w', (BoxAt w' bK tLk [.slice vj E.length vcj, vg, vl, .int .i64 (mainK D m P j), .map (some bF), .map (some bG)] ∧ BoxAt w' wo.heap.size 41 [.string f.name, .int .i64 f.params, .int .i64 f.regs, .slice (FS j).a f.code.length (FS j).c]) → w'.cell? ⟨bK, 0, none⟩ = some (.slice vj E.length vcj) ∧ (w'.cell? ⟨wo.heap.size, 0, none⟩ = some (.string f.name) ∧ w'.cell? ⟨wo.heap.size, 1, none⟩ = some (.int .i64 f.params) ∧ w'.cell? ⟨wo.heap.size, 2, none⟩ = some (.int .i64 f.regs) ∧ w'.cell? ⟨wo.heap.size, 3, none⟩ = some (.slice (FS j).a f.code.length (FS j).c) ∧ bK < w'.heap.size ∧ wo.heap.size < w'.heap.size) from fun w' hw => ⟨hw.1.cell 0 _ rfl, hw.2.cell 0 _ rfl, hw.2.cell 1 _ rfl, hw.2.cell 2 _ rfl, hw.2.cell 3 _ rfl, hw.1.lt, hw.2.lt⟩)
        refine Plan.wp_chainG planDf11 (fun w' => BoxAt w' bK tLk [.slice vj E.length vcj, vg, vl, .int .i64 (mainK D m P j), .map (some bF), .map (some bG)] ∧ BoxAt w' wo.heap.size 41 [.string f.name, .int .i64 f.params, .int .i64 f.regs, .slice (FS j).a f.code.length (FS j).c]) ⟨HMY.out.box.drew, HBY.out.drew⟩ (by kernel_rfl) rfl (by kernel_rfl) (by kernel_rfl) ?_
        repeat (first | (apply Plan.chain_skip rfl rfl; simp only [Act.put, List.setIfInBounds_toArray, List.set_cons_zero, List.set_cons_succ]) | (apply Plan.chain_det rfl rfl; (· intro w' hb; obtain ⟨hcl, hG0, hG1, hG2, hG3, hG4, hG5⟩ := HG.out w' hb; go_simp; rfl); simp only [Act.put, List.setIfInBounds_toArray, List.set_cons_zero, List.set_cons_succ]))
        have hA4 : Below wA.heap.size wA (wA.drew.alloc (.cells #[.string f.name, .int .i64 f.params, .int .i64 f.regs, .slice (FS j).a f.code.length (FS j).c] 41)) := (Below.refl _ _).drew.alloc (Nat.le_refl _) _
        refine Plan.chain_run (.slice (some ⟨wA.heap.size, 0, none⟩) 1 1) (wA.drew.alloc (.cells #[.string f.name, .int .i64 f.params, .int .i64 f.regs, .slice (FS j).a f.code.length (FS j).c] 41)) rfl rfl rfl (by go_simp) ⟨HMY.out.box.below hA4, HBY.out.below hA4⟩ ?_
        simp only [Act.put, List.setIfInBounds_toArray, List.set_cons_zero, List.set_cons_succ]
        have HM4 := hid (HMY.out.fresh hA4)
        have HB4 := hid (HBY.out.below hA4)
        have HX4 := hid (HXY.out.below hA4)
        have hzl : (E.zip sj).length = E.length := HM4.out.q.zlen
        have hzx : w0.heap.size ≤ wA.heap.size := HMY.out.q.low.size
        refine Plan.chain_appG funE (.tmp 75) (.tmp 77) 22 w0.heap.size w0.heap.size 41 _ 56 (E.zip sj) [(f, (⟨(FS j).a, f.code.length, (FS j).c⟩ : Slc))] rfl rfl rfl rfl Try.underlying22 infoFun12 rfl HM4.out.q.row (OwnE.sl (OwnE.lit funE wA.drew w0.heap.size 41 [(f, (⟨(FS j).a, f.code.length, (FS j).c⟩ : Slc))] _ wA.heap.size 1 rfl hzx rfl rfl (by simp)) (Nat.le_refl _) (by simp)) (by rw [hzl]; simp; omega) (by rw [hzl]; simp only [maxLen]; simp; omega) (Nat.le_trans hzx hA4.size) (fun g5 cap5 w5 ho5 hg5 => ?_)
        have hz5 : (E.zip sj ++ [(f, (⟨(FS j).a, f.code.length, (FS j).c⟩ : Slc))]).length = E.length + 1 := by rw [List.length_append, hzl]; rfl
        rw [hz5] at ho5 ⊢
        have hk5 := HM4.out.box.only (Only.grown hg5) (HM4.out.box.neRow HM4.out.q.row (by decide))
        have hf5 := HB4.out.only (Only.grown hg5) (fun e => by have := HSC.out _ e.symm; omega)
        have hx5 := HX4.out.only (Only.grown hg5) (HX4.out.neRow HM4.out.q.row (by decide))
        have HS5 := hid (HM4.out.snoc (f := f) (s := ⟨(FS j).a, f.code.length, (FS j).c⟩) (v2 := .slice g5 (E.length + 1) cap5) hg5 ho5 (.inl HCD.out))
        have HX5 := hid (hx5.only (Only.store w5 bK 0 (.slice g5 (E.length + 1) cap5)) (hx5.neBox hk5 (by decide)))
        refine ⟨⟨hk5, hf5⟩, ?_⟩
        simp only [Act.put, List.setIfInBounds_toArray, List.set_cons_zero, List.set_cons_succ]
        have q0 := hk5.cell 0 _ rfl
        have qf := hk5.frozen 0
        have qz := hk5.lt
        clear hk5 hf5 hx5 ho5 hg5 hz5 hA4 hzl hzx
        repeat (first | (apply Plan.chain_skip rfl rfl; simp only [Act.put, List.setIfInBounds_toArray, List.set_cons_zero, List.set_cons_succ]) | (apply Plan.chain_det rfl rfl; (· intro w' hb; obtain ⟨hcl, hG0, hG1, hG2, hG3, hG4, hG5⟩ := HG.out w' hb; go_simp; rfl); simp only [Act.put, List.setIfInBounds_toArray, List.set_cons_zero, List.set_cons_succ]))
        refine Plan.chain_fin rfl rfl ?_
        unfold Oper.wp
        go_simp
        go_wp2_with fail
        refine ⟨⟨j + 1, sj ++ [(⟨(FS j).a, f.code.length, (FS j).c⟩ : Slc)], g5, cap5, cj + 1, hlt, rfl, ?_, HX5.out⟩, ?_⟩
        · rw [HDK.out, List.length_append, List.length_singleton]
          rw [mainK_stay HJM.out]
          exact HS5.out
        · simp only [intOf]
          omega
  · have hke : j = P.funcs.length := by omega
    subst hke
    go_wp2_with fail
    go_ret
    exact ⟨rfl, cj, vj, vcj, sj, by rw [← defsK_end, HE.out]; exact HST.out⟩

end Go.Proofs.Ytealeofgfgbheaa
