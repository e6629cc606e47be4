/-
  The linker's fits, walked.
-/
import Derived.Test.YtealeofgfgbheaaZLkF
namespace Go.Proofs.Ytealeofgfgbheaa
set_option linter.unusedVariables false
set_option linter.unusedSimpArgs false
open Go.RowKit

noncomputable def planFt4 : Plan := mkPlan (regionOf Try.f32 4) [] []
noncomputable def planFt10 : Plan := mkPlan (regionOf Try.f32 10) [] []
noncomputable def planFt13 : Plan := mkPlan (regionOf Try.f32 13) [(7, .fin)] []
noncomputable def planFt14 : Plan := mkPlan (regionOf Try.f32 14) [(7, .new), (8, .new), (12, .fin)] []
noncomputable def planFt15 : Plan := mkPlan (regionOf Try.f32 15) [] []
theorem infoGlob12 : (Try.prog.info? 60).map (fun i => (i.zero, i.size, i.bytes)) = some (some (.agg #[.string ⟨#[]⟩, .int .i64 0]), 2, 24) := by kernel_rfl

set_option maxRecDepth 100000 in
set_option maxHeartbeats 8000000 in
theorem fits_calls (lo : Nat) (w0 w : World) (bK bF bG cF cG : Nat) (va ga : Option Addr) (vc gc : Nat) (vl uf ug ul : Value) (D : List Fun) (ss : List Slc) (G : List Glob) (Y : List (List Int)) (rs : List Slc) (m : Int) (P : Prg)
    (h : LkSt lo w0 w bK bF bG cF cG (.slice va D.length vc) (.slice ga G.length gc) vl D ss G Y rs m) (hP : ProgAt lo w0 uf ug ul P) (hW : PrgWf P) (hD : D.length ≤ 10000) (hG : G.length + P.globals.length ≤ 10000)
    (hpar : ∀ j, j < P.funcs.length → ∃ i, i < D.length ∧ fnd (D.map fun f => f.name) (nth P.funcs j).name = some (i : Int) ∧ (nth D i).params = (nth P.funcs j).params)
    (hkind : ∀ k, k < P.globals.length → ∀ g', (g' ∈ G ∨ g' ∈ P.globals) → g'.name = (nth P.globals k).name → g'.kind = (nth P.globals k).kind) :
    Calls Try.prog 32 #[.pointer (some ⟨bK, 0, none⟩), .agg #[uf, ug, ul, .int .i64 P.main]] w fun e w' => e = .returned (.bool true) ∧ ∃ cG' ga' gc', LkSt lo w0 w' bK bF bG cF cG' (.slice va D.length vc) (.slice ga' (addK G P.globals P.globals.length).length gc') vl D ss (addK G P.globals P.globals.length) Y rs m := by
  have H := hid h
  have HW := hid hW
  have HPAR := hid hpar
  have HKIND := hid hkind
  have hfz := hW.funcs
  have hgz := hW.globs
  obtain ⟨fa, fc, fb, fo, FS, rfl, fp, f0, f1, f2, f3, fcode, fbl, -, -, -⟩ := hP.funcs.open
  obtain ⟨pa, pc, pb, po, rfl, pp, p0, p1, pbl, -, -, -⟩ := hP.globs.open
  obtain ⟨la, lc, _, _, _, rfl, -⟩ := hP.lays.open
  have HFQ := hid (And.intro fp (And.intro f0 (And.intro f1 (And.intro f2 (And.intro f3 (And.intro fcode fbl))))))
  have HPQ := hid (And.intro pp (And.intro p0 (And.intro p1 pbl)))
  clear h hP hW hpar hkind fp f0 f1 f2 f3 fcode fbl pp p0 p1 pbl
  go_enter Try.func32, Try.ntmps32
  go_wp2_with fail
  generalize hW1 : World.alloc _ _ = W1
  have hb1 : Below w.heap.size w W1 := by rw [← hW1]; exact (Below.refl _ _).alloc (Nat.le_refl _) _
  have R1 := hid (show BoxAt W1 w.heap.size 26 [.slice fa P.funcs.length fc, .slice pa P.globals.length pc, .slice la P.layouts.length lc, .int .i64 P.main] by rw [← hW1]; exact BoxAt.new _ _ _ _ _ rfl rfl)
  have HB1 := hid hb1
  clear hW1 hb1
  go_loopw [14] (fun iv wr => ∃ j : Nat, j ≤ P.funcs.length ∧ iv = .int .i64 j ∧ Below w.heap.size w wr ∧ BoxAt wr w.heap.size 26 [.slice fa P.funcs.length fc, .slice pa P.globals.length pc, .slice la P.layouts.length lc, .int .i64 P.main]) (fun iv _ => P.funcs.length - (intOf iv).toNat)
  case atStart => exact ⟨0, Nat.zero_le _, rfl, HB1.out, R1.out⟩
  case round =>
  clear HB1 R1
  obtain ⟨j, hj, rfl, hb, hx⟩ := hrel
  obtain ⟨wo, hwo⟩ : ∃ wo, wo = wr := ⟨_, rfl⟩
  subst hwo
  have HB := hid hb
  have HX := hid hx
  clear hb hx
  by_cases hlt : j < P.funcs.length
  · have hlt2 : (j : Int) < P.funcs.length := Int.ofNat_lt.2 hlt
    have hki : ¬ ((j : Int) < 0) := by omega
    obtain ⟨fp, f0, f1, f2, f3, fcode, fbl⟩ := HFQ.out
    obtain rfl := fp (by omega)
    have hbw := H.out.q.low.trans (HB.out.mono H.out.q.low.size)
    have gl := fbl (by omega)
    have z0 := (hbw.cell (p := ⟨fb, _, none⟩) gl).trans (f0 j hlt)
    have z1 := (hbw.cell (p := ⟨fb, _, none⟩) gl).trans (f1 j hlt)
    have z2 := (hbw.cell (p := ⟨fb, _, none⟩) gl).trans (f2 j hlt)
    have z3 := (hbw.cell (p := ⟨fb, _, none⟩) gl).trans (f3 j hlt)
    have gl2 : fb < wo.heap.size := Nat.lt_of_lt_of_le gl hbw.size
    have hfw := HW.out.func _ (nth_mem P.funcs j hlt)
    obtain ⟨i, hi, hfi, hpi⟩ := HPAR.out j hlt
    obtain ⟨f, hf⟩ : ∃ f, nth P.funcs j = f := ⟨_, rfl⟩
    rw [hf] at z0 z1 z2 z3 hfw hfi hpi
    have hgd : strK.good f.name := hfw.name
    have HGD := hid hgd
    have HFI := hid hfi
    clear fp f0 f1 f2 f3 fcode fbl hbw gl hfw hf hgd hfi
    go_wp2_with fail
    generalize hX : World.alloc _ _ = X
    have hal : Below wo.heap.size wo X := by rw [← hX]; exact (Below.refl _ _).alloc (Nat.le_refl _) _
    have hbx := (show BoxAt X wo.heap.size 41 [.string f.name, .int .i64 f.params, .int .i64 f.regs, .slice (FS j).a f.code.length (FS j).c] by rw [← hX]; exact BoxAt.new _ _ _ _ _ rfl rfl)
    have HBX := hid (HB.out.trans (hal.mono HB.out.size))
    have HXX := hid (HX.out.below hal)
    have HS := hid (H.out.fresh HBX.out)
    obtain ⟨g5, cap5, hge, hg1, hg2⟩ := HS.out.q.row.open (by rw [HS.out.q.zlen]; omega)
    obtain ⟨e1, -, e2⟩ := Value.slice.inj hge
    subst e1 e2
    have yp := HS.out.q.row.cellAt i 1 (by rw [HS.out.q.zlen]; exact hi) (by decide)
    rw [nth_zip D ss i hi (by rw [HS.out.q.len]; exact hi)] at yp
    have yp' : X.cell? ⟨g5, i * 4 + 1, none⟩ = some (.int .i64 f.params) := by rw [← hpi]; exact yp
    have hi2 : (i : Int) < D.length := Int.ofNat_lt.2 hi
    have hi3 : ¬ ((i : Int) < 0) := by omega
    have q0 := hbx.cell 0 _ rfl
    have q1 := hbx.cell 1 _ rfl
    have qz := hbx.lt
    have k0 := HS.out.box.cell 0 _ rfl
    have k4 := HS.out.box.cell 4 _ rfl
    have kz := HS.out.box.lt
    clear hX hal hbx z0 z1 z2 z3 gl2 hge yp
    refine Plan.wp_chain planFt4 X.heap.size (by kernel_rfl) rfl (by kernel_rfl) (by kernel_rfl) ?_
    repeat (first | (apply Plan.chain_skip rfl rfl; simp only [Act.put, List.setIfInBounds_toArray, List.set_cons_zero, List.set_cons_succ]) | (apply Plan.chain_det rfl rfl; (· intro w' hb; obtain ⟨hcl, hfz⟩ := bcellB hb; go_simp; rfl); simp only [Act.put, List.setIfInBounds_toArray, List.set_cons_zero, List.set_cons_succ]))
    refine Plan.chain_det (v := .int .i64 (i : Nat)) rfl rfl (fun w' hb => ?_) ?_
    · have hlk := (HS.out.mF.below hb).look 52 Try.underlying52 f.name HGD.out
      rw [HFI.out] at hlk
      have hlk' : (Instr.lookup 52 (.map (some bF)) (.string f.name) false).run Try.prog w' = .ok (.int .i64 (i : Nat)) w' := hlk
      clear hlk
      go_simp
    simp only [Act.put, List.setIfInBounds_toArray, List.set_cons_zero, List.set_cons_succ]
    repeat (first | (apply Plan.chain_skip rfl rfl; simp only [Act.put, List.setIfInBounds_toArray, List.set_cons_zero, List.set_cons_succ]) | (apply Plan.chain_det rfl rfl; (· intro w' hb; obtain ⟨hcl, hfz⟩ := bcellB hb; go_simp; rfl); simp only [Act.put, List.setIfInBounds_toArray, List.set_cons_zero, List.set_cons_succ]))
    refine Plan.chain_nil ?_
    have HDW := hid (show Below w.heap.size w X.drew from HBX.out.drew)
    have HXD := hid (HXX.out.drew)
    clear q0 q1 qz k0 k4 kz yp'
    generalize X.drew = X3 at *
    go_wp2_with fail
    refine ⟨⟨j + 1, hlt, rfl, HDW.out, HXD.out⟩, ?_⟩
    simp only [intOf]
    omega
  · have hke : j = P.funcs.length := by omega
    subst hke
    have c1 := HX.out.cell 1 _ rfl
    have cz := HX.out.lt
    have hst : ∃ cG' ga' gc', LkSt lo w0 wo bK bF bG cF cG' (.slice va D.length vc) (.slice ga' (addK G P.globals 0).length gc') vl D ss (addK G P.globals 0) Y rs m := by
      have e0 : addK G P.globals 0 = G := by simp [addK]
      rw [e0]
      exact ⟨cG, ga, gc, H.out.fresh HB.out⟩
    have HST0 := hid hst
    clear hst
    go_wp2_with fail
    clear c1 cz
    go_loopw [40] (fun iv wr => ∃ (k : Nat) (cG' : Nat) (ga' : Option Addr) (gc' : Nat), k ≤ P.globals.length ∧ iv = .int .i64 k ∧ LkSt lo w0 wr bK bF bG cF cG' (.slice va D.length vc) (.slice ga' (addK G P.globals k).length gc') vl D ss (addK G P.globals k) Y rs m) (fun iv _ => P.globals.length - (intOf iv).toNat)
    case atStart =>
      obtain ⟨c1, c2, c3, c4⟩ := HST0.out
      exact ⟨0, c1, c2, c3, Nat.zero_le _, rfl, c4⟩
    case round =>
    clear HST0 HB HX hj
    obtain ⟨k, cG', gx, gxc, hk, rfl, hst⟩ := hrel
    obtain ⟨wl, hwl⟩ : ∃ wl, wl = wr := ⟨_, rfl⟩
    subst hwl
    have hkl := addK_len G P.globals k
    have hsub := addK_sub G P.globals k
    have hsuc := fun hlt => addK_succ G P.globals k hlt
    obtain ⟨E, hE⟩ : ∃ E, addK G P.globals k = E := ⟨_, rfl⟩
    rw [hE] at hst hkl hsub
    rw [hE] at hsuc
    have HST := hid hst
    have HSUB := hid hsub
    have HSUC := hid hsuc
    have HE := hid hE
    have hel : E.length ≤ 10000 := by omega
    clear hst hsub hsuc hE hkl
    by_cases hlt : k < P.globals.length
    · have hlt2 : (k : Int) < P.globals.length := Int.ofNat_lt.2 hlt
      have hki : ¬ ((k : Int) < 0) := by omega
      obtain ⟨pp, p0, p1, pbl⟩ := HPQ.out
      obtain rfl := pp (by omega)
      have hbw := HST.out.q.low
      have gl := pbl (by omega)
      have z0 := (hbw.cell (p := ⟨pb, _, none⟩) gl).trans (p0 k hlt)
      have z1 := (hbw.cell (p := ⟨pb, _, none⟩) gl).trans (p1 k hlt)
      have gl2 : pb < wl.heap.size := Nat.lt_of_lt_of_le gl hbw.size
      have hgw := (HW.out.glob _ (nth_mem P.globals k hlt)).1
      have hkd := HKIND.out k hlt
      have hsc := HSUC.out hlt
      obtain ⟨g, hg⟩ : ∃ g, nth P.globals k = g := ⟨_, rfl⟩
      rw [hg] at z0 z1 hgw hkd hsc
      have HGM := hid (show g ∈ P.globals by rw [← hg]; exact nth_mem P.globals k hlt)
      have HKD := hid hkd
      have HSC := hid hsc
      have hgd : strK.good g.name := hgw
      have HGD := hid hgd
      clear pp p0 p1 pbl hbw gl hgw hkd hg hgd hsc
      go_wp2_with fail
      generalize hX : World.alloc _ _ = X
      have hal : Below wl.heap.size wl X := by rw [← hX]; exact (Below.refl _ _).alloc (Nat.le_refl _) _
      have HBX := hid (show BoxAt X wl.heap.size 60 [.string g.name, .int .i64 g.kind] by rw [← hX]; exact BoxAt.new _ _ _ _ _ rfl rfl)
      have HS := hid (HST.out.fresh hal)
      have hrl : ∀ q, (Value.slice gx E.length gxc).ownBlock = some q → q < wl.heap.size := fun q hq => (HST.out.globs.lt q hq).2
      have HRL := hid hrl
      have HZX := hid hal.size
      have q0 := HBX.out.cell 0 _ rfl
      have qz := HBX.out.lt
      have k5 := HS.out.box.cell 5 _ rfl
      have kz := HS.out.box.lt
      clear hX hal z0 z1 gl2 hrl
      by_cases hin : g.name ∈ E.map fun g => g.name
      · obtain ⟨i, hi, hfi, hat⟩ := fnd_some _ _ hin
        rw [List.length_map] at hi
        have hgi : (nth E i).name = g.name := by
          rw [List.getElem?_map] at hat
          have : E[i]? = some (nth E i) := by rw [List.getElem?_eq_getElem hi, nth_eq _ _ hi]
          rw [this] at hat
          simpa using hat
        have hki4 : (nth E i).kind = g.kind := HKD.out _ ((HSUB.out _ (nth_mem E i hi)).imp id List.mem_of_mem_take) hgi
        have HAD := hid (show addK G P.globals (k + 1) = E by rw [HSC.out]; unfold addG; rw [if_pos (memB_true hin)])
        have HFI := hid hfi
        have hi2 : (i : Int) < E.length := Int.ofNat_lt.2 hi
        have hi3 : ¬ ((i : Int) < 0) := by omega
        clear hat hgi hin hfi
        refine Plan.wp_chain planFt10 X.heap.size (by kernel_rfl) rfl (by kernel_rfl) (by kernel_rfl) ?_
        repeat (first | (apply Plan.chain_skip rfl rfl; simp only [Act.put, List.setIfInBounds_toArray, List.set_cons_zero, List.set_cons_succ]) | (apply Plan.chain_det rfl rfl; (· intro w' hb; obtain ⟨hcl, hfz⟩ := bcellB hb; go_simp; rfl); simp only [Act.put, List.setIfInBounds_toArray, List.set_cons_zero, List.set_cons_succ]))
        refine Plan.chain_det (v := .tuple #[.int .i64 (i : Nat), .bool true]) rfl rfl (fun w' hb => ?_) ?_
        · have hlk := (HS.out.mG.below hb).look_ok 52 Try.underlying52 g.name HGD.out
          rw [HFI.out] at hlk
          have hlk' : (Instr.lookup 52 (.map (some bG)) (.string g.name) true).run Try.prog w' = .ok (.tuple #[.int .i64 (i : Nat), .bool true]) w' := hlk
          clear hlk
          go_simp
        simp only [Act.put, List.setIfInBounds_toArray, List.set_cons_zero, List.set_cons_succ]
        repeat (first | (apply Plan.chain_skip rfl rfl; simp only [Act.put, List.setIfInBounds_toArray, List.set_cons_zero, List.set_cons_succ]) | (apply Plan.chain_det rfl rfl; (· intro w' hb; obtain ⟨hcl, hfz⟩ := bcellB hb; go_simp; rfl); simp only [Act.put, List.setIfInBounds_toArray, List.set_cons_zero, List.set_cons_succ]))
        refine Plan.chain_nil ?_
        have hdw : Below X.heap.size X X.drew := (Below.refl _ _).drew
        have HS3 := hid (HS.out.fresh hdw)
        have HBX3 := hid (HBX.out.below hdw)
        clear q0 qz k5 kz hdw
        generalize X.drew = X3 at *
        obtain ⟨g5, cap5, hge, hg1, hg2⟩ := HS3.out.globs.open (by omega)
        obtain ⟨e1, -, e2⟩ := Value.slice.inj hge
        subst e1 e2
        have yp := HS3.out.globs.cellAt i 1 hi (by decide)
        have yp' : X3.cell? ⟨g5, i * 2 + 1, none⟩ = some (.int .i64 g.kind) := by rw [← hki4]; exact yp
        have q1 := HBX3.out.cell 1 _ rfl
        have qz := HBX3.out.lt
        have k1 := HS3.out.box.cell 1 _ rfl
        have kz := HS3.out.box.lt
        clear hge yp
        go_wp2_with fail
        refine Plan.wp_chain planFt15 X3.heap.size (by kernel_rfl) rfl (by kernel_rfl) (by kernel_rfl) ?_
        repeat (first | (apply Plan.chain_skip rfl rfl; simp only [Act.put, List.setIfInBounds_toArray, List.set_cons_zero, List.set_cons_succ]) | (apply Plan.chain_det rfl rfl; (· intro w' hb; obtain ⟨hcl, hfz⟩ := bcellB hb; go_simp; rfl); simp only [Act.put, List.setIfInBounds_toArray, List.set_cons_zero, List.set_cons_succ]))
        refine Plan.chain_nil ?_
        have HS4 := hid (HS3.out.fresh (Below.refl _ _).drew)
        clear q1 qz k1 kz yp'
        generalize X3.drew = X4 at *
        go_wp2_with fail
        refine ⟨⟨k + 1, cG', _, _, hlt, rfl, by rw [HAD.out]; exact HS4.out⟩, ?_⟩
        simp only [intOf]
        omega
      · have HNEW := hid hin
        have HLK := hid ((fnd_none _ _).2 hin)
        have HAD := hid (show addK G P.globals (k + 1) = E ++ [g] by rw [HSC.out]; unfold addG; rw [if_neg (by rw [memB_false hin]; simp)])
        clear hin
        refine Plan.wp_chain planFt10 X.heap.size (by kernel_rfl) rfl (by kernel_rfl) (by kernel_rfl) ?_
        repeat (first | (apply Plan.chain_skip rfl rfl; simp only [Act.put, List.setIfInBounds_toArray, List.set_cons_zero, List.set_cons_succ]) | (apply Plan.chain_det rfl rfl; (· intro w' hb; obtain ⟨hcl, hfz⟩ := bcellB hb; go_simp; rfl); simp only [Act.put, List.setIfInBounds_toArray, List.set_cons_zero, List.set_cons_succ]))
        refine Plan.chain_det (v := .tuple #[.int .i64 0, .bool false]) rfl rfl (fun w' hb => ?_) ?_
        · have hlk := (HS.out.mG.below hb).look_ok 52 Try.underlying52 g.name HGD.out
          rw [HLK.out] at hlk
          have hlk' : (Instr.lookup 52 (.map (some bG)) (.string g.name) true).run Try.prog w' = .ok (.tuple #[.int .i64 0, .bool false]) w' := hlk
          clear hlk
          go_simp
        simp only [Act.put, List.setIfInBounds_toArray, List.set_cons_zero, List.set_cons_succ]
        repeat (first | (apply Plan.chain_skip rfl rfl; simp only [Act.put, List.setIfInBounds_toArray, List.set_cons_zero, List.set_cons_succ]) | (apply Plan.chain_det rfl rfl; (· intro w' hb; obtain ⟨hcl, hfz⟩ := bcellB hb; go_simp; rfl); simp only [Act.put, List.setIfInBounds_toArray, List.set_cons_zero, List.set_cons_succ]))
        refine Plan.chain_nil ?_
        have hdw : Below X.heap.size X X.drew := (Below.refl _ _).drew
        have HS3 := hid (HS.out.fresh hdw)
        have HBX3 := hid (HBX.out.below hdw)
        have HZ3 := hid (show wl.heap.size ≤ X.drew.heap.size from Nat.le_trans HZX.out hdw.size)
        clear q0 qz k5 kz hdw
        generalize X.drew = X3 at *
        have k1 := HS3.out.box.cell 1 _ rfl
        have k5 := HS3.out.box.cell 5 _ rfl
        have kz := HS3.out.box.lt
        have q0 := HBX3.out.cell 0 _ rfl
        have qz := HBX3.out.lt
        go_wp2_with fail
        refine Plan.wp_chain planFt13 X3.heap.size (by kernel_rfl) rfl (by kernel_rfl) (by kernel_rfl) ?_
        repeat (first | (apply Plan.chain_skip rfl rfl; simp only [Act.put, List.setIfInBounds_toArray, List.set_cons_zero, List.set_cons_succ]) | (apply Plan.chain_det rfl rfl; (· intro w' hb; obtain ⟨hcl, hfz⟩ := bcellB hb; go_simp; rfl); simp only [Act.put, List.setIfInBounds_toArray, List.set_cons_zero, List.set_cons_succ]))
        have hdr : Below X3.heap.size X3 X3.drew := (Below.refl _ _).drew
        have hcj := HS3.out.cG
        obtain ⟨wA, hrun, hmA, hgA⟩ := (HS3.out.mG.below hdr).upd 52 Try.underlying52 (by simp only [maxLen]; omega) g.name HGD.out (E.length : Nat) (by unfold I64; omega)
        have hrun' : (Instr.mapUpdate 52 (.map (some bG)) (.string g.name) (.int .i64 (E.length : Nat))).run Try.prog X3.drew = .ok () wA := hrun
        have hM := (HS3.out.fresh hdr).namedG HNEW.out hgA hmA
        have hbxA := (HBX3.out.below hdr).only (Only.grown hgA) ((HBX3.out.below hdr).neMapN (HS3.out.mG.below hdr))
        refine Plan.chain_fin rfl rfl ?_
        unfold Oper.wp
        go_simp
        have HMX := hid hM
        have HBXA := hid hbxA
        have HZA := hid (show wl.heap.size ≤ wA.heap.size from Nat.le_trans HZ3.out (Nat.le_trans hdr.size hgA.size))
        clear hrun hrun' hmA hgA hdr hM hbxA k1 k5 kz q0 qz
        go_wp2_with fail
        have HG := hid (show ∀ w', (BoxAt w' bK tLk [.slice va D.length vc, .slice gx E.length gxc, vl, .int .i64 m, .map (some bF), .map (some bG)] ∧ BoxAt w' wl.heap.size 60 [.string g.name, .int .i64 g.kind]) → w'.cell? ⟨bK, 1, none⟩ = some (.slice gx E.length gxc) ∧ (w'.cell? ⟨wl.heap.size, 0, none⟩ = some (.string g.name) ∧ w'.cell? ⟨wl.heap.size, 1, none⟩ = some (.int .i64 g.kind) ∧ bK < w'.heap.size ∧ wl.heap.size < w'.heap.size) from fun w' hw => ⟨hw.1.cell 1 _ rfl, hw.2.cell 0 _ rfl, hw.2.cell 1 _ rfl, hw.1.lt, hw.2.lt⟩)
        refine Plan.wp_chainG planFt14 (fun w' => BoxAt w' bK tLk [.slice va D.length vc, .slice gx E.length gxc, vl, .int .i64 m, .map (some bF), .map (some bG)] ∧ BoxAt w' wl.heap.size 60 [.string g.name, .int .i64 g.kind]) ⟨HMX.out.box.drew, HBXA.out.drew⟩ (by kernel_rfl) rfl (by kernel_rfl) (by kernel_rfl) ?_
        repeat (first | (apply Plan.chain_skip rfl rfl; simp only [Act.put, List.setIfInBounds_toArray, List.set_cons_zero, List.set_cons_succ]) | (apply Plan.chain_det rfl rfl; (· intro w' hb; obtain ⟨hcl, hG0, hG1, hG2, hG3⟩ := HG.out w' hb; go_simp; rfl); simp only [Act.put, List.setIfInBounds_toArray, List.set_cons_zero, List.set_cons_succ]))
        have hA4 : Below wA.heap.size wA (wA.drew.alloc (.cells #[.string g.name, .int .i64 g.kind] 60)) := (Below.refl _ _).drew.alloc (Nat.le_refl _) _
        refine Plan.chain_run (.slice (some ⟨wA.heap.size, 0, none⟩) 1 1) (wA.drew.alloc (.cells #[.string g.name, .int .i64 g.kind] 60)) rfl rfl rfl (by go_simp) ⟨HMX.out.box.below hA4, HBXA.out.below hA4⟩ ?_
        simp only [Act.put, List.setIfInBounds_toArray, List.set_cons_zero, List.set_cons_succ]
        have HM4 := hid (HMX.out.fresh hA4)
        have HB4 := hid (HBXA.out.below hA4)
        have hzx : w0.heap.size ≤ wA.heap.size := HMX.out.q.low.size
        refine Plan.chain_appG globE (.tmp 74) (.tmp 76) 23 w0.heap.size w0.heap.size 60 _ 24 E [g] rfl rfl rfl rfl Try.underlying23 infoGlob12 rfl HM4.out.globs (OwnE.sl (OwnE.lit globE wA.drew w0.heap.size 60 [g] _ wA.heap.size 1 rfl hzx rfl rfl (by simp)) (Nat.le_refl _) (by simp)) (by simp; omega) (by simp only [maxLen]; simp; omega) (Nat.le_trans hzx hA4.size) (fun g5 cap5 w5 ho5 hg5 => ?_)
        have hz5 : (E ++ [g]).length = E.length + 1 := by rw [List.length_append]; rfl
        rw [hz5] at ho5 ⊢
        have hk5 := HM4.out.box.only (Only.grown hg5) (HM4.out.box.neRow HM4.out.globs (by decide))
        have hf5 := HB4.out.only (Only.grown hg5) (fun e => by have := HRL.out _ e.symm; omega)
        have HS5 := hid (HM4.out.snoc (g := g) (v2 := .slice g5 (E.length + 1) cap5) hg5 ho5)
        have HX5 := hid (hf5.only (Only.store w5 bK 1 (.slice g5 (E.length + 1) cap5)) (hf5.neBox hk5 (by decide)))
        refine ⟨⟨hk5, hf5⟩, ?_⟩
        simp only [Act.put, List.setIfInBounds_toArray, List.set_cons_zero, List.set_cons_succ]
        have q0 := hk5.cell 1 _ rfl
        have qf := hk5.frozen 1
        have qz := hk5.lt
        clear hk5 hf5 ho5 hg5 hz5 hA4 hzx
        repeat (first | (apply Plan.chain_skip rfl rfl; simp only [Act.put, List.setIfInBounds_toArray, List.set_cons_zero, List.set_cons_succ]) | (apply Plan.chain_det rfl rfl; (· intro w' hb; obtain ⟨hcl, hG0, hG1, hG2, hG3⟩ := HG.out w' hb; go_simp; rfl); simp only [Act.put, List.setIfInBounds_toArray, List.set_cons_zero, List.set_cons_succ]))
        refine Plan.chain_fin rfl rfl ?_
        unfold Oper.wp
        go_simp
        clear q0 qf qz
        obtain ⟨X5, hX5⟩ : ∃ X5, w5.setCell ⟨bK, 1, none⟩ (.slice g5 (E.length + 1) cap5) = X5 := ⟨_, rfl⟩
        have hs6 := HS5.out
        have hx6 := HX5.out
        rw [hX5] at hs6 hx6 ⊢
        have HS6 := hid hs6
        have HX6 := hid hx6
        clear hX5 hs6 hx6 HS5 HX5
        obtain ⟨g6, cap6, hge, hg1, hg2⟩ := HS6.out.globs.open (by simp)
        obtain ⟨e1, -, e2⟩ := Value.slice.inj hge
        subst e1 e2
        have yp := HS6.out.globs.cellAt E.length 1 (by simp) (by decide)
        have yp' : X5.cell? ⟨g6, E.length * 2 + 1, none⟩ = some (.int .i64 g.kind) := by
          have e : nth (E ++ [g]) E.length = g := nth_snoc E g
          rw [e] at yp; exact yp
        have q1 := HX6.out.cell 1 _ rfl
        have qz := HX6.out.lt
        have k1 := HS6.out.box.cell 1 _ rfl
        have kz := HS6.out.box.lt
        have hi2 : (E.length : Int) < (E.length : Int) + 1 := by omega
        have hi4 : E.length < E.length + 1 := by omega
        have hi3 : ¬ ((E.length : Int) < 0) := by omega
        clear hge yp
        go_wp2_with fail
        refine Plan.wp_chain planFt15 X5.heap.size (by kernel_rfl) rfl (by kernel_rfl) (by kernel_rfl) ?_
        repeat (first | (apply Plan.chain_skip rfl rfl; simp only [Act.put, List.setIfInBounds_toArray, List.set_cons_zero, List.set_cons_succ]) | (apply Plan.chain_det rfl rfl; (· intro w' hb; obtain ⟨hcl, hfz⟩ := bcellB hb; go_simp; rfl); simp only [Act.put, List.setIfInBounds_toArray, List.set_cons_zero, List.set_cons_succ]))
        refine Plan.chain_nil ?_
        have HS7 := hid (HS6.out.fresh (Below.refl _ _).drew)
        clear q1 qz k1 kz yp'
        generalize X5.drew = X7 at *
        go_wp2_with fail
        refine ⟨⟨k + 1, cG' + 1, _, _, hlt, rfl, by rw [HAD.out, List.length_append]; exact HS7.out⟩, ?_⟩
        simp only [intOf]
        omega
    · have hke : k = P.globals.length := by omega
      subst hke
      go_wp2_with fail
      go_ret
      exact ⟨rfl, cG', gx, gxc, by rw [HE.out]; exact HST.out⟩

end Go.Proofs.Ytealeofgfgbheaa
