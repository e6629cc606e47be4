/-
  The document's disassembly, walked.
-/
import Derived.Test.YtihcngjkflaelaaGreatDoorZBox
import Derived.Test.YtihcngjkflaelaaGreatDoorZCat9
import Derived.Test.YtihcngjkflaelaaGreatDoorZNum9
import Derived.Test.YtihcngjkflaelaaGreatDoorZOwnP
import Derived.Test.YtihcngjkflaelaaGreatDoorZTxtR
import Derived.Test.YtihcngjkflaelaaGreatDoorZWord9
import Derived.Test.YtihcngjkflaelaaGreatDoorZLine9
namespace Go.Proofs.YtihcngjkflaelaaGreatDoor
set_option linter.unusedVariables false
set_option linter.unusedSimpArgs false
open Go.RowKit

noncomputable def planRT5 : Plan := mkPlan (regionOf Tryz.f8 5) [(15, .new)] []
noncomputable def planRT19 : Plan := mkPlan (regionOf Tryz.f8 19) [(7, .new), (12, .new)] []
noncomputable def planRT24 : Plan := mkPlan (regionOf Tryz.f8 24) [(2, .new), (7, .new)] []

set_option maxRecDepth 100000 in
set_option maxHeartbeats 8000000 in
theorem rtext_calls (lo : Nat) (vf vg vl : Value) (p : Prg) (w : World) (hp : ProgAt lo w vf vg vl p) (hwf : PrgWf p) (hv : validB p = true) (hT : (textL p).length ≤ 140737488355328) :
    Calls Tryz.prog 8 #[.agg #[vf, vg, vl, .int .i64 p.main]] w fun e w' => e = .returned (.string ⟨(textL p).toArray⟩) ∧ Below w.heap.size w w' := by
  have HP := hid hp
  have HV := hid hv
  have HWF := hid hwf
  have HT := hid hT
  obtain ⟨zg, zl, zr⟩ := valid_sizes9 hv
  have zf := (valid_pos hv).2
  have HZR := hid zr
  obtain ⟨fa, fc, fb, fo, FS, rfl, fp, f0, f1, f2, f3, fcode, fbl, -, -, -⟩ := hp.funcs.open
  obtain ⟨ga, gc, gb, go, rfl, gp, g0, g1, gbl, -, -, -⟩ := hp.globs.open
  obtain ⟨la, lc, lb, lo', LS, rfl, lp, l0, li, lbl, -, -, -⟩ := hp.lays.open
  have HFQ := hid (And.intro fp (And.intro f0 (And.intro f1 (And.intro f2 (And.intro f3 (And.intro fcode fbl))))))
  have HGQ := hid (And.intro gp (And.intro g0 (And.intro g1 gbl)))
  have HLQ := hid (And.intro lp (And.intro l0 (And.intro li lbl)))
  clear zr hp hv hwf hT fp f0 f1 f2 f3 fcode fbl gp g0 g1 gbl lp l0 li lbl
  go_enter Tryz.func8, Tryz.ntmps8
  go_wp2_with fail
  generalize hW : World.alloc _ _ = W
  have hbx := show BoxAt W w.heap.size 26 [.slice fa p.funcs.length fc, .slice ga p.globals.length gc, .slice la p.layouts.length lc, .int .i64 p.main] by rw [← hW]; exact BoxAt.new _ _ _ _ _ rfl rfl
  have hbW : Below w.heap.size w W := by rw [← hW]; exact (Below.refl _ _).alloc (Nat.le_refl _) _
  have HBX := hid hbx
  have HBW := hid hbW
  clear hW hbx hbW
  go_loopw [4, 3] (fun iv sv wr => ∃ (k : Nat) (S : ByteArray), k ≤ p.globals.length ∧ iv = .int .i64 k ∧ sv = .string S ∧ bl S = (p.globals.take k).flatMap (fun g => lineB (globT g)) ∧ Below W.heap.size W wr) (fun iv _ _ => p.globals.length - (intOf iv).toNat)
  case atStart => exact ⟨0, ⟨#[]⟩, Nat.zero_le _, rfl, rfl, rfl, Below.refl _ _⟩
  case round =>
  obtain ⟨k, S, hk, rfl, rfl, hS, hbl⟩ := hrel
  obtain ⟨wo, hwo⟩ : ∃ wo, wo = wr := ⟨_, rfl⟩
  subst hwo
  have HS := hid hS
  have HBL := hid hbl
  have hbx := HBX.out.below hbl
  have c1 := hbx.cell 1 _ rfl
  have cz := hbx.lt
  have hSz : S.size ≤ 140737488355328 := by
    rw [bl_size, hS]
    refine Nat.le_trans (take_flat _ _ _) (Nat.le_trans ?_ HT.out)
    unfold textL linesP
    rw [List.flatMap_append, List.flatMap_map, List.length_append]
    exact Nat.le_add_right _ _
  clear hS hbl hbx
  by_cases hlt : k < p.globals.length
  · have hlt2 : (k : Int) < p.globals.length := Int.ofNat_lt.2 hlt
    have hki : ¬ ((k : Int) < 0) := by omega
    obtain ⟨gp, g0, g1, gbl⟩ := HGQ.out
    obtain rfl := (gp (by omega))
    have hbw := HBW.out.trans (HBL.out.mono HBW.out.size)
    have gl := gbl (by omega)
    have y0 := (hbw.cell (p := ⟨gb, _, none⟩) gl).trans (g0 k hlt)
    have y1 := (hbw.cell (p := ⟨gb, _, none⟩) gl).trans (g1 k hlt)
    have gl2 : gb < wo.heap.size := Nat.lt_of_lt_of_le gl hbw.size
    have hgw := HWF.out.glob _ (nth_mem p.globals k hlt)
    obtain ⟨g, hg⟩ : ∃ g, nth p.globals k = g := ⟨_, rfl⟩
    rw [hg] at y0 y1 hgw
    have HG := hid hg
    have hn1 := hgw.1
    have HK := hid hgw.2
    have hi21 := Lib.itoa_length_le g.kind hgw.2.1 hgw.2.2
    clear gp g0 g1 gbl hbw hg hgw
    have HL := hid (take_flat_succ (fun g => lineB (globT g)) p.globals k hlt)
    have hwos := HBL.out.size
    go_wp2_with fail
    refine Plan.wp_chain planRT5 wo.heap.size (by kernel_rfl) rfl (by kernel_rfl) (by kernel_rfl) ?_
    repeat (first | (apply Plan.chain_skip rfl rfl; simp only [Act.put, List.setIfInBounds_toArray, List.set_cons_zero, List.set_cons_succ]) | (apply Plan.chain_det rfl rfl; (· intro w' hb; obtain ⟨hcl, hfz⟩ := bcellB hb; go_simp; rfl); simp only [Act.put, List.setIfInBounds_toArray, List.set_cons_zero, List.set_cons_succ]))
    refine Plan.chain_cat rfl rfl rfl rfl rfl (by simp only [ByteArray.size_append', ByteArray.size_mk', List.size_toArray, List.length_cons, List.length_nil]; omega) ?_
    simp only [Act.put, List.setIfInBounds_toArray, List.set_cons_zero, List.set_cons_succ]
    refine Plan.chain_cat rfl rfl rfl rfl rfl (by simp only [ByteArray.size_append', ByteArray.size_mk', List.size_toArray, List.length_cons, List.length_nil]; omega) ?_
    simp only [Act.put, List.setIfInBounds_toArray, List.set_cons_zero, List.set_cons_succ]
    repeat (first | (apply Plan.chain_skip rfl rfl; simp only [Act.put, List.setIfInBounds_toArray, List.set_cons_zero, List.set_cons_succ]) | (apply Plan.chain_det rfl rfl; (· intro w' hb; obtain ⟨hcl, hfz⟩ := bcellB hb; go_simp; rfl); simp only [Act.put, List.setIfInBounds_toArray, List.set_cons_zero, List.set_cons_succ]))
    refine Plan.chain_call 27 #[.int .i64 g.kind] (fun v w' => v = .string ⟨(Lib.itoa g.kind).toArray⟩ ∧ Below wo.heap.size wo w') rfl rfl rfl (by go_simp) ?_ (fun v w' h => h.2) (fun va w4 h => ?_)
    · refine (rnum_calls g.kind HK.out _).mono ?_
      rintro e w' ⟨rfl, hb⟩
      exact ⟨_, rfl, rfl, (Below.refl _ _).drew.trans hb⟩
    obtain ⟨rfl, hb4⟩ := h
    simp only [Act.put, List.setIfInBounds_toArray, List.set_cons_zero, List.set_cons_succ]
    have HB4 := hid hb4
    clear hb4
    refine Plan.chain_cat rfl rfl rfl rfl rfl (by simp only [ByteArray.size_append', ByteArray.size_mk', List.size_toArray, List.length_cons, List.length_nil]; omega) ?_
    simp only [Act.put, List.setIfInBounds_toArray, List.set_cons_zero, List.set_cons_succ]
    refine Plan.chain_cat rfl rfl rfl rfl rfl (by simp only [ByteArray.size_append', ByteArray.size_mk', List.size_toArray, List.length_cons, List.length_nil]; omega) ?_
    simp only [Act.put, List.setIfInBounds_toArray, List.set_cons_zero, List.set_cons_succ]
    refine Plan.chain_cat rfl rfl rfl rfl rfl (by simp only [ByteArray.size_append', ByteArray.size_mk', List.size_toArray, List.length_cons, List.length_nil]; omega) ?_
    simp only [Act.put, List.setIfInBounds_toArray, List.set_cons_zero, List.set_cons_succ]
    repeat (first | (apply Plan.chain_skip rfl rfl; simp only [Act.put, List.setIfInBounds_toArray, List.set_cons_zero, List.set_cons_succ]) | (apply Plan.chain_det rfl rfl; (· intro w' hb; obtain ⟨hcl, hfz⟩ := bcellB hb; go_simp; rfl); simp only [Act.put, List.setIfInBounds_toArray, List.set_cons_zero, List.set_cons_succ]))
    refine Plan.chain_nil ?_
    go_wp2_with fail
    go_roundw
    case rel =>
      refine ⟨k + 1, _, by omega, by go_num, rfl, ?_, HBL.out.trans (HB4.out.mono hwos)⟩
      rw [HL.out, HG.out, ← HS.out]
      simp only [bl_append, bl_mk, List.append_assoc]
      rw [globT, lineB_cons, joinTail_one, joinTail_one, joinTail_nil]
      simp [bl, gW]
    case measure => simp [intOf] <;> omega
  · have hke : k = p.globals.length := by omega
    subst hke
    obtain ⟨GL, hGL⟩ : ∃ GL, p.globals.flatMap (fun g => lineB (globT g)) = GL := ⟨_, rfl⟩
    have HGL := hid hGL
    have hS1 := HS.out
    rw [List.take_length, hGL] at hS1
    have HS1 := hid hS1
    have hTT : (textL p).length = GL.length + ((p.layouts.flatMap (fun r => lineB (layT r))).length + (p.funcs.flatMap (fun f => (funT f).flatMap lineB)).length) := by
      unfold textL linesP
      rw [List.flatMap_append, List.flatMap_append, List.flatMap_map, List.flatMap_map, List.length_append, List.length_append, hGL, List.flatMap_assoc]
    have HTT := hid hTT
    clear hGL hS1 hTT
    go_wp2_with fail
    go_loopw [5, 3] (fun iv sv wr => ∃ (k : Nat) (S : ByteArray), k ≤ p.layouts.length ∧ iv = .int .i64 k ∧ sv = .string S ∧ bl S = GL ++ (p.layouts.take k).flatMap (fun r => lineB (layT r)) ∧ Below W.heap.size W wr) (fun iv _ _ => p.layouts.length - (intOf iv).toNat)
    case atStart => exact ⟨0, S, Nat.zero_le _, rfl, rfl, by rw [HS1.out]; simp, HBL.out⟩
    case round =>
    clear c1 cz HS HBL HS1 hSz
    obtain ⟨k, S, hk, rfl, rfl, hS, hbl⟩ := hrel
    obtain ⟨wo, hwo⟩ : ∃ wo, wo = wr := ⟨_, rfl⟩
    subst hwo
    have HS := hid hS
    have HBL := hid hbl
    have hbx := HBX.out.below hbl
    have c2 := hbx.cell 2 _ rfl
    have cz := hbx.lt
    have hSz : S.size ≤ 140737488355328 := by
      have h1 := HT.out
      have h2 := HTT.out
      have h3 := take_flat (fun r => lineB (layT r)) p.layouts k
      rw [bl_size, hS, List.length_append]
      omega
    clear hS hbl hbx
    by_cases hlt : k < p.layouts.length
    · have hlt2 : (k : Int) < p.layouts.length := Int.ofNat_lt.2 hlt
      have hki : ¬ ((k : Int) < 0) := by omega
      obtain ⟨lp, l0, li, lbl⟩ := HLQ.out
      obtain rfl := (lp (by omega))
      have hbw := HBW.out.trans (HBL.out.mono HBW.out.size)
      have gl := lbl (by omega)
      have y0 := l0 k hlt
      have HLK := hid (li k hlt)
      have HL := hid (take_flat_succ (fun r => lineB (layT r)) p.layouts k hlt)
      obtain ⟨row, hrow⟩ : ∃ row, nth p.layouts k = row := ⟨_, rfl⟩
      have hr64 := HZR.out _ (nth_mem p.layouts k hlt)
      have hrw := (HWF.out.lay _ (nth_mem p.layouts k hlt)).2
      rw [hrow] at y0 HLK HL hr64 hrw
      have HRW := hid hrw
      obtain ⟨ra, rc, rb, ro, hre, rp, rcell, rlt, -⟩ := HLK.out.open
      obtain ⟨e1, -, e2⟩ := Value.slice.inj hre
      rw [e1, e2] at y0
      have HY := hid y0
      replace y0 := (hbw.cell (p := ⟨lb, _, none⟩) gl).trans y0
      have gl2 : lb < wo.heap.size := Nat.lt_of_lt_of_le gl hbw.size
      have HRE := hid (And.intro rp (And.intro rcell rlt))
      have hs1 : ¬ (9223372036854775807 < S.size + 6) := by omega
      clear lp l0 li lbl hrow hrw hre rp rcell rlt e1 e2
      have HBW2 := hid hbw
      clear hbw
      go_wp2_with fail
      go_loopw [6, 3] (fun iv sv wr => ∃ (m : Nat) (S' : ByteArray), m ≤ row.length ∧ iv = .int .i64 m ∧ sv = .string S' ∧ bl S' = bl S ++ (lW ++ Lib.joinTail [32] ((row.take m).map Lib.itoa)) ∧ Below W.heap.size W wr) (fun iv _ _ => row.length - (intOf iv).toNat)
      case atStart => exact ⟨0, _, Nat.zero_le _, rfl, rfl, by rw [bl_append]; rfl, HBL.out⟩
      case round =>
      clear c2 cz y0 gl2 hs1
      obtain ⟨m, S', hm, rfl, rfl, hS', hbl⟩ := hrel
      obtain ⟨wi, hwi⟩ : ∃ wi, wi = wr := ⟨_, rfl⟩
      subst hwi
      have HS' := hid hS'
      have HBL' := hid hbl
      have hbx := HBX.out.below hbl
      have c2 := hbx.cell 2 _ rfl
      have cz := hbx.lt
      have hbw := HBW.out.trans (hbl.mono HBW.out.size)
      have y0 := (hbw.cell (p := ⟨lb, _, none⟩) gl).trans HY.out
      have gl2 : lb < wi.heap.size := Nat.lt_of_lt_of_le gl hbw.size
      have hwis := hbl.size
      have hS2 : S'.size ≤ 140737488355328 + 6 + 22 * 64 := by
        have h1 := tail_le (row.take m) (fun x hx => HRW.out x (List.mem_of_mem_take hx))
        have h2 : (row.take m).length ≤ 64 := by rw [List.length_take]; omega
        rw [bl_size, hS', List.length_append, List.length_append, ← bl_size]
        have h3 : lW.length = 6 := rfl
        omega
      clear hS' hbl hbx
      by_cases hmt : m < row.length
      · have hmt2 : (m : Int) < row.length := Int.ofNat_lt.2 hmt
        have hmi : ¬ ((m : Int) < 0) := by omega
        obtain ⟨rp, rcell, rlt⟩ := HRE.out
        obtain rfl := rp (by omega)
        have rl := rlt (by omega)
        have x0 := (hbw.cell (p := ⟨rb, _, none⟩) rl).trans (rcell m hmt)
        have rl2 : rb < wi.heap.size := Nat.lt_of_lt_of_le rl hbw.size
        have hvi := HRW.out _ (nth_mem row m hmt)
        have hi21 := Lib.itoa_length_le (nth row m) hvi.1 hvi.2
        have HVI := hid hvi
        have hs1 : ¬ (9223372036854775807 < 1 + (Lib.itoa (nth row m)).length) := by omega
        have hs2 : ¬ (9223372036854775807 < S'.size + (1 + (Lib.itoa (nth row m)).length)) := by omega
        clear rp rcell rlt hvi hbw
        go_wp2_with (
          go_at_call 27
          refine (rnum_calls (nth row m) HVI.out _).mono ?_
          rintro e w4 ⟨rfl, hb4⟩
          have HB4 := hid hb4
          clear hb4)
        go_roundw
        case rel =>
          refine ⟨m + 1, _, by omega, by go_num, rfl, ?_, HBL'.out.trans (HB4.out.mono hwis)⟩
          rw [map_take_succ row m hmt, joinTail_snoc, bl_append, bl_append, bl_mk (Lib.itoa (nth row m)), HS'.out]
          simp [bl]
        case measure => simp [intOf] <;> omega
      · have hmm : m = row.length := by omega
        have hmt3 : ¬ ((m : Int) < row.length) := by omega
        have hs1 : ¬ (9223372036854775807 < S'.size + 1) := by omega
        clear hbw
        go_wp2_with fail
        go_roundw
        case rel =>
          refine ⟨k + 1, _, by omega, by go_num, rfl, ?_, HBL'.out⟩
          rw [HL.out, bl_append, HS'.out, HS.out, layT, lineB_cons, hmm, List.take_length]
          simp [bl]
        case measure => simp [intOf] <;> omega
    · have hke : k = p.layouts.length := by omega
      subst hke
      obtain ⟨AL, hAL⟩ : ∃ AL, GL ++ p.layouts.flatMap (fun r => lineB (layT r)) = AL := ⟨_, rfl⟩
      have hS1 := HS.out
      rw [List.take_length, hAL] at hS1
      have HS1 := hid hS1
      have HTX := hid (show AL.length + (p.funcs.flatMap (fun f => (funT f).flatMap lineB)).length ≤ 140737488355328 by
        have h1 := HT.out
        have h2 := HTT.out
        rw [← hAL, List.length_append]
        omega)
      have HTL := hid (show textL p = AL ++ p.funcs.flatMap (fun f => (funT f).flatMap lineB) by
        unfold textL linesP
        rw [List.flatMap_append, List.flatMap_append, List.flatMap_map, List.flatMap_map, List.flatMap_assoc, HGL.out, ← hAL, List.append_assoc])
      clear hAL hS1
      go_wp2_with fail
      go_loopw [7, 3] (fun iv sv wr => ∃ (k : Nat) (S : ByteArray), k ≤ p.funcs.length ∧ iv = .int .i64 k ∧ sv = .string S ∧ bl S = AL ++ (p.funcs.take k).flatMap (fun f => (funT f).flatMap lineB) ∧ Below W.heap.size W wr) (fun iv _ _ => p.funcs.length - (intOf iv).toNat)
      case atStart => exact ⟨0, S, Nat.zero_le _, rfl, rfl, by rw [HS1.out]; simp, HBL.out⟩
      case round =>
      clear c2 cz HS HBL HS1 hSz
      obtain ⟨k, S, hk, rfl, rfl, hS, hbl⟩ := hrel
      obtain ⟨wo, hwo⟩ : ∃ wo, wo = wr := ⟨_, rfl⟩
      subst hwo
      have HS := hid hS
      have HBL := hid hbl
      have hbx := HBX.out.below hbl
      have c0 := hbx.cell 0 _ rfl
      have cz := hbx.lt
      have hSz : S.size ≤ 140737488355328 := by
        have h1 := HTX.out
        have h3 := take_flat (fun f => (funT f).flatMap lineB) p.funcs k
        rw [bl_size, hS, List.length_append]
        omega
      clear hS hbl hbx
      by_cases hlt : k < p.funcs.length
      · have hlt2 : (k : Int) < p.funcs.length := Int.ofNat_lt.2 hlt
        have hki : ¬ ((k : Int) < 0) := by omega
        obtain ⟨fp, f0, f1, f2, f3, fcode, fbl⟩ := HFQ.out
        obtain rfl := (fp (by omega))
        have hbw := HBW.out.trans (HBL.out.mono HBW.out.size)
        have gl := fbl (by omega)
        have y0 := (hbw.cell (p := ⟨fb, _, none⟩) gl).trans (f0 k hlt)
        have y1 := (hbw.cell (p := ⟨fb, _, none⟩) gl).trans (f1 k hlt)
        have y2 := (hbw.cell (p := ⟨fb, _, none⟩) gl).trans (f2 k hlt)
        have y3 := (hbw.cell (p := ⟨fb, _, none⟩) gl).trans (f3 k hlt)
        have gl2 : fb < wo.heap.size := Nat.lt_of_lt_of_le gl hbw.size
        have hca := fcode k hlt
        have hfw := HWF.out.func _ (nth_mem p.funcs k hlt)
        have hio := ins_ok HV.out k hlt
        have hlen := (fok_of_funcB (valid_func HV.out k hlt)).le
        have HL := hid (take_flat_succ (fun f => (funT f).flatMap lineB) p.funcs k hlt)
        obtain ⟨f, hf⟩ : ∃ f, nth p.funcs k = f := ⟨_, rfl⟩
        rw [hf] at y0 y1 y2 y3 hca hfw hio hlen HL
        obtain ⟨ca, cc, cb, co, hve, p1, p2, p3, p4, p5, p6, p7, -, -, -⟩ := hca.open
        obtain ⟨e1, -, e2⟩ := Value.slice.inj hve
        rw [e1, e2] at y3 hca
        have HCQ := hid (And.intro p1 (And.intro p2 (And.intro p3 (And.intro p4 (And.intro p5 (And.intro p6 p7))))))
        clear hve e1 e2 p1 p2 p3 p4 p5 p6 p7
        have HIO := hid hio
        have HFW := hid hfw
        have HCA := hid hca
        have hnz := hfw.name
        have hi1 := Lib.itoa_length_le f.params hfw.params.1 hfw.params.2
        have hi2 := Lib.itoa_length_le f.regs hfw.regs.1 hfw.regs.2
        have HBW2 := hid hbw
        clear fp f0 f1 f2 f3 fcode fbl hf hio hfw hca
        go_wp2_with fail
        generalize hW1 : World.alloc wo _ = W1
        have hx1 : BoxAt W1 wo.heap.size 37 [.string f.name, .int .i64 f.params, .int .i64 f.regs, .slice ca f.code.length cc] := by rw [← hW1]; exact BoxAt.new wo _ _ _ _ rfl rfl
        have hb1 : Below wo.heap.size wo W1 := by rw [← hW1]; exact (Below.refl _ _).alloc (Nat.le_refl _) _
        have HX1 := hid hx1
        have HB1 := hid (HBL.out.trans (hb1.mono HBL.out.size))
        have q0 := hx1.cell 0 _ rfl
        have q1 := hx1.cell 1 _ rfl
        have q2 := hx1.cell 2 _ rfl
        have qz := hx1.lt
        have hW1s := hb1.size
        clear hW1 hx1 hb1 y0 y1 y2 y3 c0 cz gl2
        refine Plan.wp_chain planRT19 W1.heap.size (by kernel_rfl) rfl (by kernel_rfl) (by kernel_rfl) ?_
        repeat (first | (apply Plan.chain_skip rfl rfl; simp only [Act.put, List.setIfInBounds_toArray, List.set_cons_zero, List.set_cons_succ]) | (apply Plan.chain_det rfl rfl; (· intro w' hb; obtain ⟨hcl, hfz⟩ := bcellB hb; go_simp; rfl); simp only [Act.put, List.setIfInBounds_toArray, List.set_cons_zero, List.set_cons_succ]))
        refine Plan.chain_cat rfl rfl rfl rfl rfl (by simp only [ByteArray.size_append', ByteArray.size_mk', List.size_toArray, List.length_cons, List.length_nil]; omega) ?_
        simp only [Act.put, List.setIfInBounds_toArray, List.set_cons_zero, List.set_cons_succ]
        refine Plan.chain_cat rfl rfl rfl rfl rfl (by simp only [ByteArray.size_append', ByteArray.size_mk', List.size_toArray, List.length_cons, List.length_nil]; omega) ?_
        simp only [Act.put, List.setIfInBounds_toArray, List.set_cons_zero, List.set_cons_succ]
        repeat (first | (apply Plan.chain_skip rfl rfl; simp only [Act.put, List.setIfInBounds_toArray, List.set_cons_zero, List.set_cons_succ]) | (apply Plan.chain_det rfl rfl; (· intro w' hb; obtain ⟨hcl, hfz⟩ := bcellB hb; go_simp; rfl); simp only [Act.put, List.setIfInBounds_toArray, List.set_cons_zero, List.set_cons_succ]))
        refine Plan.chain_call 27 #[.int .i64 f.params] (fun v w' => v = .string ⟨(Lib.itoa f.params).toArray⟩ ∧ Below W1.heap.size W1 w') rfl rfl rfl (by go_simp) ?_ (fun v w' h => h.2) (fun va w4 h => ?_)
        · refine (rnum_calls f.params HFW.out.params _).mono ?_
          rintro e w' ⟨rfl, hb⟩
          exact ⟨_, rfl, rfl, (Below.refl _ _).drew.trans hb⟩
        obtain ⟨rfl, hbw4⟩ := h
        simp only [Act.put, List.setIfInBounds_toArray, List.set_cons_zero, List.set_cons_succ]
        have HBw4 := hid hbw4
        clear hbw4
        refine Plan.chain_cat rfl rfl rfl rfl rfl (by simp only [ByteArray.size_append', ByteArray.size_mk', List.size_toArray, List.length_cons, List.length_nil]; omega) ?_
        simp only [Act.put, List.setIfInBounds_toArray, List.set_cons_zero, List.set_cons_succ]
        refine Plan.chain_cat rfl rfl rfl rfl rfl (by simp only [ByteArray.size_append', ByteArray.size_mk', List.size_toArray, List.length_cons, List.length_nil]; omega) ?_
        simp only [Act.put, List.setIfInBounds_toArray, List.set_cons_zero, List.set_cons_succ]
        repeat (first | (apply Plan.chain_skip rfl rfl; simp only [Act.put, List.setIfInBounds_toArray, List.set_cons_zero, List.set_cons_succ]) | (apply Plan.chain_det rfl rfl; (· intro w' hb; obtain ⟨hcl, hfz⟩ := bcellB hb; go_simp; rfl); simp only [Act.put, List.setIfInBounds_toArray, List.set_cons_zero, List.set_cons_succ]))
        refine Plan.chain_call 27 #[.int .i64 f.regs] (fun v w' => v = .string ⟨(Lib.itoa f.regs).toArray⟩ ∧ Below W1.heap.size W1 w') rfl rfl rfl (by go_simp) ?_ (fun v w' h => h.2) (fun va w5 h => ?_)
        · refine (rnum_calls f.regs HFW.out.regs _).mono ?_
          rintro e w' ⟨rfl, hb⟩
          exact ⟨_, rfl, rfl, HBw4.out.trans (hb.mono HBw4.out.size)⟩
        obtain ⟨rfl, hbw5⟩ := h
        simp only [Act.put, List.setIfInBounds_toArray, List.set_cons_zero, List.set_cons_succ]
        have HBw5 := hid hbw5
        clear hbw5
        refine Plan.chain_cat rfl rfl rfl rfl rfl (by simp only [ByteArray.size_append', ByteArray.size_mk', List.size_toArray, List.length_cons, List.length_nil]; omega) ?_
        simp only [Act.put, List.setIfInBounds_toArray, List.set_cons_zero, List.set_cons_succ]
        refine Plan.chain_cat rfl rfl rfl rfl rfl (by simp only [ByteArray.size_append', ByteArray.size_mk', List.size_toArray, List.length_cons, List.length_nil]; omega) ?_
        simp only [Act.put, List.setIfInBounds_toArray, List.set_cons_zero, List.set_cons_succ]
        refine Plan.chain_cat rfl rfl rfl rfl rfl (by simp only [ByteArray.size_append', ByteArray.size_mk', List.size_toArray, List.length_cons, List.length_nil]; omega) ?_
        simp only [Act.put, List.setIfInBounds_toArray, List.set_cons_zero, List.set_cons_succ]
        repeat (first | (apply Plan.chain_skip rfl rfl; simp only [Act.put, List.setIfInBounds_toArray, List.set_cons_zero, List.set_cons_succ]) | (apply Plan.chain_det rfl rfl; (· intro w' hb; obtain ⟨hcl, hfz⟩ := bcellB hb; go_simp; rfl); simp only [Act.put, List.setIfInBounds_toArray, List.set_cons_zero, List.set_cons_succ]))
        refine Plan.chain_nil ?_
        obtain ⟨S1, hS1⟩ : ∃ S1, S ++ (({ data := #[102, 117, 110, 99, 32] } : ByteArray) ++ f.name ++ { data := #[32] } ++ { data := (Lib.itoa f.params).toArray } ++ { data := #[32] } ++ { data := (Lib.itoa f.regs).toArray } ++ { data := #[10] }) = S1 := ⟨_, rfl⟩
        rw [hS1]
        have hbS1 : bl S1 = bl S ++ lineB (headT f) := by
          rw [← hS1]
          simp only [bl_append, bl_mk, List.append_assoc]
          rw [headT, lineB_cons, joinTail_one, joinTail_one, joinTail_one, joinTail_nil]
          simp [bl, fW]
        have HS1 := hid hbS1
        clear hS1 hbS1
        have HSB := hid (show S1.size + ((codeT 0 f.code).flatMap lineB).length ≤ 140737488355328 by
          have h1 := HTX.out
          have h3 := take_flat (fun f => (funT f).flatMap lineB) p.funcs (k + 1)
          rw [HL.out, List.length_append] at h3
          have h4 : ((funT f).flatMap lineB).length = (lineB (headT f)).length + ((codeT 0 f.code).flatMap lineB).length := by
            show ((headT f :: codeT 0 f.code).flatMap lineB).length = _
            rw [List.flatMap_cons, List.length_append]
          have h5 : (bl S).length = AL.length + ((p.funcs.take k).flatMap (fun f => (funT f).flatMap lineB)).length := by rw [HS.out, List.length_append]
          rw [bl_size, HS1.out, List.length_append]
          omega)
        go_wp2_with fail
        go_loopw [9, 3] (fun iv sv wr => ∃ (m : Nat) (S' : ByteArray), m ≤ f.code.length ∧ iv = .int .i64 m ∧ sv = .string S' ∧ bl S' = bl S1 ++ ((codeT 0 f.code).take m).flatMap lineB ∧ Below W1.heap.size W1 wr) (fun iv _ _ => f.code.length - (intOf iv).toNat)
        case atStart => exact ⟨0, S1, Nat.zero_le _, rfl, rfl, by simp, HBw5.out⟩
        case round =>
        clear q0 q1 q2 qz
        obtain ⟨m, S', hm, rfl, rfl, hS', hbl⟩ := hrel
        obtain ⟨wi, hwi⟩ : ∃ wi, wi = wr := ⟨_, rfl⟩
        subst hwi
        have HS' := hid hS'
        have HBL' := hid hbl
        have hx1 := HX1.out.below hbl
        have q3 := hx1.cell 3 _ rfl
        have qz := hx1.lt
        have hbw := HBW.out.trans ((HB1.out.trans (hbl.mono (by have := HBL.out.size; omega))).mono HBW.out.size)
        have hwis := hbl.size
        have hS2 : S'.size ≤ 140737488355328 := by
          have h1 := HSB.out
          have h3 := take_flat lineB (codeT 0 f.code) m
          rw [bl_size, hS', List.length_append, ← bl_size]
          omega
        clear hS' hbl hx1
        by_cases hmt : m < f.code.length
        · have hmt2 : (m : Int) < f.code.length := Int.ofNat_lt.2 hmt
          have hmi : ¬ ((m : Int) < 0) := by omega
          obtain ⟨p1, p2, p3, p4, p5, p6, p7⟩ := HCQ.out
          obtain rfl := p1 (by omega)
          have rl := p7 (by omega)
          have x0 := (hbw.cell (p := ⟨cb, _, none⟩) rl).trans (p2 m hmt)
          have x1 := (hbw.cell (p := ⟨cb, _, none⟩) rl).trans (p3 m hmt)
          have x2 := (hbw.cell (p := ⟨cb, _, none⟩) rl).trans (p4 m hmt)
          have x3 := (hbw.cell (p := ⟨cb, _, none⟩) rl).trans (p5 m hmt)
          have x4 := (hbw.cell (p := ⟨cb, _, none⟩) rl).trans (p6 m hmt)
          have rl2 : cb < wi.heap.size := Nat.lt_of_lt_of_le rl hbw.size
          have hix := HIO.out _ (nth_mem f.code m hmt)
          have hiw := HFW.out.ins _ (nth_mem f.code m hmt)
          have hcn : nth (codeT 0 f.code) m = insT m (nth f.code m) := by rw [codeT_nth 0 f.code m hmt, Nat.zero_add]
          have hcs := take_flat_succ lineB (codeT 0 f.code) m (by rw [codeT_len]; exact hmt)
          rw [hcn] at hcs
          obtain ⟨x, hx⟩ : ∃ x, nth f.code m = x := ⟨_, rfl⟩
          rw [hx] at x0 x1 x2 x3 x4 hix hiw hcs
          have HCS := hid hcs
          have HIW := hid hiw
          have hop := ins_op hix
          obtain ⟨n, hn⟩ := Int.eq_ofNat_of_zero_le (by omega : 0 ≤ x.op)
          rw [hn] at x0
          have HN := hid hn
          have hn0 : 0 < n := by omega
          have hn1 : n < 53 := by omega
          have him := Lib.itoa_length_le (m : Nat) (by omega) (by omega)
          have hwd : (wordC n).size ≤ 20 := by
            have hd : ∀ z : Fin 53, (wordC (z.val : Nat)).size ≤ 20 := by decide +kernel
            exact hd ⟨n, hn1⟩
          obtain ⟨r0, r1, r2, hrr, hd0, hd1, hd2⟩ := roles_dash x.op hop
          rw [hn] at hrr
          have HRR := hid (And.intro hrr (And.intro hd0 (And.intro hd1 hd2)))
          clear p1 p2 p3 p4 p5 p6 p7 hcn hcs hx hix hiw hop hn hrr hd0 hd1 hd2 hbw
          go_wp2_with fail
          generalize hW2 : World.alloc wi _ = W2
          have hx2 : BoxAt W2 wi.heap.size 34 [.int .i64 n, .int .i64 x.a, .int .i64 x.b, .int .i64 x.c, .int .i64 x.pos] := by rw [← hW2]; exact BoxAt.new wi _ _ _ _ rfl rfl
          have hb2 : Below wi.heap.size wi W2 := by rw [← hW2]; exact (Below.refl _ _).alloc (Nat.le_refl _) _
          have HX2 := hid hx2
          have HB2 := hid (HBL'.out.trans (hb2.mono hwis))
          have i0 := hx2.cell 0 _ rfl
          have iz := hx2.lt
          have hW2s := hb2.size
          clear hW2 hx2 hb2 x0 x1 x2 x3 x4 q3 qz rl rl2
          refine Plan.wp_chain planRT24 W2.heap.size (by kernel_rfl) rfl (by kernel_rfl) (by kernel_rfl) ?_
          repeat (first | (apply Plan.chain_skip rfl rfl; simp only [Act.put, List.setIfInBounds_toArray, List.set_cons_zero, List.set_cons_succ]) | (apply Plan.chain_det rfl rfl; (· intro w' hb; obtain ⟨hcl, hfz⟩ := bcellB hb; go_simp; rfl); simp only [Act.put, List.setIfInBounds_toArray, List.set_cons_zero, List.set_cons_succ]))
          refine Plan.chain_call 27 #[.int .i64 (m : Nat)] (fun v w' => v = .string ⟨(Lib.itoa (m : Nat)).toArray⟩ ∧ Below W2.heap.size W2 w') rfl rfl rfl (by go_simp) ?_ (fun v w' h => h.2) (fun va w6 h => ?_)
          · refine (rnum_calls (m : Nat) ⟨by omega, by omega⟩ _).mono ?_
            rintro e w' ⟨rfl, hb⟩
            exact ⟨_, rfl, rfl, (Below.refl _ _).drew.trans hb⟩
          obtain ⟨rfl, hb6⟩ := h
          simp only [Act.put, List.setIfInBounds_toArray, List.set_cons_zero, List.set_cons_succ]
          have HB6 := hid hb6
          clear hb6
          refine Plan.chain_cat rfl rfl rfl rfl rfl (by simp only [ByteArray.size_append', ByteArray.size_mk', List.size_toArray, List.length_cons, List.length_nil]; omega) ?_
          simp only [Act.put, List.setIfInBounds_toArray, List.set_cons_zero, List.set_cons_succ]
          refine Plan.chain_cat rfl rfl rfl rfl rfl (by simp only [ByteArray.size_append', ByteArray.size_mk', List.size_toArray, List.length_cons, List.length_nil]; omega) ?_
          simp only [Act.put, List.setIfInBounds_toArray, List.set_cons_zero, List.set_cons_succ]
          repeat (first | (apply Plan.chain_skip rfl rfl; simp only [Act.put, List.setIfInBounds_toArray, List.set_cons_zero, List.set_cons_succ]) | (apply Plan.chain_det rfl rfl; (· intro w' hb; obtain ⟨hcl, hfz⟩ := bcellB hb; go_simp; rfl); simp only [Act.put, List.setIfInBounds_toArray, List.set_cons_zero, List.set_cons_succ]))
          refine Plan.chain_call 28 #[.int .i64 (n : Nat)] (fun v w' => v = .string (wordC n) ∧ Below W2.heap.size W2 w') rfl rfl rfl (by go_simp) ?_ (fun v w' h => h.2) (fun va w7 h => ?_)
          · refine (rword_calls n hn0 hn1 _).mono ?_
            rintro e w' ⟨rfl, hb⟩
            exact ⟨_, rfl, rfl, HB6.out.trans (hb.mono HB6.out.size)⟩
          obtain ⟨rfl, hb7⟩ := h
          simp only [Act.put, List.setIfInBounds_toArray, List.set_cons_zero, List.set_cons_succ]
          have HB7 := hid hb7
          clear hb7
          refine Plan.chain_cat rfl rfl rfl rfl rfl (by simp only [ByteArray.size_append', ByteArray.size_mk', List.size_toArray, List.length_cons, List.length_nil]; omega) ?_
          simp only [Act.put, List.setIfInBounds_toArray, List.set_cons_zero, List.set_cons_succ]
          refine Plan.chain_cat rfl rfl rfl rfl rfl (by simp only [ByteArray.size_append', ByteArray.size_mk', List.size_toArray, List.length_cons, List.length_nil]; omega) ?_
          simp only [Act.put, List.setIfInBounds_toArray, List.set_cons_zero, List.set_cons_succ]
          repeat (first | (apply Plan.chain_skip rfl rfl; simp only [Act.put, List.setIfInBounds_toArray, List.set_cons_zero, List.set_cons_succ]) | (apply Plan.chain_det rfl rfl; (· intro w' hb; obtain ⟨hcl, hfz⟩ := bcellB hb; go_simp; rfl); simp only [Act.put, List.setIfInBounds_toArray, List.set_cons_zero, List.set_cons_succ]))
          refine Plan.chain_nil ?_
          obtain ⟨S2, hS2e⟩ : ∃ S2, S' ++ (({ data := #[9] } : ByteArray) ++ { data := (Lib.itoa (m : Nat)).toArray } ++ { data := #[32] } ++ wordC n) = S2 := ⟨_, rfl⟩
          rw [hS2e]
          have hbS2 : bl S2 = bl S' ++ ((9 :: Lib.itoa (m : Nat)) ++ (32 :: bl (wordC n))) := by
            rw [← hS2e]
            simp only [bl_append, bl_mk, List.append_assoc]
            simp [bl]
          have hS2z : S2.size ≤ 140737488355328 + 50 := by
            rw [← hS2e]
            simp only [ByteArray.size_append', ByteArray.size_mk', List.size_toArray, List.length_cons, List.length_nil]
            omega
          have HS2 := hid hbS2
          have hx3 := HX2.out.below HB7.out
          have i0 := hx3.cell 0 _ rfl
          have i1 := hx3.cell 1 _ rfl
          have i2 := hx3.cell 2 _ rfl
          have i3 := hx3.cell 3 _ rfl
          have iz := hx3.lt
          clear hS2e hbS2 hx3
          go_wp2_with (
            go_at_call 29
            refine (roles_calls n _).mono ?_
            rintro e wj ⟨rfl, rfl⟩
            rw [HRR.out.1])
          generalize hW3 : World.alloc _ _ = W3
          have hx3 := show BoxAt W3 w7.heap.size 64 [.int .i64 x.a, .int .i64 x.b, .int .i64 x.c] by rw [← hW3]; exact BoxAt.new _ _ _ _ _ rfl rfl
          have hb3 : Below w7.heap.size w7 W3 := by rw [← hW3]; exact (Below.refl _ _).alloc (Nat.le_refl _) _
          have HX3 := hid hx3
          have hw7 := HB7.out.size
          have HB3 := hid (show Below W1.heap.size W1 W3 from (HB2.out.trans (HB7.out.mono (by omega))).trans (hb3.mono (by omega)))
          clear hW3 hx3 hb3 i0 i1 i2 i3 iz
          go_loopw [13, 3] (fun iv sv wr => ∃ (j : Nat) (S3 : ByteArray), j ≤ 3 ∧ iv = .int .i64 j ∧ sv = .string S3 ∧ bl S3 = bl S2 ++ Lib.joinTail [32] (opdN x j) ∧ Below W3.heap.size W3 wr) (fun iv _ _ => 3 - (intOf iv).toNat)
          case atStart => exact ⟨0, S2, by omega, rfl, rfl, by simp [opdN, Lib.joinTail], Below.refl _ _⟩
          case round =>
          obtain ⟨j, S3, hj, rfl, rfl, hS3, hbl⟩ := hrel
          obtain ⟨w8, hw8⟩ : ∃ w8, w8 = wr := ⟨_, rfl⟩
          subst hw8
          have HS3 := hid hS3
          have HB3l := hid hbl
          have hx3 := HX3.out.below hbl
          have v0 := hx3.cell 0 _ rfl
          have v1 := hx3.cell 1 _ rfl
          have v2 := hx3.cell 2 _ rfl
          have vz := hx3.lt
          have hw3s := hbl.size
          have hS3z : S3.size ≤ 140737488355328 + 50 + 66 := by
            have h1 := opdN_le x HIW.out j
            rw [bl_size, hS3, List.length_append, ← bl_size]
            omega
          clear hS3 hbl hx3
          have hj4 : j = 0 ∨ j = 1 ∨ j = 2 ∨ j = 3 := by omega
          rcases hj4 with rfl | rfl | rfl | rfl
          · rw [show ((0 : Nat) : Int) = 0 from rfl]
            have HJ := hid (opdN_succ x 0 (by decide))
            cases hd : (roleC x.op 0 == 45) with
            | true =>
              have hq : (((r0.toNat : Nat) : Int) != 45) = false := by have h := HRR.out.2; rw [bne, h.1, hd]; rfl
              have hq2 : (((((⟨#[r0, r1, r2]⟩ : ByteArray)[0]'(by show 0 < 3; decide)).toNat : Nat) : Int) != 45) = false := hq
              have HD := hid hd
              clear hd
              go_wp2_with fail
              go_roundw
              case rel => exact ⟨1, S3, by omega, by go_num, rfl, by rw [HS3.out, HJ.out, opdT_yes _ _ HD.out, List.append_nil], HB3l.out⟩
              case measure => simp [intOf] <;> omega
            | false =>
              have hq : (((r0.toNat : Nat) : Int) != 45) = true := by have h := HRR.out.2; rw [bne, h.1, hd]; rfl
              have hq2 : (((((⟨#[r0, r1, r2]⟩ : ByteArray)[0]'(by show 0 < 3; decide)).toNat : Nat) : Int) != 45) = true := hq
              have HD := hid hd
              have hit := Lib.itoa_length_le x.a HIW.out.a.1 HIW.out.a.2
              have hs1 : ¬ (9223372036854775807 < 1 + (Lib.itoa x.a).length) := by omega
              have hs2 : ¬ (9223372036854775807 < S3.size + (1 + (Lib.itoa x.a).length)) := by omega
              clear hd
              go_wp2_with (
                go_at_call 27
                refine (rnum_calls x.a HIW.out.a _).mono ?_
                rintro e w9 ⟨rfl, hb9⟩
                have HB9 := hid hb9
                clear hb9)
              go_roundw
              case rel =>
                refine ⟨1, _, by omega, by go_num, rfl, ?_, HB3l.out.trans (HB9.out.mono hw3s)⟩
                rw [HJ.out, opdT_no _ _ HD.out, bl_append, bl_append, bl_mk (Lib.itoa x.a), HS3.out, List.append_assoc]
                rfl
              case measure => simp [intOf] <;> omega
          · rw [show ((1 : Nat) : Int) = 1 from rfl]
            have HJ := hid (opdN_succ x 1 (by decide))
            cases hd : (roleC x.op 1 == 45) with
            | true =>
              have hq : (((r1.toNat : Nat) : Int) != 45) = false := by have h := HRR.out.2; rw [bne, h.2.1, hd]; rfl
              have hq2 : (((((⟨#[r0, r1, r2]⟩ : ByteArray)[1]'(by show 1 < 3; decide)).toNat : Nat) : Int) != 45) = false := hq
              have HD := hid hd
              clear hd
              go_wp2_with fail
              go_roundw
              case rel => exact ⟨2, S3, by omega, by go_num, rfl, by rw [HS3.out, HJ.out, opdT_yes _ _ HD.out, List.append_nil], HB3l.out⟩
              case measure => simp [intOf] <;> omega
            | false =>
              have hq : (((r1.toNat : Nat) : Int) != 45) = true := by have h := HRR.out.2; rw [bne, h.2.1, hd]; rfl
              have hq2 : (((((⟨#[r0, r1, r2]⟩ : ByteArray)[1]'(by show 1 < 3; decide)).toNat : Nat) : Int) != 45) = true := hq
              have HD := hid hd
              have hit := Lib.itoa_length_le x.b HIW.out.b.1 HIW.out.b.2
              have hs1 : ¬ (9223372036854775807 < 1 + (Lib.itoa x.b).length) := by omega
              have hs2 : ¬ (9223372036854775807 < S3.size + (1 + (Lib.itoa x.b).length)) := by omega
              clear hd
              go_wp2_with (
                go_at_call 27
                refine (rnum_calls x.b HIW.out.b _).mono ?_
                rintro e w9 ⟨rfl, hb9⟩
                have HB9 := hid hb9
                clear hb9)
              go_roundw
              case rel =>
                refine ⟨2, _, by omega, by go_num, rfl, ?_, HB3l.out.trans (HB9.out.mono hw3s)⟩
                rw [HJ.out, opdT_no _ _ HD.out, bl_append, bl_append, bl_mk (Lib.itoa x.b), HS3.out, List.append_assoc]
                rfl
              case measure => simp [intOf] <;> omega
          · rw [show ((2 : Nat) : Int) = 2 from rfl]
            have HJ := hid (opdN_succ x 2 (by decide))
            cases hd : (roleC x.op 2 == 45) with
            | true =>
              have hq : (((r2.toNat : Nat) : Int) != 45) = false := by have h := HRR.out.2; rw [bne, h.2.2, hd]; rfl
              have hq2 : (((((⟨#[r0, r1, r2]⟩ : ByteArray)[2]'(by show 2 < 3; decide)).toNat : Nat) : Int) != 45) = false := hq
              have HD := hid hd
              clear hd
              go_wp2_with fail
              go_roundw
              case rel => exact ⟨3, S3, by omega, by go_num, rfl, by rw [HS3.out, HJ.out, opdT_yes _ _ HD.out, List.append_nil], HB3l.out⟩
              case measure => simp [intOf] <;> omega
            | false =>
              have hq : (((r2.toNat : Nat) : Int) != 45) = true := by have h := HRR.out.2; rw [bne, h.2.2, hd]; rfl
              have hq2 : (((((⟨#[r0, r1, r2]⟩ : ByteArray)[2]'(by show 2 < 3; decide)).toNat : Nat) : Int) != 45) = true := hq
              have HD := hid hd
              have hit := Lib.itoa_length_le x.c HIW.out.c.1 HIW.out.c.2
              have hs1 : ¬ (9223372036854775807 < 1 + (Lib.itoa x.c).length) := by omega
              have hs2 : ¬ (9223372036854775807 < S3.size + (1 + (Lib.itoa x.c).length)) := by omega
              clear hd
              go_wp2_with (
                go_at_call 27
                refine (rnum_calls x.c HIW.out.c _).mono ?_
                rintro e w9 ⟨rfl, hb9⟩
                have HB9 := hid hb9
                clear hb9)
              go_roundw
              case rel =>
                refine ⟨3, _, by omega, by go_num, rfl, ?_, HB3l.out.trans (HB9.out.mono hw3s)⟩
                rw [HJ.out, opdT_no _ _ HD.out, bl_append, bl_append, bl_mk (Lib.itoa x.c), HS3.out, List.append_assoc]
                rfl
              case measure => simp [intOf] <;> omega
          · rw [show ((3 : Nat) : Int) = 3 from rfl]
            have hs1 : ¬ (9223372036854775807 < S3.size + 1) := by omega
            go_wp2_with fail
            go_roundw
            case rel =>
              refine ⟨m + 1, _, by omega, by go_num, rfl, ?_, HB3.out.trans (HB3l.out.mono HB3.out.size)⟩
              rw [HCS.out, bl_append, HS3.out, HS2.out, HS'.out]
              show _ = _ ++ (_ ++ lineB ((9 :: Lib.itoa (m : Nat)) :: bl (wordC x.op) :: opds x))
              rw [lineB_cons, joinTail_one, HN.out]
              show _ ++ Lib.joinTail [32] (opds x) ++ [10] = _
              simp [List.append_assoc]
            case measure => simp [intOf] <;> omega
        · have hmm : m = f.code.length := by omega
          have hmt3 : ¬ ((m : Int) < f.code.length) := by omega
          clear hbw
          go_wp2_with fail
          go_roundw
          case rel =>
            refine ⟨k + 1, _, by omega, by go_num, rfl, ?_, HB1.out.trans (HBL'.out.mono (by have := HBL.out.size; omega))⟩
            rw [HL.out, HS'.out, HS1.out, HS.out, hmm]
            show _ = _ ++ (_ ++ ((headT f :: codeT 0 f.code).flatMap lineB))
            rw [List.flatMap_cons, show (codeT 0 f.code).take f.code.length = codeT 0 f.code by rw [← codeT_len 0 f.code]; exact List.take_length]
            simp only [List.append_assoc]
          case measure => simp [intOf] <;> omega
      · have hke : k = p.funcs.length := by omega
        have HE := hid (show bl S = textL p by rw [HTL.out, HS.out, hke, List.take_length])
        clear hke
        go_wp2_with fail
        go_ret
        exact ⟨congrArg (fun b => Ending.returned (.string b)) (by rw [← HE.out]; exact (mk_bl S).symm), bvia HBW.out HBL.out⟩

end Go.Proofs.YtihcngjkflaelaaGreatDoor
