/-
  The program's disassembly, walked.
-/
import Derived.Test.YtihcngjkflaelaaGreatDoorZDescr
import Derived.Test.YtihcngjkflaelaaGreatDoorZBcell
import Derived.Test.YtihcngjkflaelaaGreatDoorZChain
import Derived.Test.YtihcngjkflaelaaGreatDoorZBox
import Derived.Test.YtihcngjkflaelaaGreatDoorZOwnP
import Derived.Test.YtihcngjkflaelaaGreatDoorZCat9
import Derived.Test.YtihcngjkflaelaaGreatDoorZLine9
namespace Go.Proofs.YtihcngjkflaelaaGreatDoor
set_option linter.unusedVariables false
set_option linter.unusedSimpArgs false
open Go.RowKit

/-- A row of texts. -/
def strE9 : Enc ByteArray := ⟨1, fun x => [.string x], fun _ => rfl, by simp [Value.oneCell'], by decide⟩
abbrev TabOk (w : World) : Prop := Lib.TabBelow Tryz.prog w.heap.size w "internal/strconv.uint64pow10" .u64 Lib.pow10Tab
theorem itoa_calls (n : Int) (h : I64 n) (w0 w : World) (ht : TabOk w0) (hb : Below w0.heap.size w0 w) : Calls Tryz.prog 24 #[.int .i64 n] w fun e w' => e = .returned (.string ⟨(Lib.itoa n).toArray⟩) ∧ Below w.heap.size w w' := by
  refine (Tryz.strconv_Itoa n h.1 h.2 w (ht w hb)).mono ?_
  rintro e w' ⟨he, k, os, rfl⟩
  exact ⟨he, Lib.below_grow _ _ (Nat.le_refl _) k os⟩
/-- The line of the words ts, which lie in a row of the call's own. -/
theorem line_own (B b base : Nat) (acc : List UInt8) (ts : List ByteArray) (v : Value) (w : World) (hb : BldAt B b acc w) (ho : OwnE strE9 base 9 w v ts) (h0 : 0 < ts.length) (hN : ts.length ≤ 1000) (hBw : B ≤ w.heap.size)
    (hlen : (acc ++ lineB (ts.map bl)).length ≤ 140737488355328) :
    Calls Tryz.prog 20 #[v, .pointer (some ⟨b, 0, none⟩)] w fun e w' => e = .returned (.tuple #[]) ∧ BldAt B b (acc ++ lineB (ts.map bl)) w' ∧ Below B w w' ∧ Lib.OthersKept 5 (some b) w w' := by
  obtain ⟨g, cap, rfl, l1, l2⟩ := ho.open h0
  obtain ⟨a, c, b', o, hv, _, hp, hc, h1, _, _⟩ := ho.sl (lo := 0) (Nat.zero_le _) (by omega)
  obtain ⟨e1, _, e2⟩ := Value.slice.inj hv
  refine line_calls B b acc ts g 0 cap w hb (fun j x hj => ?_) l2 hN (by rw [e2]; exact h1) hBw hlen
  have hjl : j < ts.length := (List.getElem?_eq_some_iff.1 hj).1
  have h := ho.cellAt j 0 hjl (by decide)
  have hx : nth ts j = x := by rw [nth_eq _ _ hjl]; rw [List.getElem?_eq_getElem hjl] at hj; exact Option.some.inj hj
  rw [hx] at h
  have h2 : w.cell? ⟨g, j * 1 + 0, none⟩ = some (.string x) := h
  rw [show 0 + j = j * 1 + 0 by omega]
  exact h2

theorem box_kept {w w' : World} {k b : Nat} {t : TypeId} {vs : List Value} (h : BoxAt w k t vs) (ho : Lib.OthersKept 5 (some b) w w') (hk : k ≠ b) (ht : t ≠ 5) : BoxAt w' k t vs :=
  ho k _ h (by simpa using hk) (fun c fz e => ht (by injection e))
/-- What a region with a line in it keeps. -/
def Kps (b : Nat) (w w' : World) : Prop := Below b w w' ∧ Lib.OthersKept 5 (some b) w w'
theorem Kps.below {b : Nat} {w w1 w2 : World} (h : Kps b w w1) (hb : Below w1.heap.size w1 w2) (hs : b ≤ w1.heap.size) : Kps b w w2 := ⟨h.1.trans (hb.mono hs), h.2.trans (kept_below hb)⟩

theorem infoStr9 : (Tryz.prog.info? 9).map (fun i => (i.zero, i.size, i.bytes)) = some (some (.string ⟨#[]⟩), 1, 16) := by kernel_rfl
/-- A numeral as a text. -/
def itB (x : Int) : ByteArray := ⟨(Lib.itoa x).toArray⟩
theorem itB_map (l : List Int) : (l.map itB).map bl = l.map Lib.itoa := by
  rw [List.map_map]
  exact List.map_congr_left fun x _ => bl_mk (Lib.itoa x)
theorem itB_take (r : List Int) (m : Nat) (h : m < r.length) : (r.take (m + 1)).map itB = (r.take m).map itB ++ [itB (nth r m)] := by
  rw [List.take_add_one, List.getElem?_eq_getElem h, ← nth_eq _ _ h, List.map_append]; rfl
def opdTB (r v : Int) : List ByteArray := if r = 45 then [] else [itB v]
def opdNB (x : Ins) : Nat → List ByteArray
  | 0 => []
  | 1 => opdTB (roleC x.op 0) x.a
  | 2 => opdTB (roleC x.op 0) x.a ++ opdTB (roleC x.op 1) x.b
  | _ => (opdTB (roleC x.op 0) x.a ++ opdTB (roleC x.op 1) x.b) ++ opdTB (roleC x.op 2) x.c
theorem opdTB_map (r v : Int) : (opdTB r v).map bl = opdT r v := by
  unfold opdTB opdT
  split
  · rfl
  · rw [List.map_cons, itB, bl_mk]; rfl
theorem opdNB_map (x : Ins) : (opdNB x 3).map bl = opds x := by
  show ((opdTB (roleC x.op 0) x.a ++ opdTB (roleC x.op 1) x.b) ++ opdTB (roleC x.op 2) x.c).map bl = _
  rw [List.map_append, List.map_append, opdTB_map, opdTB_map, opdTB_map, opds, List.append_assoc]
theorem opdTB_yes (r v : Int) (h : (r == 45) = true) : opdTB r v = [] := if_pos (by simpa using h)
theorem opdTB_no (r v : Int) (h : (r == 45) = false) : opdTB r v = [itB v] := if_neg (by simpa using h)
theorem opdTB_le (r v : Int) : (opdTB r v).length ≤ 1 := by unfold opdTB; split <;> simp
theorem opdNB_le (x : Ins) (j : Nat) : (opdNB x j).length ≤ 3 := by
  have h0 := opdTB_le (roleC x.op 0) x.a
  have h1 := opdTB_le (roleC x.op 1) x.b
  have h2 := opdTB_le (roleC x.op 2) x.c
  match j with
  | 0 => simp [opdNB]
  | 1 => show (opdTB _ _).length ≤ 3; omega
  | 2 => show (opdTB _ _ ++ opdTB _ _).length ≤ 3; rw [List.length_append]; omega
  | j + 3 => show ((opdTB _ _ ++ opdTB _ _) ++ opdTB _ _).length ≤ 3; rw [List.length_append, List.length_append]; omega
noncomputable def planTX6 : Plan := mkPlan (regionOf Tryz.f7 6) [(5, .new), (6, .new), (7, .new)] []
noncomputable def planTX22 : Plan := mkPlan (regionOf Tryz.f7 22) [(5, .new), (8, .new), (9, .new), (10, .new)] []
noncomputable def planTX28 : Plan := mkPlan (regionOf Tryz.f7 28) [(1, .new), (5, .new)] []

set_option maxRecDepth 100000 in
set_option maxHeartbeats 8000000 in
theorem text_calls (lo : Nat) (vf vg vl : Value) (p : Prg) (w : World) (hp : ProgAt lo w vf vg vl p) (hwf : PrgWf p) (hv : validB p = true) (hT : (textL p).length ≤ 140737488355328) (htab : TabOk w) :
    Calls Tryz.prog 7 #[.agg #[vf, vg, vl, .int .i64 p.main]] w fun e w' => e = .returned (.string ⟨(textL p).toArray⟩) ∧ Below w.heap.size w w' := by
  have HP := hid hp
  have HV := hid hv
  have HWF := hid hwf
  have HT := hid hT
  have HTAB := hid htab
  obtain ⟨zg, zl, zr⟩ := valid_sizes9 hv
  have zf := (valid_pos hv).2
  have HZR := hid zr
  obtain ⟨fa, fc, fb, fo, FS, rfl, fp, f0, f1, f2, f3, fcode, fbl, -, -, -⟩ := hp.funcs.open
  obtain ⟨ga, gc, gb, go, rfl, gp, g0, g1, gbl, -, -, -⟩ := hp.globs.open
  obtain ⟨la, lc, lb, lo', LS, rfl, lp, l0, li, lbl, -, -, -⟩ := hp.lays.open
  have HFQ := hid (And.intro fp (And.intro f0 (And.intro f1 (And.intro f2 (And.intro f3 (And.intro fcode fbl))))))
  have HGQ := hid (And.intro gp (And.intro g0 (And.intro g1 gbl)))
  have HLQ := hid (And.intro lp (And.intro l0 (And.intro li lbl)))
  clear zr hp hv hwf hT htab fp f0 f1 f2 f3 fcode fbl gp g0 g1 gbl lp l0 li lbl
  go_enter Tryz.func7, Tryz.ntmps7
  go_wp2_with fail
  obtain ⟨b, hb⟩ : ∃ b, b = w.heap.size + 1 := ⟨_, rfl⟩
  have HBB := hid hb
  rw [← hb]
  generalize hW : World.alloc _ _ = W
  have hbx := show BoxAt W w.heap.size 26 [.slice fa p.funcs.length fc, .slice ga p.globals.length gc, .slice la p.layouts.length lc, .int .i64 p.main] by rw [← hW]; exact (BoxAt.new w _ _ _ _ rfl rfl).alloc _
  have hbW : Below w.heap.size w W := by rw [← hW]; exact ((Below.refl _ _).alloc (Nat.le_refl _) _).alloc (by simp) _
  have hbd : BldAt b b [] W := .inl ⟨Nat.le_refl _, .slice none 0 0, (show BoxAt W b 50 [.pointer none, .slice none 0 0] by rw [← hW, hb]; exact BoxAt.new _ _ _ _ _ (by simp) rfl), World.ownsRowF_nil _ _ _ _, by simp [Value.ownBlock]⟩
  have HBX := hid hbx
  have HBW := hid hbW
  have HBD := hid hbd
  have hWs : b + 1 ≤ W.heap.size := by rw [← hW, hb]; simp
  have hwb : w.heap.size ≤ b := by omega
  have hwb1 : w.heap.size < b := by omega
  clear hW hbx hbW hbd hb
  go_loopw [25] (fun iv wr => ∃ (k : Nat), k ≤ p.globals.length ∧ iv = .int .i64 k ∧ BldAt b b ((p.globals.take k).flatMap (fun g => lineB (globT g))) wr ∧ Below b W wr) (fun iv _ => p.globals.length - (intOf iv).toNat)
  case atStart => exact ⟨0, Nat.zero_le _, rfl, HBD.out, Below.refl _ _⟩
  case round =>
  obtain ⟨k, hk, rfl, hbd, hbl⟩ := hrel
  obtain ⟨wo, hwo⟩ : ∃ wo, wo = wr := ⟨_, rfl⟩
  subst hwo
  have HBD1 := hid hbd
  have HBL := hid hbl
  have hwos := hbl.size
  have hbw := HBW.out.trans (hbl.mono hwb)
  clear hbd hbl
  by_cases hlt : k < p.globals.length
  · have hlt2 : (k : Int) < p.globals.length := Int.ofNat_lt.2 hlt
    have hki : ¬ ((k : Int) < 0) := by omega
    obtain ⟨gp, g0, g1, gbl⟩ := HGQ.out
    obtain rfl := (gp (by omega))
    have gl := gbl (by omega)
    have y0 := (hbw.cell (p := ⟨gb, _, none⟩) gl).trans (g0 k hlt)
    have y1 := (hbw.cell (p := ⟨gb, _, none⟩) gl).trans (g1 k hlt)
    have gl2 : gb < wo.heap.size := Nat.lt_of_lt_of_le gl hbw.size
    have hgw := HWF.out.glob _ (nth_mem p.globals k hlt)
    have HL := hid (take_flat_succ (fun g => lineB (globT g)) p.globals k hlt)
    have HLN := hid (show ((p.globals.take (k + 1)).flatMap (fun g => lineB (globT g))).length ≤ 140737488355328 by
      refine Nat.le_trans (take_flat _ _ _) (Nat.le_trans ?_ HT.out)
      unfold textL linesP
      rw [List.flatMap_append, List.flatMap_map, List.length_append]
      exact Nat.le_add_right _ _)
    obtain ⟨g, hg⟩ : ∃ g, nth p.globals k = g := ⟨_, rfl⟩
    rw [hg] at y0 y1 hgw HL
    have HK := hid hgw.2
    have HBW2 := hid hbw
    clear gp g0 g1 gbl hbw hg hgw
    go_wp2_with fail
    generalize hW1 : World.alloc wo _ = W1
    have hx1 : BoxAt W1 wo.heap.size 45 [.string g.name, .int .i64 g.kind] := by rw [← hW1]; exact BoxAt.new wo _ _ _ _ rfl rfl
    have hb1 : Below wo.heap.size wo W1 := by rw [← hW1]; exact (Below.refl _ _).alloc (Nat.le_refl _) _
    have q0 := hx1.cell 0 _ rfl
    have q1 := hx1.cell 1 _ rfl
    have qz := hx1.lt
    have HB1 := hid hb1
    have HD1 := hid (bld_below HBD1.out hb1)
    have hW1s := hb1.size
    have hx1' := hx1
    clear hW1 hx1 hb1 y0 y1 gl gl2
    have HX1 := hid hx1'
    have HG := hid (show ∀ w', Kps b W1 w' → w'.cell? ⟨wo.heap.size, 0, none⟩ = some (.string g.name) ∧ w'.cell? ⟨wo.heap.size, 1, none⟩ = some (.int .i64 g.kind) from fun w' hw => by
      have h := box_kept hx1' hw.2 (by omega) (by decide)
      exact ⟨h.cell 0 _ rfl, h.cell 1 _ rfl⟩)
    refine Plan.wp_chainG planTX6 (Kps b W1) ⟨(Below.refl _ _).drew, (Lib.OthersKept.refl _ _ _).drew⟩ (by kernel_rfl) rfl (by kernel_rfl) (by kernel_rfl) ?_
    repeat (first | (apply Plan.chain_skip rfl rfl; simp only [Act.put, List.setIfInBounds_toArray, List.set_cons_zero, List.set_cons_succ]) | (apply Plan.chain_det rfl rfl; (· intro w' hb; obtain ⟨hcl, hG⟩ := HG.out w' hb; go_simp; rfl); simp only [Act.put, List.setIfInBounds_toArray, List.set_cons_zero, List.set_cons_succ]))
    refine Plan.chain_call 24 #[.int .i64 g.kind] (fun v w' => v = .string ⟨(Lib.itoa g.kind).toArray⟩ ∧ Below W1.heap.size W1 w') rfl rfl rfl (by go_simp) ?_ (fun v w' h => ⟨h.2.mono (by omega), kept_below h.2⟩) (fun va w4 h => ?_)
    · refine (itoa_calls g.kind HK.out w W1.drew HTAB.out ((HBW2.out.trans (HB1.out.mono HBW2.out.size)).drew)).mono ?_
      rintro e w' ⟨rfl, hb⟩
      exact ⟨_, rfl, rfl, (Below.refl _ _).drew.trans hb⟩
    obtain ⟨rfl, hb4⟩ := h
    simp only [Act.put, List.setIfInBounds_toArray, List.set_cons_zero, List.set_cons_succ]
    have HB4 := hid hb4
    have hw4s := hb4.size
    clear hb4
    have hb5 : Below w4.heap.size w4 (w4.alloc (.cells #[.string ⟨#[103, 108, 111, 98, 97, 108]⟩, .string g.name, .string ⟨(Lib.itoa g.kind).toArray⟩] 9)) := (Below.refl _ _).alloc (Nat.le_refl _) _
    have HB5 := hid (HB4.out.trans (hb5.mono hw4s))
    have HO5 := hid (OwnE.lit strE9 w4 b 9 [⟨#[103, 108, 111, 98, 97, 108]⟩, g.name, ⟨(Lib.itoa g.kind).toArray⟩] #[.string ⟨#[103, 108, 111, 98, 97, 108]⟩, .string g.name, .string ⟨(Lib.itoa g.kind).toArray⟩] w4.heap.size 3 rfl (by omega) rfl rfl (by simp))
    clear hb5
    refine Plan.chain_run (.slice (some ⟨w4.heap.size, 0, none⟩) 3 3) (w4.alloc (.cells #[.string ⟨#[103, 108, 111, 98, 97, 108]⟩, .string g.name, .string ⟨(Lib.itoa g.kind).toArray⟩] 9)) rfl rfl rfl (by go_simp) ⟨HB5.out.mono (by omega), kept_below HB5.out⟩ ?_
    simp only [Act.put, List.setIfInBounds_toArray, List.set_cons_zero, List.set_cons_succ]
    generalize hw5 : w4.alloc _ = w5 at *
    refine Plan.chain_call 20 #[.slice (some ⟨w4.heap.size, 0, none⟩) 3 3, .pointer (some ⟨b, 0, none⟩)] (fun v w' => v = .tuple #[] ∧ BldAt b b ((p.globals.take (k + 1)).flatMap (fun g => lineB (globT g))) w' ∧ Kps b W1 w') rfl rfl rfl (by go_simp) ?_ (fun v w' h => h.2.2) (fun va w6 h => ?_)
    · have hl := HL.out
      have hln := HLN.out
      rw [hl] at hln ⊢
      have e : globT g = ([⟨#[103, 108, 111, 98, 97, 108]⟩, g.name, ⟨(Lib.itoa g.kind).toArray⟩] : List ByteArray).map bl := by
        simp only [List.map_cons, List.map_nil, bl_mk]; rfl
      simp only [e] at hln ⊢
      refine (line_own b b b _ _ _ w5 (bld_below HD1.out HB5.out) HO5.out (by simp) (by simp) (by have := HB5.out.size; omega) hln).mono ?_
      rintro e' w' ⟨rfl, h1, h2, h3⟩
      exact ⟨_, rfl, rfl, h1, (HB5.out.mono (by omega)).trans h2, (kept_below HB5.out).trans h3⟩
    obtain ⟨rfl, hd6, hk6⟩ := h
    simp only [Act.put, List.setIfInBounds_toArray, List.set_cons_zero, List.set_cons_succ]
    refine Plan.chain_nil ?_
    have HD6 := hid hd6
    have HK6 := hid hk6
    clear hd6 hk6
    go_wp2_with fail
    go_roundw
    case rel => exact ⟨k + 1, by omega, by go_num, HD6.out, (HBL.out.trans (HB1.out.mono (by omega))).trans HK6.out.1⟩
    case measure => simp [intOf] <;> omega
  · have hke : k = p.globals.length := by omega
    subst hke
    have hlt3 : ¬ ((p.globals.length : Int) < p.globals.length) := by omega
    obtain ⟨GL, hGL⟩ : ∃ GL, p.globals.flatMap (fun g => lineB (globT g)) = GL := ⟨_, rfl⟩
    have hD := HBD1.out
    rw [List.take_length, hGL] at hD
    have HD := hid hD
    have HTT := hid (show (textL p).length = GL.length + ((p.layouts.flatMap (fun r => lineB (layT r))).length + (p.funcs.flatMap (fun f => (funT f).flatMap lineB)).length) by
      unfold textL linesP
      rw [List.flatMap_append, List.flatMap_append, List.flatMap_map, List.flatMap_map, List.length_append, List.length_append, hGL, List.flatMap_assoc])
    have HGL := hid hGL
    have hbx := HBX.out.ofBlock (HBL.out.block _ (by omega))
    have c2 := hbx.cell 2 _ rfl
    have cz := hbx.lt
    clear hGL hD hbx hbw
    go_wp2_with fail
    go_loopw [41] (fun iv wr => ∃ (k : Nat), k ≤ p.layouts.length ∧ iv = .int .i64 k ∧ BldAt b b (GL ++ (p.layouts.take k).flatMap (fun r => lineB (layT r))) wr ∧ Below b W wr) (fun iv _ => p.layouts.length - (intOf iv).toNat)
    case atStart => exact ⟨0, Nat.zero_le _, rfl, by simpa using HD.out, HBL.out⟩
    case round =>
    clear c2 cz HBD1 HBL HD hwos
    obtain ⟨k, hk, rfl, hbd, hbl⟩ := hrel
    obtain ⟨wo, hwo⟩ : ∃ wo, wo = wr := ⟨_, rfl⟩
    subst hwo
    have HBD1 := hid hbd
    have HBL := hid hbl
    have hwos := hbl.size
    have hbw := HBW.out.trans (hbl.mono hwb)
    clear hbd hbl
    by_cases hlt : k < p.layouts.length
    · have hlt2 : (k : Int) < p.layouts.length := Int.ofNat_lt.2 hlt
      have hki : ¬ ((k : Int) < 0) := by omega
      obtain ⟨lp, l0, li, lbl⟩ := HLQ.out
      obtain rfl := (lp (by omega))
      have gl := lbl (by omega)
      have y0 := (hbw.cell (p := ⟨lb, _, none⟩) gl).trans (l0 k hlt)
      have gl2 : lb < wo.heap.size := Nat.lt_of_lt_of_le gl hbw.size
      have HLK := hid (li k hlt)
      have HL := hid (take_flat_succ (fun r => lineB (layT r)) p.layouts k hlt)
      have HLN := hid (show (GL ++ (p.layouts.take (k + 1)).flatMap (fun r => lineB (layT r))).length ≤ 140737488355328 by
        have h1 := HT.out
        have h2 := HTT.out
        have h3 := take_flat (fun r => lineB (layT r)) p.layouts (k + 1)
        rw [List.length_append]
        omega)
      obtain ⟨row, hrow⟩ : ∃ row, nth p.layouts k = row := ⟨_, rfl⟩
      have hr64 := HZR.out _ (nth_mem p.layouts k hlt)
      have hrw := (HWF.out.lay _ (nth_mem p.layouts k hlt)).2
      rw [hrow] at y0 HLK HL hr64 hrw
      have HRW := hid hrw
      obtain ⟨ra, rc, rb, ro, hre, rp, rcell, rlt, -⟩ := HLK.out.open
      obtain ⟨e1, -, e2⟩ := Value.slice.inj hre
      rw [e1, e2] at y0
      have HRE := hid (And.intro rp (And.intro rcell rlt))
      have HBW2 := hid hbw
      clear lp l0 li lbl hrow hrw hre rp rcell rlt e1 e2 hbw
      go_wp2_with fail
      generalize hw1 : World.alloc wo _ = w1
      have HO1 := hid (show OwnE strE9 wo.heap.size 9 w1 (.slice (some ⟨wo.heap.size, 0, none⟩) 1 1) (⟨#[108, 97, 121, 111, 117, 116]⟩ :: (row.take 0).map itB) by
        rw [← hw1]; exact OwnE.lit strE9 wo _ 9 [⟨#[108, 97, 121, 111, 117, 116]⟩] _ wo.heap.size 1 rfl (Nat.le_refl _) rfl rfl (by simp))
      have hb1 : Below wo.heap.size wo w1 := by rw [← hw1]; exact (Below.refl _ _).alloc (Nat.le_refl _) _
      have HB1 := hid hb1
      have hw1s : wo.heap.size + 1 ≤ w1.heap.size := by rw [← hw1]; simp
      clear hw1 hb1 y0 gl gl2
      go_loopw [48, 9] (fun iv pv wr => ∃ (m g c : Nat), m ≤ row.length ∧ iv = .int .i64 m ∧ pv = .slice (some ⟨g, 0, none⟩) (m + 1) c ∧ OwnE strE9 wo.heap.size 9 wr (.slice (some ⟨g, 0, none⟩) (m + 1) c) (⟨#[108, 97, 121, 111, 117, 116]⟩ :: (row.take m).map itB) ∧ Below wo.heap.size wo wr) (fun iv _ _ => row.length - (intOf iv).toNat)
      case atStart => exact ⟨0, wo.heap.size, 1, Nat.zero_le _, rfl, rfl, HO1.out, HB1.out⟩
      case round =>
      obtain ⟨m, g, cp, hm, rfl, rfl, hown, hbl⟩ := hrel
      obtain ⟨wi, hwi⟩ : ∃ wi, wi = wr := ⟨_, rfl⟩
      subst hwi
      have HOWN := hid hown
      have HBL' := hid hbl
      have hwis := hbl.size
      clear hown hbl
      by_cases hmt : m < row.length
      · have hmt2 : (m : Int) < row.length := Int.ofNat_lt.2 hmt
        have hmi : ¬ ((m : Int) < 0) := by omega
        obtain ⟨rp, rcell, rlt⟩ := HRE.out
        obtain rfl := rp (by omega)
        have rl := rlt (by omega)
        have hbwi := HBW2.out.trans (HBL'.out.mono HBW2.out.size)
        have x0 := (hbwi.cell (p := ⟨rb, _, none⟩) rl).trans (rcell m hmt)
        have rl2 : rb < wi.heap.size := Nat.lt_of_lt_of_le rl hbwi.size
        have HVI := hid (HRW.out _ (nth_mem row m hmt))
        have HBWI := hid hbwi
        have hml : ((row.take m).map itB).length = m := by rw [List.length_map, List.length_take]; omega
        have HML := hid hml
        clear rp rcell rlt hbwi hml
        go_wp2_with (first
          | (go_at_call 24
             refine (itoa_calls (nth row m) HVI.out w wi HTAB.out HBWI.out).mono ?_
             rintro e w4 ⟨rfl, hb4⟩
             have HB4 := hid hb4
             clear hb4)
          | (at_builtin
             go_loud (refine wpList_append_one strE9 (o := ⟨some 56, _, _, _, _, _⟩) rfl (.tmp 52) (.tmp 55) 51 rfl wo.heap.size 0 9 _ 16 Tryz.underlying51 infoStr9 rfl (⟨#[108, 97, 121, 111, 117, 116]⟩ :: (row.take m).map itB) (itB (nth row m)) ((OwnE.fresh HOWN.out (Only.below HB4.out none)).alloc _) ((OwnE.lit strE9 _ 0 9 [itB (nth row m)] #[.string ⟨(Lib.itoa (nth row m)).toArray⟩] w4.heap.size 1 rfl (Nat.zero_le _) rfl rfl (by simp)).sl (Nat.zero_le _) (by simp)) (by have := HML.out; simp only [List.length_cons]; omega) (by have := HML.out; simp only [List.length_cons, maxLen]; omega) (by have := HB4.out.size; simp; omega) ?_)
             intro g5 c5 w5 ho5 _ _ hb5
             have HO5 := hid ho5
             have HB5 := hid hb5
             clear ho5 hb5))
        refine ⟨⟨m + 1, g5, c5, by omega, by go_num, rfl, ?_, HBL'.out.trans (((HB4.out.mono hwis).alloc (by have := HB4.out.size; omega) _).trans HB5.out)⟩, by simp [intOf] <;> omega⟩
        have h := HO5.out
        simp only [List.length_cons, HML.out] at h
        rw [itB_take row m hmt]
        exact h
      · have hmm : m = row.length := by omega
        have hmt3 : ¬ ((m : Int) < row.length) := by omega
        have hOW := HOWN.out
        rw [hmm, List.take_length] at hOW
        have HOW := hid hOW
        have hl := HL.out
        have hln := HLN.out
        have e : layT row = ((⟨#[108, 97, 121, 111, 117, 116]⟩ : ByteArray) :: row.map itB).map bl := by rw [List.map_cons, itB_map]; rfl
        have hl2 : GL ++ (p.layouts.take (k + 1)).flatMap (fun r => lineB (layT r)) = (GL ++ (p.layouts.take k).flatMap (fun r => lineB (layT r))) ++ lineB (((⟨#[108, 97, 121, 111, 117, 116]⟩ : ByteArray) :: row.map itB).map bl) := by rw [hl, ← e, List.append_assoc]
        have HL2 := hid hl2
        rw [hl2] at hln
        have HLN2 := hid hln
        subst hmm
        clear hOW hl hln e hl2
        go_wp2_with (
          go_at_call 20
          refine (line_own b b wo.heap.size _ _ _ wi (bld_below HBD1.out HBL'.out) HOW.out (by simp) (by simp only [List.length_cons, List.length_map]; omega) (by omega) HLN2.out).mono ?_
          rintro e w6 ⟨rfl, hd6, hl6, -⟩
          have HD6 := hid hd6
          have HL6 := hid hl6
          clear hd6 hl6)
        go_roundw
        case rel => exact ⟨k + 1, by omega, by go_num, by rw [HL2.out]; exact HD6.out, (HBL.out.trans (HBL'.out.mono (by omega))).trans HL6.out⟩
        case measure => simp [intOf] <;> omega
    · have hke : k = p.layouts.length := by omega
      subst hke
      have hlt3 : ¬ ((p.layouts.length : Int) < p.layouts.length) := by omega
      obtain ⟨AL, hAL⟩ : ∃ AL, GL ++ p.layouts.flatMap (fun r => lineB (layT r)) = AL := ⟨_, rfl⟩
      have hD := HBD1.out
      rw [List.take_length, hAL] at hD
      have HD := hid hD
      have HTX := hid (show AL.length + (p.funcs.flatMap (fun f => (funT f).flatMap lineB)).length ≤ 140737488355328 by
        have h1 := HT.out
        have h2 := HTT.out
        rw [← hAL, List.length_append]
        omega)
      have HTL := hid (show textL p = AL ++ p.funcs.flatMap (fun f => (funT f).flatMap lineB) by
        unfold textL linesP
        rw [List.flatMap_append, List.flatMap_append, List.flatMap_map, List.flatMap_map, List.flatMap_assoc, HGL.out, ← hAL, List.append_assoc])
      have hbx := HBX.out.ofBlock (HBL.out.block _ (by omega))
      have c0 := hbx.cell 0 _ rfl
      have cz := hbx.lt
      clear hAL hD hbx hbw
      go_wp2_with fail
      go_loopw [65] (fun iv wr => ∃ (k : Nat), k ≤ p.funcs.length ∧ iv = .int .i64 k ∧ BldAt b b (AL ++ (p.funcs.take k).flatMap (fun f => (funT f).flatMap lineB)) wr ∧ Below b W wr) (fun iv _ => p.funcs.length - (intOf iv).toNat)
      case atStart => exact ⟨0, Nat.zero_le _, rfl, by simpa using HD.out, HBL.out⟩
      case round =>
      clear c0 cz HBD1 HBL HD hwos
      obtain ⟨k, hk, rfl, hbd, hbl⟩ := hrel
      obtain ⟨wo, hwo⟩ : ∃ wo, wo = wr := ⟨_, rfl⟩
      subst hwo
      have HBD1 := hid hbd
      have HBL := hid hbl
      have hwos := hbl.size
      have hbw := HBW.out.trans (hbl.mono hwb)
      clear hbd hbl
      by_cases hlt : k < p.funcs.length
      · have hlt2 : (k : Int) < p.funcs.length := Int.ofNat_lt.2 hlt
        have hki : ¬ ((k : Int) < 0) := by omega
        obtain ⟨fp, f0, f1, f2, f3, fcode, fbl⟩ := HFQ.out
        obtain rfl := (fp (by omega))
        have gl := fbl (by omega)
        have y0 := (hbw.cell (p := ⟨fb, _, none⟩) gl).trans (f0 k hlt)
        have y1 := (hbw.cell (p := ⟨fb, _, none⟩) gl).trans (f1 k hlt)
        have y2 := (hbw.cell (p := ⟨fb, _, none⟩) gl).trans (f2 k hlt)
        have y3 := (hbw.cell (p := ⟨fb, _, none⟩) gl).trans (f3 k hlt)
        have gl2 : fb < wo.heap.size := Nat.lt_of_lt_of_le gl hbw.size
        have hca := fcode k hlt
        have hfw := HWF.out.func _ (nth_mem p.funcs k hlt)
        have hio := ins_ok HV.out k hlt
        have hlen := (fok_of_funcB (valid_func HV.out k hlt)).le
        have hflat := take_flat_succ (fun f => (funT f).flatMap lineB) p.funcs k hlt
        obtain ⟨f, hf⟩ : ∃ f, nth p.funcs k = f := ⟨_, rfl⟩
        rw [hf] at y0 y1 y2 y3 hca hfw hio hlen hflat
        have hfun : (funT f).flatMap lineB = lineB (headT f) ++ (codeT 0 f.code).flatMap lineB := by
          show ((headT f :: codeT 0 f.code).flatMap lineB) = _
          rw [List.flatMap_cons]
        obtain ⟨acc, hacc⟩ : ∃ acc, (AL ++ (p.funcs.take k).flatMap (fun f => (funT f).flatMap lineB)) ++ lineB (headT f) = acc := ⟨_, rfl⟩
        have HSUC := hid (show AL ++ (p.funcs.take (k + 1)).flatMap (fun f => (funT f).flatMap lineB) = acc ++ (codeT 0 f.code).flatMap lineB by
          rw [hflat, hfun, ← hacc]; simp only [List.append_assoc])
        have HSZ := hid (show acc.length + ((codeT 0 f.code).flatMap lineB).length ≤ 140737488355328 by
          have h1 := HTX.out
          have h3 := take_flat (fun f => (funT f).flatMap lineB) p.funcs (k + 1)
          have h4 := congrArg List.length HSUC.out
          rw [List.length_append, List.length_append] at h4
          omega)
        have HACC := hid hacc
        obtain ⟨ca, cc, cb, co, hve, p1, p2, p3, p4, p5, p6, p7, -, -, -⟩ := hca.open
        obtain ⟨e1, -, e2⟩ := Value.slice.inj hve
        rw [e1, e2] at y3
        have HCQ := hid (And.intro p1 (And.intro p2 (And.intro p3 (And.intro p4 (And.intro p5 (And.intro p6 p7))))))
        have HIO := hid hio
        have HFW := hid hfw
        have HBW2 := hid hbw
        clear hve e1 e2 p1 p2 p3 p4 p5 p6 p7 fp f0 f1 f2 f3 fcode fbl hf hio hfw hca hflat hfun hacc hbw
        go_wp2_with fail
        generalize hW1 : World.alloc wo _ = W1
        have hx1 : BoxAt W1 wo.heap.size 37 [.string f.name, .int .i64 f.params, .int .i64 f.regs, .slice ca f.code.length cc] := by rw [← hW1]; exact BoxAt.new wo _ _ _ _ rfl rfl
        have hb1 : Below wo.heap.size wo W1 := by rw [← hW1]; exact (Below.refl _ _).alloc (Nat.le_refl _) _
        have HX1 := hid hx1
        have q0 := hx1.cell 0 _ rfl
        have q1 := hx1.cell 1 _ rfl
        have q2 := hx1.cell 2 _ rfl
        have qz := hx1.lt
        have HB1 := hid hb1
        have HD1 := hid (bld_below HBD1.out hb1)
        have hW1s := hb1.size
        have HG := hid (show ∀ w', Kps b W1 w' → w'.cell? ⟨wo.heap.size, 0, none⟩ = some (.string f.name) ∧ (w'.cell? ⟨wo.heap.size, 1, none⟩ = some (.int .i64 f.params) ∧ w'.cell? ⟨wo.heap.size, 2, none⟩ = some (.int .i64 f.regs)) from fun w' hw => by
          have h := box_kept HX1.out hw.2 (by omega) (by decide)
          exact ⟨h.cell 0 _ rfl, h.cell 1 _ rfl, h.cell 2 _ rfl⟩)
        clear hW1 hx1 hb1 y0 y1 y2 y3 gl gl2
        refine Plan.wp_chainG planTX22 (Kps b W1) ⟨(Below.refl _ _).drew, (Lib.OthersKept.refl _ _ _).drew⟩ (by kernel_rfl) rfl (by kernel_rfl) (by kernel_rfl) ?_
        repeat (first | (apply Plan.chain_skip rfl rfl; simp only [Act.put, List.setIfInBounds_toArray, List.set_cons_zero, List.set_cons_succ]) | (apply Plan.chain_det rfl rfl; (· intro w' hb; obtain ⟨hcl, hG⟩ := HG.out w' hb; go_simp; rfl); simp only [Act.put, List.setIfInBounds_toArray, List.set_cons_zero, List.set_cons_succ]))
        refine Plan.chain_call 24 #[.int .i64 f.params] (fun v w' => v = .string (itB f.params) ∧ Below W1.heap.size W1 w') rfl rfl rfl (by go_simp) ?_ (fun v w' h => ⟨h.2.mono (by omega), kept_below h.2⟩) (fun va w3 h => ?_)
        · refine (itoa_calls f.params HFW.out.params w W1.drew HTAB.out ((HBW2.out.trans (HB1.out.mono HBW2.out.size)).drew)).mono ?_
          rintro e w' ⟨rfl, hb⟩
          exact ⟨_, rfl, rfl, (Below.refl _ _).drew.trans hb⟩
        obtain ⟨rfl, hb3⟩ := h
        simp only [Act.put, List.setIfInBounds_toArray, List.set_cons_zero, List.set_cons_succ]
        have HB3 := hid hb3
        clear hb3
        repeat (first | (apply Plan.chain_skip rfl rfl; simp only [Act.put, List.setIfInBounds_toArray, List.set_cons_zero, List.set_cons_succ]) | (apply Plan.chain_det rfl rfl; (· intro w' hb; obtain ⟨hcl, hG⟩ := HG.out w' hb; go_simp; rfl); simp only [Act.put, List.setIfInBounds_toArray, List.set_cons_zero, List.set_cons_succ]))
        refine Plan.chain_call 24 #[.int .i64 f.regs] (fun v w' => v = .string (itB f.regs) ∧ Below W1.heap.size W1 w') rfl rfl rfl (by go_simp) ?_ (fun v w' h => ⟨h.2.mono (by omega), kept_below h.2⟩) (fun va w4 h => ?_)
        · refine (itoa_calls f.regs HFW.out.regs w w3 HTAB.out ((HBW2.out.trans (HB1.out.mono HBW2.out.size)).trans (HB3.out.mono (by have := HBW2.out.size; omega)))).mono ?_
          rintro e w' ⟨rfl, hb⟩
          exact ⟨_, rfl, rfl, HB3.out.trans (hb.mono HB3.out.size)⟩
        obtain ⟨rfl, hb4⟩ := h
        simp only [Act.put, List.setIfInBounds_toArray, List.set_cons_zero, List.set_cons_succ]
        have HB4 := hid hb4
        have hw4s := hb4.size
        clear hb4
        have hb5 : Below w4.heap.size w4 (w4.alloc (.cells #[.string ⟨#[102, 117, 110, 99]⟩, .string f.name, .string (itB f.params), .string (itB f.regs)] 9)) := (Below.refl _ _).alloc (Nat.le_refl _) _
        have HB5 := hid (HB4.out.trans (hb5.mono hw4s))
        have HO5 := hid (OwnE.lit strE9 w4 b 9 [⟨#[102, 117, 110, 99]⟩, f.name, itB f.params, itB f.regs] #[.string ⟨#[102, 117, 110, 99]⟩, .string f.name, .string (itB f.params), .string (itB f.regs)] w4.heap.size 4 rfl (by omega) rfl rfl (by simp))
        clear hb5
        refine Plan.chain_run (.slice (some ⟨w4.heap.size, 0, none⟩) 4 4) (w4.alloc (.cells #[.string ⟨#[102, 117, 110, 99]⟩, .string f.name, .string (itB f.params), .string (itB f.regs)] 9)) rfl rfl rfl (by go_simp) ⟨HB5.out.mono (by omega), kept_below HB5.out⟩ ?_
        simp only [Act.put, List.setIfInBounds_toArray, List.set_cons_zero, List.set_cons_succ]
        generalize hw5 : w4.alloc _ = w5 at *
        refine Plan.chain_call 20 #[.slice (some ⟨w4.heap.size, 0, none⟩) 4 4, .pointer (some ⟨b, 0, none⟩)] (fun v w' => v = .tuple #[] ∧ BldAt b b acc w' ∧ Kps b W1 w') rfl rfl rfl (by go_simp) ?_ (fun v w' h => h.2.2) (fun va w6 h => ?_)
        · have e : headT f = ([⟨#[102, 117, 110, 99]⟩, f.name, itB f.params, itB f.regs] : List ByteArray).map bl := by
            simp only [List.map_cons, List.map_nil, itB, bl_mk]; rfl
          have hac := HACC.out
          rw [e] at hac
          have hln : ((AL ++ (p.funcs.take k).flatMap (fun f => (funT f).flatMap lineB)) ++ lineB (([⟨#[102, 117, 110, 99]⟩, f.name, itB f.params, itB f.regs] : List ByteArray).map bl)).length ≤ 140737488355328 := by rw [hac]; have := HSZ.out; omega
          have hcl := line_own b b b (AL ++ (p.funcs.take k).flatMap (fun f => (funT f).flatMap lineB)) [⟨#[102, 117, 110, 99]⟩, f.name, itB f.params, itB f.regs] _ w5 (bld_below HD1.out HB5.out) HO5.out (by simp) (by simp) (by have := HB5.out.size; omega) hln
          rw [hac] at hcl
          refine hcl.mono ?_
          rintro e' w' ⟨rfl, h1, h2, h3⟩
          exact ⟨_, rfl, rfl, h1, (HB5.out.mono (by omega)).trans h2, (kept_below HB5.out).trans h3⟩
        obtain ⟨rfl, hd6, hk6⟩ := h
        simp only [Act.put, List.setIfInBounds_toArray, List.set_cons_zero, List.set_cons_succ]
        refine Plan.chain_nil ?_
        have HD6 := hid hd6
        have HB6 := hid (show Below b W w6 from (HBL.out.trans (HB1.out.mono (by omega))).trans hk6.1)
        have hx6 := box_kept HX1.out hk6.2 (by omega) (by decide)
        have q3 := hx6.cell 3 _ rfl
        have qz := hx6.lt
        have hw6s : b < w6.heap.size := by have := HB6.out.size; omega
        clear hd6 hk6 hx6 q0 q1 q2 hw5
        go_wp2_with fail
        go_loopw [83] (fun iv wr => ∃ (m : Nat), m ≤ f.code.length ∧ iv = .int .i64 m ∧ BldAt b b (acc ++ ((codeT 0 f.code).take m).flatMap lineB) wr ∧ Below b W wr) (fun iv _ => f.code.length - (intOf iv).toNat)
        case atStart => exact ⟨0, Nat.zero_le _, rfl, by simpa using HD6.out, HB6.out⟩
        case round =>
        clear q3 qz HB6 HD6 hw6s
        obtain ⟨m, hm, rfl, hbd, hbl⟩ := hrel
        obtain ⟨wi, hwi⟩ : ∃ wi, wi = wr := ⟨_, rfl⟩
        subst hwi
        have HBD2 := hid hbd
        have HBL2 := hid hbl
        have hwis := hbl.size
        have hbw := HBW.out.trans (hbl.mono hwb)
        clear hbd hbl
        by_cases hmt : m < f.code.length
        · have hmt2 : (m : Int) < f.code.length := Int.ofNat_lt.2 hmt
          have hmi : ¬ ((m : Int) < 0) := by omega
          obtain ⟨p1, p2, p3, p4, p5, p6, p7⟩ := HCQ.out
          obtain rfl := p1 (by omega)
          have rl := p7 (by omega)
          have x0 := (hbw.cell (p := ⟨cb, _, none⟩) rl).trans (p2 m hmt)
          have x1 := (hbw.cell (p := ⟨cb, _, none⟩) rl).trans (p3 m hmt)
          have x2 := (hbw.cell (p := ⟨cb, _, none⟩) rl).trans (p4 m hmt)
          have x3 := (hbw.cell (p := ⟨cb, _, none⟩) rl).trans (p5 m hmt)
          have x4 := (hbw.cell (p := ⟨cb, _, none⟩) rl).trans (p6 m hmt)
          have rl2 : cb < wi.heap.size := Nat.lt_of_lt_of_le rl hbw.size
          have hix := HIO.out _ (nth_mem f.code m hmt)
          have hiw := HFW.out.ins _ (nth_mem f.code m hmt)
          have hcn : nth (codeT 0 f.code) m = insT m (nth f.code m) := by rw [codeT_nth 0 f.code m hmt, Nat.zero_add]
          have hcs := take_flat_succ lineB (codeT 0 f.code) m (by rw [codeT_len]; exact hmt)
          rw [hcn] at hcs
          have hsz := take_flat lineB (codeT 0 f.code) (m + 1)
          rw [hcs] at hsz
          obtain ⟨x, hx⟩ : ∃ x, nth f.code m = x := ⟨_, rfl⟩
          rw [hx] at x0 x1 x2 x3 x4 hix hiw hcs hsz
          have HCS := hid hcs
          have HIW := hid hiw
          have HSZ2 := hid hsz
          have HIX := hid hix
          have hop := ins_op hix
          have HOP := hid (show (decide (0 < x.op) && decide (x.op < 53)) = true by simp [hop.1, hop.2])
          have HBWI := hid hbw
          clear p1 p2 p3 p4 p5 p6 p7 hcn hcs hsz hx hix hiw hop hbw
          go_wp2_with (
            go_at_call 25
            generalize hW2 : World.alloc wi _ = W2
            have HX2 := hid (show BoxAt W2 wi.heap.size 34 [.int .i64 x.op, .int .i64 x.a, .int .i64 x.b, .int .i64 x.c, .int .i64 x.pos] by rw [← hW2]; exact BoxAt.new wi _ _ _ _ rfl rfl)
            have HB2 := hid (show Below wi.heap.size wi W2 by rw [← hW2]; exact (Below.refl _ _).alloc (Nat.le_refl _) _)
            clear hW2
            refine (describe_calls _ _).mono ?_
            rw [HOP.out]
            rintro e w7 ⟨rfl, hb7⟩
            have HB7 := hid hb7
            clear hb7)
          generalize hW3 : World.alloc w7 _ = W3
          have hx3 : BoxAt W3 w7.heap.size 61 [.string (wordC x.op), .string (rolesC x.op)] := by rw [← hW3]; exact BoxAt.new w7 _ _ _ _ rfl rfl
          have hb3 : Below w7.heap.size w7 W3 := by rw [← hW3]; exact (Below.refl _ _).alloc (Nat.le_refl _) _
          have hxi := (HX2.out.below HB7.out).below hb3
          have HX3 := hid hx3
          have HXI := hid hxi
          have HB3w := hid (show Below wi.heap.size wi W3 from bvia (bvia HB2.out HB7.out) hb3)
          have i0 := hx3.cell 0 _ rfl
          have iz := hx3.lt
          have hW3s := HB3w.out.size
          have him := Lib.itoa_length_le (m : Nat) (by omega) (by omega)
          clear hW3 hx3 hb3 hxi x0 x1 x2 x3 x4 rl rl2
          refine Plan.wp_chain planTX28 W3.heap.size (by kernel_rfl) rfl (by kernel_rfl) (by kernel_rfl) ?_
          repeat (first | (apply Plan.chain_skip rfl rfl; simp only [Act.put, List.setIfInBounds_toArray, List.set_cons_zero, List.set_cons_succ]) | (apply Plan.chain_det rfl rfl; (· intro w' hb; obtain ⟨hcl, hfz⟩ := bcellB hb; go_simp; rfl); simp only [Act.put, List.setIfInBounds_toArray, List.set_cons_zero, List.set_cons_succ]))
          refine Plan.chain_call 24 #[.int .i64 (m : Nat)] (fun v w' => v = .string ⟨(Lib.itoa (m : Nat)).toArray⟩ ∧ Below W3.heap.size W3 w') rfl rfl rfl (by go_simp) ?_ (fun v w' h => h.2) (fun va w8 h => ?_)
          · refine (itoa_calls (m : Nat) ⟨by omega, by omega⟩ w W3.drew HTAB.out ((bvia HBWI.out HB3w.out).drew)).mono ?_
            rintro e w' ⟨rfl, hb⟩
            exact ⟨_, rfl, rfl, (Below.refl _ _).drew.trans hb⟩
          obtain ⟨rfl, hb8⟩ := h
          simp only [Act.put, List.setIfInBounds_toArray, List.set_cons_zero, List.set_cons_succ]
          have HB8 := hid hb8
          have hw8s := hb8.size
          clear hb8
          refine Plan.chain_cat rfl rfl rfl rfl rfl (by simp only [ByteArray.size_append', ByteArray.size_mk', List.size_toArray, List.length_cons, List.length_nil]; omega) ?_
          simp only [Act.put, List.setIfInBounds_toArray, List.set_cons_zero, List.set_cons_succ]
          repeat (first | (apply Plan.chain_skip rfl rfl; simp only [Act.put, List.setIfInBounds_toArray, List.set_cons_zero, List.set_cons_succ]) | (apply Plan.chain_det rfl rfl; (· intro w' hb; obtain ⟨hcl, hfz⟩ := bcellB hb; go_simp; rfl); simp only [Act.put, List.setIfInBounds_toArray, List.set_cons_zero, List.set_cons_succ]))
          refine Plan.chain_lit strE9 W3.heap.size 9 [⟨#[9]⟩ ++ ⟨(Lib.itoa (m : Nat)).toArray⟩, wordC x.op] #[.string (⟨#[9]⟩ ++ ⟨(Lib.itoa (m : Nat)).toArray⟩), .string (wordC x.op)] 2 rfl rfl rfl (by go_simp) rfl rfl (by simp) hw8s hw8s HB8.out (fun ho9 hb9 => ?_)
          simp only [Act.put, List.setIfInBounds_toArray, List.set_cons_zero, List.set_cons_succ]
          have HO9 := hid ho9
          have HB9 := hid hb9
          clear ho9 hb9
          repeat (first | (apply Plan.chain_skip rfl rfl; simp only [Act.put, List.setIfInBounds_toArray, List.set_cons_zero, List.set_cons_succ]) | (apply Plan.chain_det rfl rfl; (· intro w' hb; obtain ⟨hcl, hfz⟩ := bcellB hb; go_simp; rfl); simp only [Act.put, List.setIfInBounds_toArray, List.set_cons_zero, List.set_cons_succ]))
          refine Plan.chain_nil ?_
          generalize hw9 : w8.alloc _ = w9 at *
          have hxi := HXI.out.below HB9.out
          have j1 := hxi.cell 1 _ rfl
          have j2 := hxi.cell 2 _ rfl
          have j3 := hxi.cell 3 _ rfl
          have jz := hxi.lt
          have k1 := (HX3.out.below HB9.out).cell 1 _ rfl
          have kz := (HX3.out.below HB9.out).lt
          clear hxi i0 iz hw9 k1 kz
          obtain ⟨T0, hT0⟩ : ∃ T0, (({ data := #[9] } : ByteArray) ++ { data := (Lib.itoa (m : Nat)).toArray }) = T0 := ⟨_, rfl⟩
          have HT0 := hid hT0
          rw [hT0] at HO9
          obtain ⟨r0, r1, r2, hrr, hd0, hd1, hd2⟩ := rolesC_dash x.op (ins_op HIX.out)
          have HRR := hid (And.intro hd0 (And.intro hd1 hd2))
          have HX3' := HX3
          rw [hrr] at HX3'
          clear hT0 hrr hd0 hd1 hd2
          go_wp2_with fail
          go_loopw [109, 18] (fun iv pv wr => ∃ (j g c : Nat) (L : List ByteArray), j ≤ 3 ∧ iv = .int .i64 j ∧ pv = .slice (some ⟨g, 0, none⟩) L.length c ∧ L = [T0, wordC x.op] ++ opdNB x j ∧ OwnE strE9 W3.heap.size 9 wr (.slice (some ⟨g, 0, none⟩) L.length c) L ∧ Below W3.heap.size W3 wr) (fun iv _ _ => 3 - (intOf iv).toNat)
          case atStart => exact ⟨0, w8.heap.size, 2, [T0, wordC x.op], by omega, rfl, rfl, rfl, HO9.out, HB9.out⟩
          case round =>
          clear j1 j2 j3 jz
          obtain ⟨j, g, cp, L, hj, rfl, rfl, hL, how, hbl⟩ := hrel
          obtain ⟨w10, hw10⟩ : ∃ w10, w10 = wr := ⟨_, rfl⟩
          subst hw10
          have HL := hid hL
          have HOW := hid how
          have HBL6 := hid hbl
          have hLl : L.length ≤ 5 := by have := opdNB_le x j; rw [hL, List.length_append]; simp; omega
          have hw10s := hbl.size
          have hx3 := HX3'.out.below hbl
          have k1 := hx3.cell 1 _ rfl
          have kz := hx3.lt
          have HBW10 := hid (bvia (bvia HBWI.out HB3w.out) hbl)
          clear hL how hbl hx3
          have hj4 : j = 0 ∨ j = 1 ∨ j = 2 ∨ j = 3 := by omega
          rcases hj4 with rfl | rfl | rfl | rfl
          · rw [show ((0 : Nat) : Int) = 0 from rfl]
            have hix : ∀ w' : World, (Instr.index 64 (.agg #[.int .i64 x.a, .int .i64 x.b, .int .i64 x.c]) (.int .i64 0)).run Tryz.prog w' = .ok (.int .i64 x.a) w' := fun w' => by kernel_rfl
            have HJ := hid (show opdNB x 1 = opdNB x 0 ++ opdTB (roleC x.op 0) x.a from rfl)
            cases hd : (roleC x.op 0 == 45) with
            | true =>
              have hq : (((r0.toNat : Nat) : Int) != 45) = false := by have h := HRR.out; rw [bne, h.1, hd]; rfl
              have hq2 : (((((⟨#[r0, r1, r2]⟩ : ByteArray)[0]'(by show 0 < 3; decide)).toNat : Nat) : Int) != 45) = false := hq
              have HE := hid (show L = [T0, wordC x.op] ++ opdNB x 1 by rw [HJ.out, opdTB_yes _ _ hd, List.append_nil]; exact HL.out)
              clear hd
              go_wp2_with fail
              go_roundw
              case rel => exact ⟨1, g, cp, L, by omega, by go_num, rfl, HE.out, HOW.out, HBL6.out⟩
              case measure => simp [intOf] <;> omega
            | false =>
              have hq : (((r0.toNat : Nat) : Int) != 45) = true := by have h := HRR.out; rw [bne, h.1, hd]; rfl
              have hq2 : (((((⟨#[r0, r1, r2]⟩ : ByteArray)[0]'(by show 0 < 3; decide)).toNat : Nat) : Int) != 45) = true := hq
              have HE := hid (show L ++ [itB x.a] = [T0, wordC x.op] ++ opdNB x 1 by rw [HJ.out, opdTB_no _ _ hd, HL.out, List.append_assoc])
              clear hd
              go_wp2_with (first
                | (go_at_call 24
                   refine (itoa_calls x.a HIW.out.a w w10 HTAB.out HBW10.out).mono ?_
                   rintro e w4 ⟨rfl, hb4⟩
                   have HB4 := hid hb4
                   clear hb4)
                | (at_builtin
                   go_loud (refine wpList_append_one strE9 (o := ⟨some 122, _, _, _, _, _⟩) rfl (.tmp 118) (.tmp 121) 51 rfl W3.heap.size 0 9 _ 16 Tryz.underlying51 infoStr9 rfl L (itB x.a) ((OwnE.fresh HOW.out (Only.below HB4.out none)).alloc _) ((OwnE.lit strE9 _ 0 9 [itB x.a] #[.string ⟨(Lib.itoa x.a).toArray⟩] w4.heap.size 1 rfl (Nat.zero_le _) rfl rfl (by simp)).sl (Nat.zero_le _) (by simp)) (by omega) (by simp only [maxLen]; omega) (by have := HB4.out.size; simp; omega) ?_)
                   intro g5 c5 w5 ho5 _ _ hb5
                   have HO5 := hid ho5
                   have HB5 := hid hb5
                   clear ho5 hb5))
              refine ⟨⟨1, g5, c5, L ++ [itB x.a], by omega, by go_num, by simp, HE.out, ?_, HBL6.out.trans (((HB4.out.mono hw10s).alloc (by have := HB4.out.size; omega) _).trans HB5.out)⟩, by simp [intOf] <;> omega⟩
              have h := HO5.out
              rw [List.length_append, List.length_singleton]
              exact h
          · rw [show ((1 : Nat) : Int) = 1 from rfl]
            have hix : ∀ w' : World, (Instr.index 64 (.agg #[.int .i64 x.a, .int .i64 x.b, .int .i64 x.c]) (.int .i64 1)).run Tryz.prog w' = .ok (.int .i64 x.b) w' := fun w' => by kernel_rfl
            have HJ := hid (show opdNB x 2 = opdNB x 1 ++ opdTB (roleC x.op 1) x.b from rfl)
            cases hd : (roleC x.op 1 == 45) with
            | true =>
              have hq : (((r1.toNat : Nat) : Int) != 45) = false := by have h := HRR.out; rw [bne, h.2.1, hd]; rfl
              have hq2 : (((((⟨#[r0, r1, r2]⟩ : ByteArray)[1]'(by show 1 < 3; decide)).toNat : Nat) : Int) != 45) = false := hq
              have HE := hid (show L = [T0, wordC x.op] ++ opdNB x 2 by rw [HJ.out, opdTB_yes _ _ hd, List.append_nil]; exact HL.out)
              clear hd
              go_wp2_with fail
              go_roundw
              case rel => exact ⟨2, g, cp, L, by omega, by go_num, rfl, HE.out, HOW.out, HBL6.out⟩
              case measure => simp [intOf] <;> omega
            | false =>
              have hq : (((r1.toNat : Nat) : Int) != 45) = true := by have h := HRR.out; rw [bne, h.2.1, hd]; rfl
              have hq2 : (((((⟨#[r0, r1, r2]⟩ : ByteArray)[1]'(by show 1 < 3; decide)).toNat : Nat) : Int) != 45) = true := hq
              have HE := hid (show L ++ [itB x.b] = [T0, wordC x.op] ++ opdNB x 2 by rw [HJ.out, opdTB_no _ _ hd, HL.out, List.append_assoc])
              clear hd
              go_wp2_with (first
                | (go_at_call 24
                   refine (itoa_calls x.b HIW.out.b w w10 HTAB.out HBW10.out).mono ?_
                   rintro e w4 ⟨rfl, hb4⟩
                   have HB4 := hid hb4
                   clear hb4)
                | (at_builtin
                   go_loud (refine wpList_append_one strE9 (o := ⟨some 122, _, _, _, _, _⟩) rfl (.tmp 118) (.tmp 121) 51 rfl W3.heap.size 0 9 _ 16 Tryz.underlying51 infoStr9 rfl L (itB x.b) ((OwnE.fresh HOW.out (Only.below HB4.out none)).alloc _) ((OwnE.lit strE9 _ 0 9 [itB x.b] #[.string ⟨(Lib.itoa x.b).toArray⟩] w4.heap.size 1 rfl (Nat.zero_le _) rfl rfl (by simp)).sl (Nat.zero_le _) (by simp)) (by omega) (by simp only [maxLen]; omega) (by have := HB4.out.size; simp; omega) ?_)
                   intro g5 c5 w5 ho5 _ _ hb5
                   have HO5 := hid ho5
                   have HB5 := hid hb5
                   clear ho5 hb5))
              refine ⟨⟨2, g5, c5, L ++ [itB x.b], by omega, by go_num, by simp, HE.out, ?_, HBL6.out.trans (((HB4.out.mono hw10s).alloc (by have := HB4.out.size; omega) _).trans HB5.out)⟩, by simp [intOf] <;> omega⟩
              have h := HO5.out
              rw [List.length_append, List.length_singleton]
              exact h
          · rw [show ((2 : Nat) : Int) = 2 from rfl]
            have hix : ∀ w' : World, (Instr.index 64 (.agg #[.int .i64 x.a, .int .i64 x.b, .int .i64 x.c]) (.int .i64 2)).run Tryz.prog w' = .ok (.int .i64 x.c) w' := fun w' => by kernel_rfl
            have HJ := hid (show opdNB x 3 = opdNB x 2 ++ opdTB (roleC x.op 2) x.c from rfl)
            cases hd : (roleC x.op 2 == 45) with
            | true =>
              have hq : (((r2.toNat : Nat) : Int) != 45) = false := by have h := HRR.out; rw [bne, h.2.2, hd]; rfl
              have hq2 : (((((⟨#[r0, r1, r2]⟩ : ByteArray)[2]'(by show 2 < 3; decide)).toNat : Nat) : Int) != 45) = false := hq
              have HE := hid (show L = [T0, wordC x.op] ++ opdNB x 3 by rw [HJ.out, opdTB_yes _ _ hd, List.append_nil]; exact HL.out)
              clear hd
              go_wp2_with fail
              go_roundw
              case rel => exact ⟨3, g, cp, L, by omega, by go_num, rfl, HE.out, HOW.out, HBL6.out⟩
              case measure => simp [intOf] <;> omega
            | false =>
              have hq : (((r2.toNat : Nat) : Int) != 45) = true := by have h := HRR.out; rw [bne, h.2.2, hd]; rfl
              have hq2 : (((((⟨#[r0, r1, r2]⟩ : ByteArray)[2]'(by show 2 < 3; decide)).toNat : Nat) : Int) != 45) = true := hq
              have HE := hid (show L ++ [itB x.c] = [T0, wordC x.op] ++ opdNB x 3 by rw [HJ.out, opdTB_no _ _ hd, HL.out, List.append_assoc])
              clear hd
              go_wp2_with (first
                | (go_at_call 24
                   refine (itoa_calls x.c HIW.out.c w w10 HTAB.out HBW10.out).mono ?_
                   rintro e w4 ⟨rfl, hb4⟩
                   have HB4 := hid hb4
                   clear hb4)
                | (at_builtin
                   go_loud (refine wpList_append_one strE9 (o := ⟨some 122, _, _, _, _, _⟩) rfl (.tmp 118) (.tmp 121) 51 rfl W3.heap.size 0 9 _ 16 Tryz.underlying51 infoStr9 rfl L (itB x.c) ((OwnE.fresh HOW.out (Only.below HB4.out none)).alloc _) ((OwnE.lit strE9 _ 0 9 [itB x.c] #[.string ⟨(Lib.itoa x.c).toArray⟩] w4.heap.size 1 rfl (Nat.zero_le _) rfl rfl (by simp)).sl (Nat.zero_le _) (by simp)) (by omega) (by simp only [maxLen]; omega) (by have := HB4.out.size; simp; omega) ?_)
                   intro g5 c5 w5 ho5 _ _ hb5
                   have HO5 := hid ho5
                   have HB5 := hid hb5
                   clear ho5 hb5))
              refine ⟨⟨3, g5, c5, L ++ [itB x.c], by omega, by go_num, by simp, HE.out, ?_, HBL6.out.trans (((HB4.out.mono hw10s).alloc (by have := HB4.out.size; omega) _).trans HB5.out)⟩, by simp [intOf] <;> omega⟩
              have h := HO5.out
              rw [List.length_append, List.length_singleton]
              exact h
          · rw [show ((3 : Nat) : Int) = 3 from rfl]
            have hmap : L.map bl = insT m x := by
              rw [HL.out, List.map_append, opdNB_map, List.map_cons, List.map_cons, List.map_nil, ← HT0.out, bl_append, bl_mk (Lib.itoa (m : Nat))]
              rfl
            have hsum : acc ++ ((codeT 0 f.code).take (m + 1)).flatMap lineB = (acc ++ ((codeT 0 f.code).take m).flatMap lineB) ++ lineB (L.map bl) := by rw [HCS.out, hmap, List.append_assoc]
            have HSUM := hid hsum
            have HLN := hid (show ((acc ++ ((codeT 0 f.code).take m).flatMap lineB) ++ lineB (L.map bl)).length ≤ 140737488355328 by
              rw [hmap]
              have h1 := HSZ.out
              have h2 := HSZ2.out
              rw [List.length_append] at h2
              simp only [List.length_append]
              omega)
            have hL0 : 0 < L.length := by rw [HL.out]; simp
            clear hmap hsum
            go_wp2_with (
              go_at_call 20
              refine (line_own b b W3.heap.size _ _ _ w10 (bld_below HBD2.out (bvia HB3w.out HBL6.out)) HOW.out hL0 (by omega) (by omega) HLN.out).mono ?_
              rintro e w6 ⟨rfl, hd6, hl6, -⟩
              have HD6 := hid hd6
              have HL6 := hid hl6
              clear hd6 hl6)
            go_roundw
            case rel => exact ⟨m + 1, by omega, by go_num, by rw [HSUM.out]; exact HD6.out, (HBL2.out.trans ((bvia HB3w.out HBL6.out).mono (by omega))).trans HL6.out⟩
            case measure => simp [intOf] <;> omega
        · have hmm : m = f.code.length := by omega
          have hmt3 : ¬ ((m : Int) < f.code.length) := by omega
          have hD := HBD2.out
          rw [hmm, show (codeT 0 f.code).take f.code.length = codeT 0 f.code by rw [← codeT_len 0 f.code]; exact List.take_length] at hD
          have HD := hid hD
          subst hmm
          clear hD hbw
          go_wp2_with fail
          go_roundw
          case rel => exact ⟨k + 1, by omega, by go_num, by rw [HSUC.out]; exact HD.out, HBL2.out⟩
          case measure => simp [intOf] <;> omega
      · have hke : k = p.funcs.length := by omega
        subst hke
        have hlt3 : ¬ ((p.funcs.length : Int) < p.funcs.length) := by omega
        have hD := HBD1.out
        rw [List.take_length, ← HTL.out] at hD
        have HD := hid hD
        have HBW2 := hid hbw
        clear hD hbw
        go_wp2_with (
          go_at_call 26
          refine (Tryz.Builder_String_any_k b b (textL p) wo HD.out (by omega)).mono ?_
          rintro e w9 ⟨rfl, -, hb9, -⟩
          have HB9 := hid hb9
          clear hb9)
        go_ret
        exact ⟨rfl, HBW2.out.trans (HB9.out.mono hwb)⟩

end Go.Proofs.YtihcngjkflaelaaGreatDoor
