/-
  link.Valid walked: whether a program is a part.
-/
import Derived.Test.YtealeofgfgbheaaZCValid2
import Derived.Test.YtealeofgfgbheaaZLkS
namespace Go.Proofs.Ytealeofgfgbheaa
set_option linter.unusedVariables false
set_option linter.unusedSimpArgs false
open Go.RowKit

def ImpOk (p : Prg) (i : Nat) : Prop := (nth p.funcs i).code = [] → (nth p.funcs i).regs = (nth p.funcs i).params ∧ (i : Int) ≠ p.main

noncomputable def planLV19 : Plan := mkPlan (regionOf Try.f11 19) [(3, .new), (5, .new), (6, .new), (8, .fin)] []

set_option maxRecDepth 100000 in
set_option maxHeartbeats 8000000 in
theorem lpart_calls (lo : Nat) (vf vg vl : Value) (p : Prg) (w : World) (hp : ProgAt lo w vf vg vl p) (hwf : PrgWf p) :
    Calls Try.prog 11 #[.agg #[vf, vg, vl, .int .i64 p.main]] w fun e w' => e = .returned (.bool (partB p)) ∧ Below w.heap.size w w' := by
  have HP := hid hp
  have HWF := hid hwf
  have hfz := hwf.funcs
  obtain ⟨fa, fc, fb, fo, FS, rfl, fp, f0, f1, f2, f3, fcode, fbl, -, -, -⟩ := hp.funcs.open
  obtain ⟨ga, gc, gb, go, rfl, -⟩ := hp.globs.open
  obtain ⟨la, lc, lb, lo', LS, rfl, -⟩ := hp.lays.open
  have HFQ := hid (And.intro fp (And.intro f0 (And.intro f1 (And.intro f2 (And.intro f3 (And.intro fcode fbl))))))
  clear hp fp f0 f1 f2 f3 fcode fbl hwf
  go_enter Try.func11, Try.ntmps11
  have hmm := @run_makeMap Try.prog
  go_wp2_with fail
  clear hmm
  generalize hW : World.alloc _ _ = W
  have hbW : Below w.heap.size w W := by rw [← hW]; exact (((Below.refl _ _).alloc (Nat.le_refl _) _).alloc (by simp) _).alloc (by simp; omega) _
  have hst : LvSt lo w W (w.heap.size + 1) (w.heap.size + 2) (.slice fa p.funcs.length fc) (.slice ga p.globals.length gc) (.slice la p.layouts.length lc) (.slice none 0 0) p 0 0 [] 0 := by
    refine ⟨QFuns.nil _ _ _ hbW, ?_, ?_, ?_, Nat.le_refl _, by omega, by omega⟩
    · rw [← hW]; exact BoxAt.new _ _ _ _ _ (by simp) rfl
    · rw [← hW]; exact ((BoxAt.new w _ _ _ _ rfl rfl).alloc _).alloc _
    · rw [← hW]
      have h1 := (MapB.made (K := strK) (w.alloc (.cells #[.slice fa p.funcs.length fc, .slice ga p.globals.length gc, .slice la p.layouts.length lc, .int .i64 p.main] 26))).below ((Below.refl _ _).alloc (Nat.le_refl _) (.cells #[.slice none 0 0, .slice ga p.globals.length gc, .slice la p.layouts.length lc, .int .i64 p.main] 26))
      simpa using h1
  have HST := hid hst
  clear hW hst hbW
  go_loopw [14] (fun iv wr => ∃ (k : Nat) (ss : List Slc) (va : Option Addr) (vc c : Nat), k ≤ p.funcs.length ∧ iv = .int .i64 k ∧ LvSt lo w wr (w.heap.size + 1) (w.heap.size + 2) (.slice fa p.funcs.length fc) (.slice ga p.globals.length gc) (.slice la p.layouts.length lc) (.slice va k vc) p k k ss c ∧ ∀ i, i < k → ImpOk p i) (fun iv _ => p.funcs.length - (intOf iv).toNat)
  case atStart => exact ⟨0, [], none, 0, 0, Nat.zero_le _, rfl, HST.out, fun i hi => by omega⟩
  case round =>
  clear HST
  obtain ⟨k, ss, va, vc, c, hk, rfl, hst, himp⟩ := hrel
  obtain ⟨wo, hwo⟩ : ∃ wo, wo = wr := ⟨_, rfl⟩
  subst hwo
  have HST := hid hst
  have HIMP := hid himp
  have c0 := hst.box.cell 0 _ rfl
  have cz := hst.box.lt
  have a0 := hst.arg.cell 0 _ rfl
  have a3 := hst.arg.cell 3 _ rfl
  have az := hst.arg.lt
  clear hst himp
  by_cases hlt : k < p.funcs.length
  · have hlt2 : (k : Int) < p.funcs.length := Int.ofNat_lt.2 hlt
    have hki : ¬ ((k : Int) < 0) := by omega
    obtain ⟨fp, f0, f1, f2, f3, fcode, fbl⟩ := HFQ.out
    obtain rfl := fp (by omega)
    have hbw := HST.out.q.low
    have gl := fbl (by omega)
    have y0 := (hbw.cell (p := ⟨fb, _, none⟩) gl).trans (f0 k hlt)
    have y1 := (hbw.cell (p := ⟨fb, _, none⟩) gl).trans (f1 k hlt)
    have y2 := (hbw.cell (p := ⟨fb, _, none⟩) gl).trans (f2 k hlt)
    have y3 := (hbw.cell (p := ⟨fb, _, none⟩) gl).trans (f3 k hlt)
    have gl2 : fb < wo.heap.size := Nat.lt_of_lt_of_le gl hbw.size
    have hcode := fcode k hlt
    have hfw := HWF.out.func _ (nth_mem p.funcs k hlt)
    obtain ⟨f, hf⟩ : ∃ f, nth p.funcs k = f := ⟨_, rfl⟩
    rw [hf] at y0 y1 y2 y3 hcode hfw
    have HC := hid hcode
    have HF := hid hf
    have HFW := hid hfw
    have hgood : strK.good f.name := hfw.name
    have HGD := hid hgood
    have hcle := HST.out.cle
    clear fp f0 f1 f2 f3 fcode fbl hbw hcode hf hfw hgood
    go_wp2_with (
      at_mapUpdate
      refine wpList_upd_B (K := strK) rfl _ _ _ 48 rfl Try.underlying48 rfl (HST.out.fresh ((Below.refl _ _).alloc (Nat.le_refl _) _)).m (by simp only [maxLen]; omega) f.name rfl rfl HGD.out ?_
      intro wm hm hg
      have hbx := (BoxAt.new wo #[.string f.name, .int .i64 f.params, .int .i64 f.regs, .slice (FS k).a f.code.length (FS k).c] 41 wo.heap.size _ rfl rfl)
      have hbF := hbx.only (Only.grown hg) (hbx.neMap (HST.out.fresh ((Below.refl _ _).alloc (Nat.le_refl _) (.cells #[.string f.name, .int .i64 f.params, .int .i64 f.regs, .slice (FS k).a f.code.length (FS k).c] 41))).m)
      have hS1 := (HST.out.fresh ((Below.refl _ _).alloc (Nat.le_refl _) (.cells #[.string f.name, .int .i64 f.params, .int .i64 f.regs, .slice (FS k).a f.code.length (FS k).c] 41))).map hlt hg (by rw [HF.out]; exact hm)
      have HS1 := hid hS1
      have HBF := hid hbF
      have e0 := hbF.cell 0 _ rfl
      have e1 := hbF.cell 1 _ rfl
      have e2 := hbF.cell 2 _ rfl
      have e3 := hbF.cell 3 _ rfl
      have ez := hbF.lt
      clear hbx hbF hS1 hm hg)
    refine (imported_calls lo _ f wm (HC.out.below HS1.out.q.low)).mono ?_
    rintro e w2 ⟨rfl, hb2⟩
    have HS2 := hid (HS1.out.fresh hb2)
    have HBF2 := hid (HBF.out.below hb2)
    have HWO2 := hid (show wo.heap.size < w2.heap.size by have := HBF.out.lt; have := hb2.size; omega)
    have HRB := hid (show ∀ j, (Value.slice va k vc).ownBlock = some j → j ≠ wo.heap.size from fun j hj e => by have := (HST.out.q.row.lt j hj).2; omega)
    have HWW := hid (show w.heap.size ≤ wo.heap.size from HST.out.q.low.size)
    clear hb2 e0 e1 e2 e3 ez c0 cz a0 a3 az y0 y1 y2 y3
    have e0 := HBF2.out.cell 0 _ rfl
    have e1 := HBF2.out.cell 1 _ rfl
    have e2 := HBF2.out.cell 2 _ rfl
    have e3 := HBF2.out.cell 3 _ rfl
    have ez := HBF2.out.lt
    have a3 := HS2.out.arg.cell 3 _ rfl
    have az := HS2.out.arg.lt
    cases hce : f.code with
    | nil =>
      have hcl : closeF f = { f with code := [retI] } := by unfold closeF; rw [if_pos hce]
      have HCL := hid hcl
      have HCE := hid hce
      clear hcl
      rw [hce] at e3
      have hbad : ¬ (f.regs = f.params ∧ (k : Int) ≠ p.main) → partB p = false := fun hn => by
        have : impB p = false := by
          unfold impB
          rw [List.all_eq_false]
          refine ⟨k, List.mem_range.2 hlt, ?_⟩
          rw [HF.out, HCE.out]
          intro h
          simp at h
          exact hn ⟨h.1, h.2⟩
        unfold partB
        rw [this]; rfl
      have HBAD := hid hbad
      clear hbad hce
      by_cases hr : f.regs = f.params
      · by_cases hmn : (k : Int) = p.main
        · have h1 : (f.regs != f.params) = false := by simp [hr]
          have h2 : ((k : Int) == p.main) = true := by simp [hmn]
          have HNO := hid (HBAD.out (fun h => h.2 hmn))
          clear hr hmn
          go_wp2_with fail
          go_ret
          exact ⟨by rw [HNO.out]; rfl, HS2.out.q.low⟩
        · have h1 : (f.regs != f.params) = false := by simp [hr]
          have h2 : ((k : Int) == p.main) = false := by simp [hmn]
          have HIO := hid (show ImpOk p k from fun _ => by rw [HF.out]; exact ⟨hr, hmn⟩)
          clear hr hmn
          go_wp2_with fail
          refine (end_calls w2).mono ?_
          rintro e w3 ⟨v3, rfl, ho3, hb3⟩
          obtain ⟨g3, cap3, rfl, hg31, hg32⟩ := ho3.open (by simp)
          have HO3 := hid ho3
          have HBF3 := hid (HBF2.out.below hb3)
          have hbf3 := HBF2.out.below hb3
          have HS3 := hid ((HS2.out.fresh hb3).fbox hbf3 HRB.out HWW.out 3 (.slice (some ⟨g3, 0, none⟩) 1 cap3))
          have HBF4 := hid (hbf3.set 3 (.slice (some ⟨g3, 0, none⟩) 1 cap3))
          have e3' := hbf3.cell 3 _ rfl
          have f3' := hbf3.frozen 3
          have ez' := hbf3.lt
          have HSRC := hid (show CodeAt lo w (⟨some ⟨g3, 0, none⟩, 1, cap3⟩ : Slc).val ({ f with code := [retI] } : Fun).code ∨ OwnE insE w.heap.size 43 ((w3.setCell ⟨wo.heap.size, 3, none⟩ (.slice (some ⟨g3, 0, none⟩) 1 cap3)).alloc (.cells #[.string f.name, .int .i64 f.params, .int .i64 f.regs, .slice (some ⟨g3, 0, none⟩) 1 cap3] 41)) (⟨some ⟨g3, 0, none⟩, 1, cap3⟩ : Slc).val [retI] from
            .inr (((HO3.out.mono (by have := HWO2.out; have := HWW.out; omega)).only (Only.store w3 wo.heap.size 3 _) (HO3.out.neBox HBF3.out (by decide))).alloc _))
          have g0 := HBF4.out.cell 0 _ rfl
          have g1 := HBF4.out.cell 1 _ rfl
          have g2 := HBF4.out.cell 2 _ rfl
          have g3' := HBF4.out.cell 3 _ rfl
          have c0 := HS3.out.box.cell 0 _ rfl
          have cz := HS3.out.box.lt
          have hw3 : w2.heap.size ≤ w3.heap.size := hb3.size
          have hwo2 := HWO2.out
          have hww := HWW.out
          clear hbf3 ho3 hb3 e0 e1 e2 e3 ez a3 az
          go_wp2_with (
                at_builtin
                go_loud (refine wpList_append_G funE (o := ⟨some 41, _, _, _, _, _⟩) rfl (.tmp 38) (.tmp 40) 22 rfl w.heap.size w.heap.size 41 _ 56 Try.underlying22 infoFun12 rfl (((p.funcs.take k).map closeF).zip ss) (({ f with code := [retI] } : Fun), (⟨some ⟨g3, 0, none⟩, 1, cap3⟩ : Slc)) (HS3.out.q.row.alloc _) (OwnE.sl (OwnE.lit funE _ w.heap.size 41 [(({ f with code := [retI] } : Fun), (⟨some ⟨g3, 0, none⟩, 1, cap3⟩ : Slc))] _ w3.heap.size 1 (by simp [World.setCell]) (by omega) rfl rfl (by simp)) (Nat.le_refl _) (by simp)) (by rw [HS3.out.q.zlen, List.length_map, List.length_take]; omega) (by simp only [maxLen]; rw [HS3.out.q.zlen, List.length_map, List.length_take]; omega) (by simp [World.setCell]; omega) ?_)
                intro g5 cap5 w5 ho5 hg5 _ _ _
                have hz5 : (((p.funcs.take k).map closeF).zip ss).length = k := by rw [HS3.out.q.zlen, List.length_map, List.length_take]; omega
                rw [hz5] at ho5 ⊢
                have hS5 := (HS3.out.fresh ((Below.refl _ _).alloc (Nat.le_refl _) (.cells #[.string f.name, .int .i64 f.params, .int .i64 f.regs, .slice (some ⟨g3, 0, none⟩) 1 cap3] 41))).snoc (s := (⟨some ⟨g3, 0, none⟩, 1, cap3⟩ : Slc)) (v2 := .slice (some ⟨g5, 0, none⟩) (k + 1) cap5) hlt hg5 (by rw [HF.out, HCL.out]; exact ho5) (by rw [HF.out, HCL.out]; exact HSRC.out)
                have hbq := (HS3.out.fresh ((Below.refl _ _).alloc (Nat.le_refl _) (.cells #[.string f.name, .int .i64 f.params, .int .i64 f.regs, .slice (some ⟨g3, 0, none⟩) 1 cap3] 41))).box.only (Only.grown hg5) ((HS3.out.fresh ((Below.refl _ _).alloc (Nat.le_refl _) (.cells #[.string f.name, .int .i64 f.params, .int .i64 f.regs, .slice (some ⟨g3, 0, none⟩) 1 cap3] 41))).box.neRow (HS3.out.fresh ((Below.refl _ _).alloc (Nat.le_refl _) (.cells #[.string f.name, .int .i64 f.params, .int .i64 f.regs, .slice (some ⟨g3, 0, none⟩) 1 cap3] 41))).q.row (by decide))
                have HS5 := hid hS5
                have q0 := hbq.cell 0 _ rfl
                have qf := hbq.frozen 0
                have qz := hbq.lt
                clear hz5 hS5 hbq ho5 hg5)
          go_roundw
          case rel =>
            refine ⟨k + 1, _, _, _, c + 1, by omega, by go_num, HS5.out, fun i hi => ?_⟩
            rcases Nat.lt_or_ge i k with h5 | h5
            · exact HIMP.out i h5
            · rw [show i = k by omega]; exact HIO.out
          case measure => simp [intOf] <;> omega
      · have h1 : (f.regs != f.params) = true := by simp [hr]
        have HNO := hid (HBAD.out (fun h => hr h.1))
        clear hr
        go_wp2_with fail
        go_ret
        exact ⟨by rw [HNO.out]; rfl, HS2.out.q.low⟩
    | cons x l =>
      rw [← hce]
      have hne : f.code ≠ [] := by rw [hce]; simp
      have hie : f.code.isEmpty = false := by rw [hce]; rfl
      rw [hie]
      have hcl : closeF f = f := by unfold closeF; rw [if_neg hne]
      have HCL := hid hcl
      have HIO := hid (show ImpOk p k from fun h => by rw [HF.out] at h; exact absurd h hne)
      have HS3 := hid HS2.out
      have HSRC := hid (show CodeAt lo w (⟨(FS k).a, f.code.length, (FS k).c⟩ : Slc).val f.code ∨ OwnE insE w.heap.size 43 (w2.alloc (.cells #[.string f.name, .int .i64 f.params, .int .i64 f.regs, .slice (FS k).a f.code.length (FS k).c] 41)) (⟨(FS k).a, f.code.length, (FS k).c⟩ : Slc).val f.code from .inl HC.out)
      have c0 := HS3.out.box.cell 0 _ rfl
      have cz := HS3.out.box.lt
      have hwo2 := HWO2.out
      have hww := HWW.out
      clear hce hne hie hcl a3 az x l
      go_wp2_with (
        at_builtin
        go_loud (refine wpList_append_G funE (o := ⟨some 41, _, _, _, _, _⟩) rfl (.tmp 38) (.tmp 40) 22 rfl w.heap.size w.heap.size 41 _ 56 Try.underlying22 infoFun12 rfl (((p.funcs.take k).map closeF).zip ss) (f, (⟨(FS k).a, f.code.length, (FS k).c⟩ : Slc)) (HS3.out.q.row.alloc _) (OwnE.sl (OwnE.lit funE _ w.heap.size 41 [(f, (⟨(FS k).a, f.code.length, (FS k).c⟩ : Slc))] _ w2.heap.size 1 (by simp [World.setCell]) (by omega) rfl rfl (by simp)) (Nat.le_refl _) (by simp)) (by rw [HS3.out.q.zlen, List.length_map, List.length_take]; omega) (by simp only [maxLen]; rw [HS3.out.q.zlen, List.length_map, List.length_take]; omega) (by simp [World.setCell]; omega) ?_)
        intro g5 cap5 w5 ho5 hg5 _ _ _
        have hz5 : (((p.funcs.take k).map closeF).zip ss).length = k := by rw [HS3.out.q.zlen, List.length_map, List.length_take]; omega
        rw [hz5] at ho5 ⊢
        have hS5 := (HS3.out.fresh ((Below.refl _ _).alloc (Nat.le_refl _) (.cells #[.string f.name, .int .i64 f.params, .int .i64 f.regs, .slice (FS k).a f.code.length (FS k).c] 41))).snoc (s := (⟨(FS k).a, f.code.length, (FS k).c⟩ : Slc)) (v2 := .slice (some ⟨g5, 0, none⟩) (k + 1) cap5) hlt hg5 (by rw [HF.out, HCL.out]; exact ho5) (by rw [HF.out, HCL.out]; exact HSRC.out)
        have hbq := (HS3.out.fresh ((Below.refl _ _).alloc (Nat.le_refl _) (.cells #[.string f.name, .int .i64 f.params, .int .i64 f.regs, .slice (FS k).a f.code.length (FS k).c] 41))).box.only (Only.grown hg5) ((HS3.out.fresh ((Below.refl _ _).alloc (Nat.le_refl _) (.cells #[.string f.name, .int .i64 f.params, .int .i64 f.regs, .slice (FS k).a f.code.length (FS k).c] 41))).box.neRow (HS3.out.fresh ((Below.refl _ _).alloc (Nat.le_refl _) (.cells #[.string f.name, .int .i64 f.params, .int .i64 f.regs, .slice (FS k).a f.code.length (FS k).c] 41))).q.row (by decide))
        have HS5 := hid hS5
        have q0 := hbq.cell 0 _ rfl
        have qf := hbq.frozen 0
        have qz := hbq.lt
        clear hz5 hS5 hbq ho5 hg5)
      go_roundw
      case rel =>
        refine ⟨k + 1, _, _, _, c + 1, by omega, by go_num, HS5.out, fun i hi => ?_⟩
        rcases Nat.lt_or_ge i k with h5 | h5
        · exact HIMP.out i h5
        · rw [show i = k by omega]; exact HIO.out
      case measure => simp [intOf] <;> omega
  · have hke : k = p.funcs.length := by omega
    subst hke
    have hq := HST.out.q
    rw [List.take_length] at hq
    have HQ := hid hq
    have himp : impB p = true := by
      unfold impB
      rw [List.all_eq_true]
      intro i hi
      have h1 := HIMP.out i (List.mem_range.1 hi)
      cases hc : (nth p.funcs i).code with
      | nil =>
        obtain ⟨h2, h3⟩ := h1 hc
        simp [h2, h3]
      | cons x l => simp
    have HIM := hid himp
    have hpw := HP.out.below hq.low
    have HPG := hid (SlE.mono hpw.globs (Nat.zero_le lo))
    have HPL := hid (show LaysAt 0 wo (.slice la p.layouts.length lc) p.layouts by
      obtain ⟨S, h1, h2, h3⟩ := hpw.lays
      exact ⟨S, h1, SlE.mono h2 (Nat.zero_le lo), fun i hi => SlE.mono (h3 i hi) (Nat.zero_le lo)⟩)
    have hcl1 : ∀ f ∈ p.funcs.map closeF, f.code.length ≤ 140737488355328 := fun f hf => by
      obtain ⟨g, hg, rfl⟩ := List.mem_map.1 hf
      unfold closeF
      split
      · simp
      · have := (HWF.out.func g hg).code; omega
    have HCL1 := hid hcl1
    clear hq himp hpw hcl1
    by_cases hmain : p.main = -1
    · have hmn : (p.main == -1) = true := by simp [hmain]
      have HMAIN := hid hmain
      clear hmain
      go_wp2_with fail
      go_loopw [7] (fun nv wr => ∃ j : Nat, nv = .string (tryN j) ∧ (∀ i, i < j → tryN i ∈ p.funcs.map (fun f : Fun => f.name)) ∧ Below wo.heap.size wo wr) (fun nv _ => p.funcs.length + 4 - (match nv with | .string s => s.size | _ => 0))
      case atStart => exact ⟨0, rfl, fun i hi => by omega, Below.refl _ _⟩
      case round =>
      clear a3 az c0 cz a0
      obtain ⟨j, rfl, hj, hbl⟩ := hrel
      obtain ⟨wi, hwi⟩ : ∃ wi, wi = wr := ⟨_, rfl⟩
      subst hwi
      have HJ := hid hj
      have HBL := hid hbl
      have HSTI := hid (HST.out.fresh hbl)
      have hjle : j ≤ p.funcs.length := by
        refine Nat.le_of_not_lt fun hgt => ?_
        have := tryN_free (p.funcs.map (fun f : Fun => f.name)) p.funcs.length (fun i hi => hj i (by omega))
        rw [List.length_map] at this
        omega
      have hgd : strK.good (tryN j) := by show (tryN j).size ≤ _; rw [tryN_size]; omega
      have HGJ := hid hgd
      have hsz : ¬ (9223372036854775807 < (tryN j).size + 1) := by rw [tryN_size]; omega
      clear hj hbl hgd
      by_cases hin : tryN j ∈ p.funcs.map (fun f : Fun => f.name)
      · have hdec : memB (tryN j) ((p.funcs.take p.funcs.length).map (fun f : Fun => f.name)) = true := memB_true (by rw [List.take_length]; exact hin)
        have hdec2 : memB (tryN j) (p.funcs.map (fun f : Fun => f.name)) = true := memB_true hin
        have HIN := hid hin
        have hjlt : j < p.funcs.length := by
          have := tryN_free (p.funcs.map (fun f : Fun => f.name)) j (fun i hi => by
            rcases Nat.lt_or_ge i j with h | h
            · exact HJ.out i h
            · rw [show i = j by omega]; exact hin)
          rwa [List.length_map] at this
        have HSU := hid (tryN_succ j)
        clear hin
        go_wp2_with (
          at_lookup
          refine wpList_look_B (K := strK) rfl _ _ 48 rfl Try.underlying48 rfl HSTI.out.m (tryN j) rfl HGJ.out ?_
          go_loud (rw [hdec]))
        refine ⟨⟨j + 1, by rw [HSU.out], fun i hi => ?_, HBL.out⟩, ?_⟩
        · rcases Nat.lt_or_ge i j with h | h
          · exact HJ.out i h
          · rw [show i = j by omega]; exact HIN.out
        · rw [HSU.out]
          simp only [tryN_size]
          omega
      · have hdec : memB (tryN j) ((p.funcs.take p.funcs.length).map (fun f : Fun => f.name)) = false := memB_false (by rw [List.take_length]; exact hin)
        have hdec2 : memB (tryN j) (p.funcs.map (fun f : Fun => f.name)) = false := memB_false hin
        have HIN := hid hin
        have c0 := HSTI.out.box.cell 0 _ rfl
        have c1 := HSTI.out.box.cell 1 _ rfl
        have c2 := HSTI.out.box.cell 2 _ rfl
        have c3 := HSTI.out.box.cell 3 _ rfl
        have c3f := HSTI.out.box.frozen 3
        have cz := HSTI.out.box.lt
        clear hin
        go_wp2_with (
          at_lookup
          refine wpList_look_B (K := strK) rfl _ _ 48 rfl Try.underlying48 rfl HSTI.out.m (tryN j) rfl HGJ.out ?_
          go_loud (rw [hdec]))
        have hxq := HSTI.out.box.set 3 (.int .i64 p.funcs.length)
        have hq1 := HQ.out.fresh HBL.out
        have hX : Below w.heap.size wi (wi.setCell ⟨w.heap.size + 2, 3, none⟩ (.int .i64 p.funcs.length)) := (Below.refl _ _).setCell (by show w.heap.size ≤ w.heap.size + 2; omega) _
        have hq2 := hq1.onlyBox (Only.store wi (w.heap.size + 2) 3 (.int .i64 p.funcs.length)) hX HSTI.out.box (by decide) (by decide)
        obtain ⟨X, hXe⟩ : ∃ X, wi.setCell ⟨w.heap.size + 2, 3, none⟩ (.int .i64 p.funcs.length) = X := ⟨_, rfl⟩
        have hXg : wi.setCell ⟨w.heap.size + 1 + 1, 3, none⟩ (.int .i64 p.funcs.length) = X := hXe
        rw [hXe] at hxq hq2
        first | rw [hXe] | rw [hXg]
        have HXQ := hid hxq
        have HQ2 := hid hq2
        have hbq : w.heap.size + 2 < X.heap.size := hxq.lt
        clear hXe hXg hX hq1 hxq hq2 c0 c1 c2 c3 c3f cz hdec hdec2
        have HG := hid (show ∀ w', BoxAt w' (w.heap.size + 2) 26 [.slice va p.funcs.length vc, .slice ga p.globals.length gc, .slice la p.layouts.length lc, .int .i64 p.funcs.length] → w'.cell? ⟨w.heap.size + 2, 0, none⟩ = some (.slice va p.funcs.length vc) ∧ w.heap.size + 2 < w'.heap.size from fun w' hw => ⟨hw.cell 0 _ rfl, hw.lt⟩)
        refine Plan.wp_chainG planLV19 (fun w' => BoxAt w' (w.heap.size + 2) 26 [.slice va p.funcs.length vc, .slice ga p.globals.length gc, .slice la p.layouts.length lc, .int .i64 p.funcs.length]) HXQ.out.drew (by kernel_rfl) rfl (by kernel_rfl) (by kernel_rfl) ?_
        repeat (first | (apply Plan.chain_skip rfl rfl; simp only [Act.put, List.setIfInBounds_toArray, List.set_cons_zero, List.set_cons_succ]) | (apply Plan.chain_det rfl rfl; (· intro w' hb; obtain ⟨hcl, hG⟩ := HG.out w' hb; go_simp; rfl); simp only [Act.put, List.setIfInBounds_toArray, List.set_cons_zero, List.set_cons_succ]))
        refine Plan.chain_call 26 #[] (fun v w' => ∃ g3 cap3, v = .slice (some ⟨g3, 0, none⟩) 1 cap3 ∧ OwnE insE X.heap.size 43 w' v [retI] ∧ Below X.heap.size X w') rfl rfl rfl (by go_simp) ?_ (fun v w' h => ?_) (fun v3 w3 h => ?_)
        · refine (end_calls X.drew).mono ?_
          rintro e w' ⟨v, rfl, ho, hb⟩
          obtain ⟨g3, cap3, rfl, -, -⟩ := ho.open (by simp)
          exact ⟨_, rfl, g3, cap3, rfl, ho, (Below.refl _ _).drew.trans hb⟩
        · obtain ⟨_, _, _, _, hb⟩ := h
          exact HXQ.out.below hb
        obtain ⟨g3, cap3, rfl, ho3, hb3⟩ := h
        simp only [Act.put, List.setIfInBounds_toArray, List.set_cons_zero, List.set_cons_succ]
        have HO3 := hid ho3
        have HB3 := hid hb3
        clear ho3 hb3
        repeat (first | (apply Plan.chain_skip rfl rfl; simp only [Act.put, List.setIfInBounds_toArray, List.set_cons_zero, List.set_cons_succ]) | (apply Plan.chain_det rfl rfl; (· intro w' hb; obtain ⟨hcl, hG⟩ := HG.out w' hb; go_simp; rfl); simp only [Act.put, List.setIfInBounds_toArray, List.set_cons_zero, List.set_cons_succ]))
        have HA3 := hid (show Below w3.heap.size w3 (w3.alloc (.cells #[.string (tryN j), .int .i64 0, .int .i64 0, .slice (some ⟨g3, 0, none⟩) 1 cap3] 41)) from (Below.refl _ _).alloc (Nat.le_refl _) _)
        refine Plan.chain_run (.slice (some ⟨w3.heap.size, 0, none⟩) 1 1) (w3.alloc (.cells #[.string (tryN j), .int .i64 0, .int .i64 0, .slice (some ⟨g3, 0, none⟩) 1 cap3] 41)) rfl rfl rfl (by go_simp) (HXQ.out.below (HB3.out.trans (HA3.out.mono HB3.out.size))) ?_
        simp only [Act.put, List.setIfInBounds_toArray, List.set_cons_zero, List.set_cons_succ]
        have HQ3 := hid ((HQ2.out.fresh HB3.out).fresh HA3.out)
        have hzl : ((p.funcs.map closeF).zip ss).length = p.funcs.length := by rw [HQ3.out.zlen, List.length_map]
        refine Plan.chain_appG funE (.tmp 57) (.tmp 61) 22 w.heap.size w.heap.size 41 _ 56 ((p.funcs.map closeF).zip ss) [(mainF (tryN j), ⟨some ⟨g3, 0, none⟩, 1, cap3⟩)] rfl rfl rfl rfl Try.underlying22 infoFun12 rfl HQ3.out.row (OwnE.sl (OwnE.lit funE w3 w.heap.size 41 [(mainF (tryN j), ⟨some ⟨g3, 0, none⟩, 1, cap3⟩)] _ w3.heap.size 1 rfl (by have := HB3.out.size; omega) rfl rfl (by simp)) (Nat.le_refl _) (by simp)) (by rw [hzl]; simp; omega) (by rw [hzl]; simp only [maxLen]; simp; omega) (by have := HB3.out.size; simp; omega) (fun g5 cap5 w5 ho5 hg5 => ?_)
        have hz5 : ((p.funcs.map closeF).zip ss ++ [(mainF (tryN j), (⟨some ⟨g3, 0, none⟩, 1, cap3⟩ : Slc))]).length = p.funcs.length + 1 := by rw [List.length_append, hzl]; rfl
        rw [hz5] at ho5 ⊢
        have hx3 := HXQ.out.below (HB3.out.trans (HA3.out.mono HB3.out.size))
        have hx5 := hx3.only (Only.grown hg5) (hx3.neRow HQ3.out.row (by decide))
        have hq5 := HQ3.out.snoc (f := mainF (tryN j)) (s := ⟨some ⟨g3, 0, none⟩, 1, cap3⟩) hg5 ho5 (.inr ((HO3.out.mono (by omega)).fresh (Only.below HA3.out none)))
        have HX5 := hid hx5
        have HQ5 := hid hq5
        refine ⟨hx5, ?_⟩
        simp only [Act.put, List.setIfInBounds_toArray, List.set_cons_zero, List.set_cons_succ]
        have q0 := hx5.cell 0 _ rfl
        have qf := hx5.frozen 0
        have qz := hx5.lt
        clear hx3 hx5 hq5 ho5 hg5 hz5 hzl
        repeat (first | (apply Plan.chain_skip rfl rfl; simp only [Act.put, List.setIfInBounds_toArray, List.set_cons_zero, List.set_cons_succ]) | (apply Plan.chain_det rfl rfl; (· intro w' hb; obtain ⟨hcl, hG⟩ := HG.out w' hb; go_simp; rfl); simp only [Act.put, List.setIfInBounds_toArray, List.set_cons_zero, List.set_cons_succ]))
        refine Plan.chain_fin rfl rfl ?_
        unfold Oper.wp
        go_simp
        have hx6 := HX5.out.set 0 (.slice g5 (p.funcs.length + 1) cap5)
        have hq6 := HQ5.out.onlyBox (Only.store w5 (w.heap.size + 2) 0 (.slice g5 (p.funcs.length + 1) cap5)) ((Below.refl _ _).setCell (by show w.heap.size ≤ w.heap.size + 2; omega) _) HX5.out (by decide) (by decide)
        obtain ⟨Y, hYe⟩ : ∃ Y, w5.setCell ⟨w.heap.size + 2, 0, none⟩ (.slice g5 (p.funcs.length + 1) cap5) = Y := ⟨_, rfl⟩
        have hYg : w5.setCell ⟨w.heap.size + 1 + 1, 0, none⟩ (.slice g5 (p.funcs.length + 1) cap5) = Y := hYe
        rw [hYe] at hx6 hq6
        first | rw [hYe] | rw [hYg]
        have HQ6 := hid hq6
        have q0 := hx6.cell 0 _ rfl
        have q1 := hx6.cell 1 _ rfl
        have q2 := hx6.cell 2 _ rfl
        have q3 := hx6.cell 3 _ rfl
        have qz := hx6.lt
        have hpw := HP.out.below hq6.low
        have HPG := hid (SlE.mono hpw.globs (Nat.zero_le lo))
        have HPL := hid (show LaysAt 0 Y (.slice la p.layouts.length lc) p.layouts by
          obtain ⟨S, h1, h2, h3⟩ := hpw.lays
          exact ⟨S, h1, SlE.mono h2 (Nat.zero_le lo), fun i hi => SlE.mono (h3 i hi) (Nat.zero_le lo)⟩)
        have hcp : validB { p with funcs := p.funcs.map closeF ++ [mainF (tryN j)], main := p.funcs.length } = partB p := by
          have e : partOf (tryN j) p = { p with funcs := p.funcs.map closeF ++ [mainF (tryN j)], main := p.funcs.length } := by unfold partOf; rw [if_pos HMAIN.out]
          rw [← e, part_any (by rw [tryN_size]; omega) (fun f hf he => HIN.out (by rw [← he]; exact List.mem_map.2 ⟨f, hf, rfl⟩))]
          unfold partB
          rw [HIM.out]; rfl
        have HCP := hid hcp
        clear hYe hYg hx6 hq6 hpw hcp
        go_wp2_with fail
        refine (cvalid_calls 0 _ _ _ { p with funcs := p.funcs.map closeF ++ [mainF (tryN j)], main := p.funcs.length } Y ⟨by
          have := HQ6.out.at (by simp; omega) (fun f hf => by
            rcases List.mem_append.1 hf with h | h
            · exact HCL1.out f h
            · rw [List.mem_singleton.1 h]; simp [mainF])
          simpa using this, HPG.out, HPL.out⟩).mono ?_
        rintro e w7 ⟨rfl, hb7⟩
        have HB7 := hid (bvia HQ6.out.low hb7)
        rw [HCP.out]
        clear hb7
        go_wp2_with fail
        go_ret
        exact ⟨rfl, HB7.out⟩
    · have hmn : (p.main == -1) = false := by simp [hmain]
      have hcp : validB { p with funcs := p.funcs.map closeF } = partB p := by
        unfold partB partOf
        rw [if_neg hmain, HIM.out]; rfl
      have HCP := hid hcp
      have c1 := HST.out.box.cell 1 _ rfl
      have c2 := HST.out.box.cell 2 _ rfl
      have c3 := HST.out.box.cell 3 _ rfl
      clear hmain hcp
      go_wp2_with fail
      refine (cvalid_calls 0 _ _ _ { p with funcs := p.funcs.map closeF } wo ⟨by have := HQ.out.at (by rw [List.length_map]; omega) HCL1.out; exact this, HPG.out, HPL.out⟩).mono ?_
      rintro e w2 ⟨rfl, hb2⟩
      have HB2 := hid (bvia HST.out.q.low hb2)
      rw [HCP.out]
      clear hb2
      go_wp2_with fail
      go_ret
      exact ⟨rfl, HB2.out⟩

end Go.Proofs.Ytealeofgfgbheaa
