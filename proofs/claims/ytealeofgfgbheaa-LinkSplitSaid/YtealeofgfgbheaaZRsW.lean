/-
  The reference's Split, walked.
-/
import Derived.Test.YtealeofgfgbheaaZValid
import Derived.Test.YtealeofgfgbheaaZCopy
import Derived.Test.YtealeofgfgbheaaZRsP
namespace Go.Proofs.Ytealeofgfgbheaa
set_option linter.unusedVariables false
set_option linter.unusedSimpArgs false
open Go.RowKit

set_option maxRecDepth 100000 in
theorem ruses12_calls (x : Ins) (w : World) : Calls Try.prog 39 #[.agg #[.int .i64 x.op, .int .i64 x.a, .int .i64 x.b, .int .i64 x.c, .int .i64 x.pos]] w fun e w' => e = .returned (.bool (callB x.op)) ∧ Below w.heap.size w w' := by
  have hb : Below w.heap.size w (w.alloc (.cells #[.int .i64 x.op, .int .i64 x.a, .int .i64 x.b, .int .i64 x.c, .int .i64 x.pos] 43)) := (Below.refl _ _).alloc (Nat.le_refl _) _
  have HB := hid hb
  clear hb
  cases h26 : (x.op == 26) with
  | true =>
    have hc : callB x.op = true := by unfold callB; rw [h26]; rfl
    rw [hc]
    clear hc
    go_enter Try.func39, Try.ntmps39
    go_wp2_with fail
    go_ret
    exact ⟨rfl, HB.out⟩
  | false =>
    cases h28 : (x.op == 28) with
    | true =>
      have hc : callB x.op = true := by unfold callB; rw [h26, h28]; rfl
      rw [hc]
      clear hc
      go_enter Try.func39, Try.ntmps39
      go_wp2_with fail
      go_ret
      exact ⟨rfl, HB.out⟩
    | false =>
      cases h31 : (x.op == 31) with
      | true =>
        have hc : callB x.op = true := by unfold callB; rw [h26, h28, h31]; rfl
        rw [hc]
        clear hc
        go_enter Try.func39, Try.ntmps39
        go_wp2_with fail
        go_ret
        exact ⟨rfl, HB.out⟩
      | false =>
        have hc : callB x.op = (x.op == 24) := by unfold callB; rw [h26, h28, h31]; rfl
        rw [hc]
        clear hc
        obtain ⟨b, hb⟩ : ∃ b, (x.op == 24) = b := ⟨_, rfl⟩
        rw [hb]
        go_enter Try.func39, Try.ntmps39
        go_wp2_with fail
        go_ret
        exact ⟨rfl, HB.out⟩

noncomputable def planRs28 : Plan := mkPlan (regionOf Try.f20 28) [] []

set_option maxRecDepth 100000 in
set_option maxHeartbeats 8000000 in
theorem rsplit_calls (lo : Nat) (vf vg vl : Value) (p : Prg) (w : World) (hp : ProgAt lo w vf vg vl p) (hwf : PrgWf p) :
    Calls Try.prog 20 #[.agg #[vf, vg, vl, .int .i64 p.main]] w fun e w' => ∃ v T, e = .returned v ∧ ProgsQ w.heap.size w' v (splitL p) T ∧ Below w.heap.size w w' := by
  have HP := hid hp
  have HWF := hid hwf
  obtain ⟨fa, fc, _, _, _, rfl, -⟩ := hp.funcs.open
  obtain ⟨ga, gc, _, _, rfl, -⟩ := hp.globs.open
  obtain ⟨la, lc, _, _, _, rfl, -⟩ := hp.lays.open
  clear hp hwf
  go_enter Try.func20, Try.ntmps20
  go_wp2_with fail
  generalize hW : World.alloc _ _ = W
  have hbW : Below w.heap.size w W := by rw [← hW]; exact (Below.refl _ _).alloc (Nat.le_refl _) _
  have R1 := hid (show BoxAt W w.heap.size 26 [.slice fa p.funcs.length fc, .slice ga p.globals.length gc, .slice la p.layouts.length lc, .int .i64 p.main] by rw [← hW]; exact BoxAt.new _ _ _ _ _ rfl rfl)
  have HBW := hid hbW
  clear hW hbW
  refine (valid_calls lo _ _ _ p W (HP.out.below HBW.out)).mono ?_
  rintro e w1 ⟨rfl, hb1⟩
  have HB1 := hid (bvia HBW.out hb1)
  have R2 := hid (R1.out.below hb1)
  have c0 := R2.out.cell 0 _ rfl
  have cz := R2.out.lt
  clear hb1 R1
  cases hv : validB p with
  | false =>
    have hs : splitL p = [] := by unfold splitL; rw [hv]; simp
    have HSP := hid hs
    clear hs hv
    go_wp2_with fail
    go_ret
    exact ⟨_, [], rfl, by rw [HSP.out]; exact ProgsQ.nil _ _, HB1.out⟩
  | true =>
    have HV := hid hv
    have h64 := (valid_pos hv).2
    clear hv
    by_cases hn : p.funcs.length = 64
    · have he : ((p.funcs.length : Int) == 64) = true := by rw [hn]; rfl
      have hs : splitL p = [] := by unfold splitL; rw [if_neg (fun h => absurd h.2 (by omega))]
      have HSP := hid hs
      clear hs hn
      go_wp2_with fail
      go_ret
      exact ⟨_, [], rfl, by rw [HSP.out]; exact ProgsQ.nil _ _, HB1.out⟩
    · have he : ((p.funcs.length : Int) == 64) = false := by rw [beq_eq_false_iff_ne]; omega
      have hlt64 : p.funcs.length < 64 := by have := (valid_iff p).1 HV.out; omega
      have hs : splitL p = (List.range p.funcs.length).map (partP p) := by unfold splitL; rw [if_pos ⟨HV.out, hlt64⟩]
      have HSP := hid hs
      clear hs hn
      go_wp2_with fail
      clear he
      go_loopw [4, 3] (fun iv sv wr => ∃ (k : Nat) (T : List PV) (a : Option Addr) (c : Nat), k ≤ p.funcs.length ∧ iv = .int .i64 k ∧ sv = .slice a k c ∧ ProgsQ (w.heap.size + 1) wr (.slice a k c) ((List.range k).map (partP p)) T ∧ BoxAt wr w.heap.size 26 [.slice fa p.funcs.length fc, .slice ga p.globals.length gc, .slice la p.layouts.length lc, .int .i64 p.main] ∧ Below w.heap.size w wr) (fun iv _ _ => p.funcs.length - (intOf iv).toNat)
      case atStart => exact ⟨0, [], none, 0, Nat.zero_le _, rfl, rfl, ProgsQ.nil _ _, R2.out, HB1.out⟩
      case round =>
      clear c0 cz R2 HB1
      obtain ⟨i, T, a, c, hi, rfl, rfl, hq, hx, hb⟩ := hrel
      obtain ⟨wo, hwo⟩ : ∃ wo, wo = wr := ⟨_, rfl⟩
      subst hwo
      have HQ := hid hq
      have HX := hid hx
      have HB := hid hb
      have c0 := hx.cell 0 _ rfl
      have cz := hx.lt
      clear hq hx hb
      by_cases hlt : i < p.funcs.length
      · have hlt2 : (i : Int) < p.funcs.length := Int.ofNat_lt.2 hlt
        have hki : ¬ ((i : Int) < 0) := by omega
        have hmb : ∀ u : World, (Instr.makeSlice 66 (.int .i64 (p.funcs.length : Int)) (.int .i64 (p.funcs.length : Int))).run Try.prog u = .ok (.slice (some ⟨u.heap.size, 0, none⟩) p.funcs.length p.funcs.length) (u.alloc (.cells (madeCells #[.bool false] p.funcs.length) 4)) := fun u => run_make_row' (P := Try.prog) 66 4 (.bool false) 1 Try.underlying66 infoB rfl .i64 .i64 p.funcs.length (by omega) (by omega) u
        have hmi : (madeCells #[Value.bool false] p.funcs.length)[i]? = some (.bool false) := by
          rw [← Array.getElem?_toList, made_listR]; simp [hlt]
        go_wp2_with fail
        generalize hW2 : World.alloc _ _ = W2
        have HU := hid (show OwnE boolE wo.heap.size 4 W2 (.slice (some ⟨wo.heap.size, 0, none⟩) p.funcs.length p.funcs.length) (uL p i 0) by
          rw [← hW2]
          exact OwnE.lit boolE wo wo.heap.size _ _ _ _ _ rfl (Nat.le_refl _) (uL_len p i 0).symm (by rw [bool_flat, ← uL_zero, Array.toList_setIfInBounds, made_listR]; simp [List.map_set]) (by rw [uL_len]; omega))
        have HB2 := hid (show Below wo.heap.size wo W2 by rw [← hW2]; exact (Below.refl _ _).alloc (Nat.le_refl _) _)
        obtain ⟨bu, hbu⟩ : ∃ b, wo.heap.size = b := ⟨_, rfl⟩
        have HBU := hid hbu
        have HU2 := hid (show OwnE boolE wo.heap.size 4 W2 (.slice (some ⟨bu, 0, none⟩) p.funcs.length p.funcs.length) (uL p i 0) by rw [← hbu]; exact HU.out)
        first | rw [hbu] | skip
        clear hW2 hbu HU c0 cz hmb hmi
        obtain ⟨_, _, fb, fo, FS, hfe, fp, f0, f1, f2, f3, fcode, fbl, -⟩ := HP.out.funcs.open
        obtain ⟨rfl, -, rfl⟩ := Value.slice.inj hfe
        obtain rfl := fp (by omega)
        obtain ⟨⟨sa, sn, sc⟩, hsF⟩ : ∃ s, FS i = s := ⟨_, rfl⟩
        have y3 := f3 i hlt
        have hcd := fcode i hlt
        rw [hsF] at y3 hcd
        dsimp only at y3 hcd
        obtain ⟨_, _, cb, co, hce, cp, k0, k1, k2, k3, k4, kbl, -, -, -, hclen⟩ := hcd.open
        obtain ⟨rfl, -, rfl⟩ := Value.slice.inj hce
        have hfk := fok_of_funcB (valid_func HV.out i hlt)
        have hcl0 := hfk.pos
        have hcl1 := hfk.le
        obtain rfl := cp hcl0
        have HFQ := hid (And.intro f0 (And.intro f1 (And.intro f2 (And.intro f3 (And.intro fcode (fbl (by omega)))))))
        have HY3 := hid y3
        have HCD := hid hcd
        have HXQ := hid (And.intro k0 (And.intro k1 (And.intro k2 (And.intro k3 (And.intro k4 (kbl hcl0))))))
        have HFK := hid hfk
        clear hfe fp f0 f1 f2 f3 fcode fbl hsF hce cp k0 k1 k2 k3 k4 kbl hfk y3 hcd
        go_loopw [6] (fun kv wr => ∃ k : Nat, k ≤ (nth p.funcs i).code.length ∧ kv = .int .i64 k ∧ OwnE boolE wo.heap.size 4 wr (.slice (some ⟨bu, 0, none⟩) p.funcs.length p.funcs.length) (uL p i k) ∧ Below wo.heap.size wo wr) (fun kv _ => (nth p.funcs i).code.length - (intOf kv).toNat)
        case atStart => exact ⟨0, Nat.zero_le _, rfl, HU2.out, HB2.out⟩
        case round =>
        clear HU2 HB2
        obtain ⟨k, hk, rfl, hu, hb⟩ := hrel
        obtain ⟨wl, hwl⟩ : ∃ wl, wl = wr := ⟨_, rfl⟩
        subst hwl
        have HU := hid hu
        have HBL := hid hb
        have hx := HX.out.below hb
        have c0 := hx.cell 0 _ rfl
        have cz := hx.lt
        have hbw := bvia HB.out hb
        obtain ⟨f0, f1, f2, f3, fcode, fbl⟩ := HFQ.out
        have z3 := (hbw.cell (p := ⟨fb, _, none⟩) fbl).trans HY3.out
        have gz := Nat.lt_of_lt_of_le fbl hbw.size
        have HBW2 := hid hbw
        clear hu hb hx f0 f1 f2 f3 fcode fbl hbw
        by_cases hkl : k < (nth p.funcs i).code.length
        · have hkl2 : (k : Int) < (nth p.funcs i).code.length := Int.ofNat_lt.2 hkl
          have hk3 : ¬ ((k : Int) < 0) := by omega
          obtain ⟨k0, k1, k2, k3, k4, kbl⟩ := HXQ.out
          obtain ⟨x, hx⟩ : ∃ x, nth (nth p.funcs i).code k = x := ⟨_, rfl⟩
          have d0 := (HBW2.out.cell (p := ⟨cb, _, none⟩) kbl).trans (k0 k hkl)
          have d1 := (HBW2.out.cell (p := ⟨cb, _, none⟩) kbl).trans (k1 k hkl)
          have d2 := (HBW2.out.cell (p := ⟨cb, _, none⟩) kbl).trans (k2 k hkl)
          have d3 := (HBW2.out.cell (p := ⟨cb, _, none⟩) kbl).trans (k3 k hkl)
          have d4 := (HBW2.out.cell (p := ⟨cb, _, none⟩) kbl).trans (k4 k hkl)
          have xz := Nat.lt_of_lt_of_le kbl HBW2.out.size
          have hins := HFK.out.ins k hkl
          rw [hx] at d0 d1 d2 d3 d4 hins
          have HXE := hid hx
          have HINS := hid hins
          clear k0 k1 k2 k3 k4 kbl hx hins
          go_wp2_with fail
          refine (ruses12_calls x wl).mono ?_
          rintro e w2 ⟨rfl, hb2⟩
          have HU2 := hid (HU.out.fresh (Only.below hb2 none))
          have HB2 := hid (bvia HBL.out hb2)
          cases hcb : callB x.op with
          | false =>
            have HCB := hid hcb
            clear hb2 hcb
            go_wp2_with fail
            refine ⟨⟨k + 1, hkl, by go_num, by rw [← uL_no p i k hkl HXE.out HCB.out]; exact HU2.out, HB2.out⟩, ?_⟩
            simp only [intOf]
            omega
          | true =>
            obtain ⟨b0, b1⟩ := call_range HINS.out hcb
            have HCB := hid hcb
            obtain ⟨nb, hnb⟩ : ∃ nb : Nat, x.b = nb := ⟨x.b.toNat, by omega⟩
            have hnl : nb < p.funcs.length := by omega
            have hnl2 : (nb : Int) < p.funcs.length := Int.ofNat_lt.2 hnl
            have hn3 : ¬ ((nb : Int) < 0) := by omega
            have HN := hid (show x.b.toNat = nb by omega)
            have HB0 := hid b0
            have hx := HX.out.below HB2.out
            have e0 := hx.cell 0 _ rfl
            have ez := hx.lt
            have t3 := (hb2.cell (p := ⟨fb, _, none⟩) gz).trans z3
            have g2 := Nat.lt_of_lt_of_le gz hb2.size
            have t2 := (hb2.cell (p := ⟨cb, _, none⟩) xz).trans d2
            rw [hnb] at t2
            have x2 := Nat.lt_of_lt_of_le xz hb2.size
            have u0 := HU2.out.cellAt nb 0 (by rw [uL_len]; exact hnl) (by decide)
            have u0' : w2.cell? ⟨bu, nb, none⟩ = some (.bool (nth (uL p i k) nb)) := by
              have h := u0
              rw [show boolE.sz = 1 from rfl, Nat.mul_one, Nat.add_zero] at h
              exact h
            have uf := HU2.out.frozenAt nb
            have uz := (HU2.out.lt bu rfl).2
            have hput := HU2.out.put nb 0 (.bool true) true (by rw [uL_len]; exact hnl) (by decide) rfl
            have HPUT := hid (show OwnE boolE wo.heap.size 4 (w2.setCell ⟨bu, nb, none⟩ (.bool true)) (.slice (some ⟨bu, 0, none⟩) p.funcs.length p.funcs.length) (uL p i (k + 1)) by
              rw [← uL_yes p i k hkl HXE.out HCB.out HB0.out, HN.out]
              simpa [boolE] using hput)
            have HGE := hid (HU2.out.lt bu rfl).1
            clear hcb b0 b1 hx hb2 d0 d1 d2 d3 d4 c0 cz z3 gz xz u0 hput hnb
            go_wp2_with fail
            refine ⟨⟨k + 1, hkl, by go_num, HPUT.out, HB2.out.setCell (p := ⟨bu, nb, none⟩) HGE.out _⟩, ?_⟩
            simp only [intOf]
            omega
        · have hke : k = (nth p.funcs i).code.length := by omega
          subst hke
          have c1 := (HX.out.below HBL.out).cell 1 _ rfl
          have c2 := (HX.out.below HBL.out).cell 2 _ rfl
          have hpa : ProgAt lo wl (.slice none 0 0) (.slice ga p.globals.length gc) (.slice la p.layouts.length lc) ⟨[], p.globals, p.layouts, -1⟩ :=
            ⟨⟨[], rfl, (OwnE.nil funE lo 41 wl).sl (Nat.le_refl _) (by simp), fun i hi => by simp at hi⟩, (HP.out.below HBW2.out).globs, (HP.out.below HBW2.out).lays⟩
          have HPA := hid hpa
          have HWF2 := hid (show PrgWf ⟨[], p.globals, p.layouts, -1⟩ from ⟨by simp, by simp, HWF.out.globs, HWF.out.glob, HWF.out.lays, HWF.out.lay, by show I64 (-1); unfold I64; omega⟩)
          clear hpa
          go_wp2_with fail
          refine (copy_calls lo _ _ _ (⟨[], p.globals, p.layouts, -1⟩ : Prg) wl HPA.out HWF2.out).mono ?_
          rintro e w3 ⟨uf, ug, ul, rfl, hop, hb3⟩
          obtain ⟨ss0, hof⟩ := hop.funcs
          obtain ⟨rs, hol⟩ := hop.lays
          have hog := hop.globs
          have hrow := hof.row
          simp only [List.zip_nil_left] at hrow
          obtain ⟨qa0, qc0, hqe⟩ := hrow.anySlice
          obtain ⟨oa, oc, hoe⟩ := hog.anySlice
          obtain ⟨ua, uc, hue⟩ := hol.row.anySlice
          rw [hol.len] at hue
          simp only [List.length_nil] at hqe
          dsimp only at hoe hue
          subst hqe hoe hue
          have HQ0 := hid hrow
          have HOG := hid hog
          have HOL := hid hol
          have HB3 := hid (bvia HBL.out hb3)
          have HWL := hid HBL.out.size
          have HU3 := hid (HU.out.fresh (Only.below hb3 none))
          have hx := HX.out.below HB3.out
          have e0 := hx.cell 0 _ rfl
          have ez := hx.lt
          have hmi : ∀ u : World, (Instr.makeSlice 45 (.int .i64 (p.funcs.length : Int)) (.int .i64 (p.funcs.length : Int))).run Try.prog u = .ok (.slice (some ⟨u.heap.size, 0, none⟩) p.funcs.length p.funcs.length) (u.alloc (.cells (madeCells #[.int .i64 0] p.funcs.length) 3)) := fun u => run_make_row' (P := Try.prog) 45 3 (.int .i64 0) 8 Try.underlying45 infoI1 rfl .i64 .i64 p.funcs.length (by omega) (by omega) u
          have hlt3 : ∀ {α : Type} {E : Enc α} {base : Nat} {e : TypeId} {v : Value} {l : List α}, OwnE E base e w3 v l → ∀ b, v.ownBlock = some b → b ≠ w3.heap.size + 1 := fun h b hb => by
            have := (h.lt b hb).2
            omega
          have HAP := hid (show ∀ j, j < p.layouts.length → ∀ b, (nth rs j).val.ownBlock = some b → b ≠ w3.heap.size + 1 from fun j hj => hlt3 (hol.each j hj))
          clear hop hof hrow hog hol hb3 c0 c1 c2 cz z3 gz hx hlt3
          go_wp2_with fail
          have hal : Below w3.heap.size w3 ((w3.alloc (.cells #[.slice qa0 0 qc0, .slice oa p.globals.length oc, .slice ua p.layouts.length uc, .int .i64 (-1)] 26)).alloc (.cells (madeCells #[.int .i64 0] p.funcs.length) 3)) := ((Below.refl _ _).alloc (Nat.le_refl _) _).alloc (by simp) _
          have hst : RsSt wo ((w3.alloc (.cells #[.slice qa0 0 qc0, .slice oa p.globals.length oc, .slice ua p.layouts.length uc, .int .i64 (-1)] 26)).alloc (.cells (madeCells #[.int .i64 0] p.funcs.length) 3)) bu (w3.heap.size + 1) w3.heap.size p.funcs.length (.slice qa0 0 qc0) (.slice oa p.globals.length oc) (.slice ua p.layouts.length uc) p i 0 [] rs := by
            have hge : wo.heap.size ≤ w3.heap.size := HB3.out.size
            refine ⟨⟨by simp [flP], ?_, fun j hj => by simp [flP] at hj, HB3.out.trans (hal.mono hge)⟩, (HOG.out.mono HWL.out).fresh (Only.below hal none), ⟨HOL.out.len, (HOL.out.row.mono HWL.out).fresh (Only.below hal none), fun j hj => ((HOL.out.each j hj).mono HWL.out).fresh (Only.below hal none)⟩, ?_, HU3.out.fresh (Only.below hal none), ?_, hge, HAP.out, fun j hj => by simp [plc] at hj, fun h => by omega⟩
            · have := (HQ0.out.mono HWL.out).fresh (Only.below hal none)
              simpa [flP] using this
            · have h := (BoxAt.new w3 #[.slice qa0 0 qc0, .slice oa p.globals.length oc, .slice ua p.layouts.length uc, .int .i64 (-1)] 26 w3.heap.size _ rfl rfl).alloc (.cells (madeCells #[.int .i64 0] p.funcs.length) 3)
              have e : mR p i 0 = -1 := by unfold mR; rw [if_neg (by omega)]
              rw [e]
              exact h
            · exact OwnE.lit intE _ wo.heap.size _ _ _ _ _ (by simp) (by omega) (nL_len p i 0).symm (by rw [int_flat, ← nL_zero, made_listR]; simp) (by rw [nL_len]; omega)
          obtain ⟨W5, hW5⟩ : ∃ W5, (w3.alloc (.cells #[.slice qa0 0 qc0, .slice oa p.globals.length oc, .slice ua p.layouts.length uc, .int .i64 (-1)] 26)).alloc (.cells (madeCells #[.int .i64 0] p.funcs.length) 3) = W5 := ⟨_, rfl⟩
          obtain ⟨b7, hb7⟩ : ∃ b, w3.heap.size = b := ⟨_, rfl⟩
          obtain ⟨bn, hbn⟩ : ∃ b, w3.heap.size + 1 = b := ⟨_, rfl⟩
          rw [hW5] at hst ⊢
          rw [hbn, hb7] at hst
          first | rw [hbn] | skip
          first | rw [hb7] | skip
          have HST := hid hst
          clear hW5 hb7 hbn hst hal HQ0 HOG HOL HB3 HWL HU3 HAP hmi HU HBL HBW2 e0 ez
          go_loopw [9] (fun kv wr => ∃ (k : Nat) (ss : List Slc) (va : Option Addr) (vc : Nat), k ≤ p.funcs.length ∧ kv = .int .i64 k ∧ RsSt wo wr bu bn b7 p.funcs.length (.slice va (plc p i k) vc) (.slice oa p.globals.length oc) (.slice ua p.layouts.length uc) p i k ss rs) (fun kv _ => p.funcs.length - (intOf kv).toNat)
          case atStart => exact ⟨0, [], qa0, qc0, Nat.zero_le _, rfl, HST.out⟩
          case round =>
          clear HST
          obtain ⟨k, ss, va, vc, hk, rfl, hst⟩ := hrel
          obtain ⟨wl, hwl⟩ : ∃ wl, wl = wr := ⟨_, rfl⟩
          subst hwl
          have HST := hid hst
          have HBW2 := hid (bvia HB.out hst.q.low)
          have hx := HX.out.below hst.q.low
          have c0 := hx.cell 0 _ rfl
          have cz := hx.lt
          clear hst hx
          by_cases hkl : k < p.funcs.length
          · have hkl2 : (k : Int) < p.funcs.length := Int.ofNat_lt.2 hkl
            have hk3 : ¬ ((k : Int) < 0) := by omega
            have u0 := HST.out.used.cellAt k 0 (by rw [uL_len]; exact hkl) (by decide)
            rw [show boolE.sz = 1 from rfl, Nat.mul_one, Nat.add_zero, uL_at p i k hkl] at u0
            have u0' : wl.cell? ⟨bu, k, none⟩ = some (.bool (usedB p i k)) := u0
            have uz := (HST.out.used.lt bu rfl).2
            clear u0
            cases hu : usedB p i k with
            | false =>
              rw [hu] at u0'
              have HU := hid hu
              have HPS := hid (show plc p i (k + 1) = plc p i k by rw [plc_succ, hu]; simp)
              clear hu
              go_wp2_with fail
              refine ⟨⟨k + 1, ss, va, vc, hkl, by go_num, by rw [HPS.out]; exact HST.out.skip HU.out⟩, ?_⟩
              simp only [intOf]
              omega
            | true =>
              rw [hu] at u0'
              have HU := hid hu
              clear hu
              have hpl := plc_le p i k
              have hzf : ((flP p i k).zip ss).length = plc p i k := by rw [HST.out.q.zlen, flP_len]
              have HPS := hid (show plc p i (k + 1) = plc p i k + 1 by rw [plc_succ, HU.out]; simp)
              have HSN0 := hid (HST.out.num hkl HU.out)
              have n0 := HST.out.numb.cellAt k 0 (by rw [nL_len]; exact hkl) (by decide)
              rw [show intE.sz = 1 from rfl, Nat.mul_one, Nat.add_zero] at n0
              have n0' : wl.cell? ⟨bn, k, none⟩ = some (.int .i64 (nth (nL p i k) k)) := n0
              have nf := HST.out.numb.frozenAt k
              have nz := (HST.out.numb.lt bn rfl).2
              have b0 := HST.out.box.cell 0 _ rfl
              have bz := HST.out.box.lt
              have hbA := bvia HB.out HSN0.out.q.low
              have hxA := HX.out.below HSN0.out.q.low
              have a0 := hxA.cell 0 _ rfl
              have a3 := hxA.cell 3 _ rfl
              have az := hxA.lt
              obtain ⟨f0, f1, f2, f3, fcode, fbl⟩ := HFQ.out
              obtain ⟨h, hh⟩ : ∃ h, nth p.funcs k = h := ⟨_, rfl⟩
              have z0 := (hbA.cell (p := ⟨fb, _, none⟩) fbl).trans (f0 k hkl)
              have z1 := (hbA.cell (p := ⟨fb, _, none⟩) fbl).trans (f1 k hkl)
              have z2 := (hbA.cell (p := ⟨fb, _, none⟩) fbl).trans (f2 k hkl)
              have z3 := (hbA.cell (p := ⟨fb, _, none⟩) fbl).trans (f3 k hkl)
              have gz := Nat.lt_of_lt_of_le fbl hbA.size
              have hck := fcode k hkl
              rw [hh] at z0 z1 z2 z3 hck
              have HCK := hid hck
              have HH := hid hh
              have bA0 := HSN0.out.box.cell 0 _ rfl
              have bAz := HSN0.out.box.lt
              have HGE := hid HST.out.q.low.size
              have HBZ := hid bz
              have HAL := hid (show Below (wl.setCell ⟨bn, k, none⟩ (.int .i64 (plc p i k : Nat))).heap.size (wl.setCell ⟨bn, k, none⟩ (.int .i64 (plc p i k : Nat))) ((wl.setCell ⟨bn, k, none⟩ (.int .i64 (plc p i k : Nat))).alloc (.cells #[.string h.name, .int .i64 h.params, .int .i64 h.regs, .slice (FS k).a h.code.length (FS k).c] 41)) from (Below.refl _ _).alloc (Nat.le_refl _) _)
              have HBX := hid (show BoxAt ((wl.setCell ⟨bn, k, none⟩ (.int .i64 (plc p i k : Nat))).alloc (.cells #[.string h.name, .int .i64 h.params, .int .i64 h.regs, .slice (FS k).a h.code.length (FS k).c] 41)) wl.heap.size 41 [.string h.name, .int .i64 h.params, .int .i64 h.regs, .slice (FS k).a h.code.length (FS k).c] from BoxAt.new (wl.setCell ⟨bn, k, none⟩ (.int .i64 (plc p i k : Nat))) _ _ _ _ (by simp [World.setCell]) rfl)
              have hhl : h.code.length ≤ 1000 := by
                have := (fok_of_funcB (valid_func HV.out k hkl)).le
                rw [hh] at this
                exact this
              clear n0 hbA hxA f0 f1 f2 f3 fcode fbl hck hh
              by_cases hki2 : k = i
              · obtain rfl : i = k := hki2.symm
                have hne : ((i : Int) != (i : Int)) = false := by simp
                have HPF := hid (show h = partF0 p i i by unfold partF0; rw [if_pos rfl]; exact HH.out.symm)
                by_cases hm : (i : Int) = p.main
                · have hme : ((i : Int) == p.main) = true := by simp [hm]
                  have HW12 := hid (show RsG wo (((wl.setCell ⟨bn, i, none⟩ (.int .i64 (plc p i i : Nat))).setCell ⟨b7, 3, none⟩ (.int .i64 (plc p i i : Nat))).alloc (.cells #[.string h.name, .int .i64 h.params, .int .i64 h.regs, .slice (FS i).a h.code.length (FS i).c] 41)) bu bn b7 p.funcs.length (.slice va (plc p i i) vc) (.slice oa p.globals.length oc) (.slice ua p.layouts.length uc) p i i ss rs (nL p i (i + 1)) (mR p i (i + 1)) from by rw [mR_self, if_pos hm]; exact (HSN0.out.setMain _).fresh ((Below.refl _ _).alloc (Nat.le_refl _) _))
                  have HBX12 := hid (show BoxAt (((wl.setCell ⟨bn, i, none⟩ (.int .i64 (plc p i i : Nat))).setCell ⟨b7, 3, none⟩ (.int .i64 (plc p i i : Nat))).alloc (.cells #[.string h.name, .int .i64 h.params, .int .i64 h.regs, .slice (FS i).a h.code.length (FS i).c] 41)) wl.heap.size 41 [.string h.name, .int .i64 h.params, .int .i64 h.regs, .slice (FS i).a h.code.length (FS i).c] from BoxAt.new _ _ _ _ _ (by simp [World.setCell]) rfl)
                  have HSZ12 := hid (show (((wl.setCell ⟨bn, i, none⟩ (.int .i64 (plc p i i : Nat))).setCell ⟨b7, 3, none⟩ (.int .i64 (plc p i i : Nat))).alloc (.cells #[.string h.name, .int .i64 h.params, .int .i64 h.regs, .slice (FS i).a h.code.length (FS i).c] 41)).heap.size = wl.heap.size + 1 by simp [World.setCell])
                  have HBW12 := hid (show Below w.heap.size w (((wl.setCell ⟨bn, i, none⟩ (.int .i64 (plc p i i : Nat))).setCell ⟨b7, 3, none⟩ (.int .i64 (plc p i i : Nat))).alloc (.cells #[.string h.name, .int .i64 h.params, .int .i64 h.regs, .slice (FS i).a h.code.length (FS i).c] 41)) from bvia HB.out HW12.out.q.low)
                  have HAL12 := hid (show Below (((wl.setCell ⟨bn, i, none⟩ (.int .i64 (plc p i i : Nat))).setCell ⟨b7, 3, none⟩ (.int .i64 (plc p i i : Nat))).alloc (.cells #[.string h.name, .int .i64 h.params, .int .i64 h.regs, .slice (FS i).a h.code.length (FS i).c] 41)).heap.size (((wl.setCell ⟨bn, i, none⟩ (.int .i64 (plc p i i : Nat))).setCell ⟨b7, 3, none⟩ (.int .i64 (plc p i i : Nat))).alloc (.cells #[.string h.name, .int .i64 h.params, .int .i64 h.regs, .slice (FS i).a h.code.length (FS i).c] 41)) ((((wl.setCell ⟨bn, i, none⟩ (.int .i64 (plc p i i : Nat))).setCell ⟨b7, 3, none⟩ (.int .i64 (plc p i i : Nat))).alloc (.cells #[.string h.name, .int .i64 h.params, .int .i64 h.regs, .slice (FS i).a h.code.length (FS i).c] 41)).alloc (.cells #[] 43)) from (Below.refl _ _).alloc (Nat.le_refl _) _)
                  have HNIL := hid (show OwnE insE (wl.heap.size + 1) 43 ((((wl.setCell ⟨bn, i, none⟩ (.int .i64 (plc p i i : Nat))).setCell ⟨b7, 3, none⟩ (.int .i64 (plc p i i : Nat))).alloc (.cells #[.string h.name, .int .i64 h.params, .int .i64 h.regs, .slice (FS i).a h.code.length (FS i).c] 41)).alloc (.cells #[] 43)) (.slice (some ⟨wl.heap.size + 1, 0, none⟩) 0 0) [] from OwnE.lit insE (((wl.setCell ⟨bn, i, none⟩ (.int .i64 (plc p i i : Nat))).setCell ⟨b7, 3, none⟩ (.int .i64 (plc p i i : Nat))).alloc (.cells #[.string h.name, .int .i64 h.params, .int .i64 h.regs, .slice (FS i).a h.code.length (FS i).c] 41)) (wl.heap.size + 1) 43 [] #[] (wl.heap.size + 1) 0 HSZ12.out (Nat.le_refl _) rfl rfl (by simp))
                  have HSRC := hid (show SlE insE lo ((((wl.setCell ⟨bn, i, none⟩ (.int .i64 (plc p i i : Nat))).setCell ⟨b7, 3, none⟩ (.int .i64 (plc p i i : Nat))).alloc (.cells #[.string h.name, .int .i64 h.params, .int .i64 h.regs, .slice (FS i).a h.code.length (FS i).c] 41)).alloc (.cells #[] 43)) (.slice (FS i).a h.code.length (FS i).c) h.code from SlE.below HCK.out (HBW12.out.alloc (by have := HSZ12.out; have := HGE.out; have := HB.out.size; omega) _))
                  have HS13 := hid (HW12.out.fresh HAL12.out)
                  have HBX13 := hid (HBX12.out.below HAL12.out)
                  have k12 := HBX12.out.cell 3 _ rfl
                  have k13 := HBX13.out.cell 3 _ rfl
                  have n1 := HSN0.out.numb.cellAt i 0 (by rw [nL_len]; exact hkl) (by decide)
                  rw [show intE.sz = 1 from rfl, Nat.mul_one, Nat.add_zero, nL_at p i (i + 1) i hkl (by omega) HU.out] at n1
                  have n2 : (wl.setCell ⟨bn, i, none⟩ (.int .i64 (plc p i i : Nat))).cell? ⟨bn, i, none⟩ = some (.int .i64 (plc p i i : Nat)) := n1
                  have nb3 := (HSN0.out.fresh HAL.out).box.cell 3 _ rfl
                  have nb4 := (HSN0.out.fresh HAL.out).box.frozen 3
                  clear n1
                  clear hm
                  go_wp2_with (
                    first
                    | (at_builtin
                       go_loud (refine wpList_append_E insE (o := ⟨some 129, _, _, _, _, _⟩) rfl (.tmp 126) (.tmp 128) 39 rfl (wl.heap.size + 1) lo 43 _ 40 Try.underlying39 infoIns12 rfl [] h.code HNIL.out HSRC.out (by simp; omega) (by simp only [maxLen]; simp; omega) (by simp [World.setCell]) ?_)
                       intro v6 w6 ho6 hg6
                       rw [List.nil_append] at ho6
                       obtain ⟨na, nc, hv6⟩ := ho6.anySlice
                       subst hv6
                       go_loud (
                         have hb6 := Below.grownE HAL12.out HNIL.out hg6 HAL12.out.size (Nat.le_of_eq HSZ12.out)
                         have HS6 := HW12.out.fresh hb6
                         have HBX6 := HBX12.out.below hb6
                         have HBX7 := HBX6.set 3 (.slice na h.code.length nc)
                         have hqne : ∀ q, (Value.slice va (plc p i i) vc).ownBlock = some q → q ≠ wl.heap.size := fun q hq e => by have := (HST.out.q.row.lt q hq).2; omega
                         have h7ne : b7 ≠ wl.heap.size := by have := HBZ.out; omega
                         have HS7 := HS6.far (kk := 3) HBX6 hqne h7ne HGE.out (.slice na h.code.length nc)
                         have HO7 := (ho6.mono (base' := wo.heap.size) (by have := HGE.out; omega)).only (Only.store w6 wl.heap.size 3 (.slice na h.code.length nc)) ((ho6.mono (base' := wo.heap.size) (by have := HGE.out; omega)).neBox HBX6 (by decide))
                         have hal7 : Below (w6.setCell ⟨wl.heap.size, 3, none⟩ (.slice na h.code.length nc)).heap.size (w6.setCell ⟨wl.heap.size, 3, none⟩ (.slice na h.code.length nc)) ((w6.setCell ⟨wl.heap.size, 3, none⟩ (.slice na h.code.length nc)).alloc (.cells #[.string h.name, .int .i64 h.params, .int .i64 h.regs, .slice na h.code.length nc] 41)) := (Below.refl _ _).alloc (Nat.le_refl _) _
                         have HS8 := hid (HS7.fresh hal7)
                         have HO8 := hid (show OwnE insE wo.heap.size 43 ((w6.setCell ⟨wl.heap.size, 3, none⟩ (.slice na h.code.length nc)).alloc (.cells #[.string h.name, .int .i64 h.params, .int .i64 h.regs, .slice na h.code.length nc] 41)) (.slice na h.code.length nc) h.code from HO7.fresh (Only.below hal7 none))
                         have HZ6 := hid (show wo.heap.size ≤ w6.heap.size by have h1 := hb6.size; have h2 := HGE.out; simp [World.setCell] at h1; omega)
                         have q3 := HBX6.cell 3 _ rfl
                         have qf := HBX6.frozen 3
                         have qz := HBX6.lt
                         have r0 := HBX7.cell 0 _ rfl
                         have r1 := HBX7.cell 1 _ rfl
                         have r2 := HBX7.cell 2 _ rfl
                         have r3 := HBX7.cell 3 _ rfl
                         have s0 := HS7.box.cell 0 _ rfl
                         have s6 := HS6.box.lt
                         clear HS6 HBX6 HBX7 HS7 HO7 hal7 hqne h7ne hb6 ho6 hg6))
                    | (at_builtin
                       go_loud (refine wpList_append_G funE (o := ⟨some 135, _, _, _, _, _⟩) rfl (.tmp 132) (.tmp 134) 22 rfl wo.heap.size wo.heap.size 41 _ 56 Try.underlying22 infoFun12 rfl ((flP p i i).zip ss) (h, (⟨na, h.code.length, nc⟩ : Slc)) HS8.out.q.row (OwnE.sl (OwnE.lit funE _ wo.heap.size 41 [(h, (⟨na, h.code.length, nc⟩ : Slc))] _ w6.heap.size 1 (by simp [World.setCell]) HZ6.out rfl rfl (by simp)) (Nat.le_refl _) (by simp)) (by rw [hzf]; omega) (by rw [hzf]; simp only [maxLen]; omega) (by have := HZ6.out; simp [World.setCell]; omega) ?_)
                       intro g5 cap5 w5 ho5 hg5 _ _ _
                       rw [hzf] at ho5 ⊢
                       have hS5 := RsG.add (f := h) (s := (⟨na, h.code.length, nc⟩ : Slc)) (v2 := .slice (some ⟨g5, 0, none⟩) (plc p i i + 1) cap5) HS8.out HU.out HPF.out (fun hne => absurd rfl hne) hg5 ho5 HO8.out
                       have hbq := HS8.out.box.only (Only.grown hg5) (HS8.out.box.neRow HS8.out.q.row (by decide))
                       have HS5 := hid hS5
                       have t0 := hbq.cell 0 _ rfl
                       have tf := hbq.frozen 0
                       have tz := hbq.lt
                       clear hS5 hbq ho5 hg5))
                  refine ⟨⟨i + 1, _, _, _, hkl, by go_num, by rw [HPS.out]; exact HS5.out⟩, ?_⟩
                  simp only [intOf]
                  omega
                · have hme : ((i : Int) == p.main) = false := by simp [hm]
                  have HW12 := hid (show RsG wo ((wl.setCell ⟨bn, i, none⟩ (.int .i64 (plc p i i : Nat))).alloc (.cells #[.string h.name, .int .i64 h.params, .int .i64 h.regs, .slice (FS i).a h.code.length (FS i).c] 41)) bu bn b7 p.funcs.length (.slice va (plc p i i) vc) (.slice oa p.globals.length oc) (.slice ua p.layouts.length uc) p i i ss rs (nL p i (i + 1)) (mR p i (i + 1)) from by rw [mR_self, if_neg hm, ← mR_before p i]; exact HSN0.out.fresh HAL.out)
                  have HBX12 := hid (show BoxAt ((wl.setCell ⟨bn, i, none⟩ (.int .i64 (plc p i i : Nat))).alloc (.cells #[.string h.name, .int .i64 h.params, .int .i64 h.regs, .slice (FS i).a h.code.length (FS i).c] 41)) wl.heap.size 41 [.string h.name, .int .i64 h.params, .int .i64 h.regs, .slice (FS i).a h.code.length (FS i).c] from HBX.out)
                  have HSZ12 := hid (show ((wl.setCell ⟨bn, i, none⟩ (.int .i64 (plc p i i : Nat))).alloc (.cells #[.string h.name, .int .i64 h.params, .int .i64 h.regs, .slice (FS i).a h.code.length (FS i).c] 41)).heap.size = wl.heap.size + 1 by simp [World.setCell])
                  have HBW12 := hid (show Below w.heap.size w ((wl.setCell ⟨bn, i, none⟩ (.int .i64 (plc p i i : Nat))).alloc (.cells #[.string h.name, .int .i64 h.params, .int .i64 h.regs, .slice (FS i).a h.code.length (FS i).c] 41)) from bvia HB.out HW12.out.q.low)
                  have HAL12 := hid (show Below ((wl.setCell ⟨bn, i, none⟩ (.int .i64 (plc p i i : Nat))).alloc (.cells #[.string h.name, .int .i64 h.params, .int .i64 h.regs, .slice (FS i).a h.code.length (FS i).c] 41)).heap.size ((wl.setCell ⟨bn, i, none⟩ (.int .i64 (plc p i i : Nat))).alloc (.cells #[.string h.name, .int .i64 h.params, .int .i64 h.regs, .slice (FS i).a h.code.length (FS i).c] 41)) (((wl.setCell ⟨bn, i, none⟩ (.int .i64 (plc p i i : Nat))).alloc (.cells #[.string h.name, .int .i64 h.params, .int .i64 h.regs, .slice (FS i).a h.code.length (FS i).c] 41)).alloc (.cells #[] 43)) from (Below.refl _ _).alloc (Nat.le_refl _) _)
                  have HNIL := hid (show OwnE insE (wl.heap.size + 1) 43 (((wl.setCell ⟨bn, i, none⟩ (.int .i64 (plc p i i : Nat))).alloc (.cells #[.string h.name, .int .i64 h.params, .int .i64 h.regs, .slice (FS i).a h.code.length (FS i).c] 41)).alloc (.cells #[] 43)) (.slice (some ⟨wl.heap.size + 1, 0, none⟩) 0 0) [] from OwnE.lit insE ((wl.setCell ⟨bn, i, none⟩ (.int .i64 (plc p i i : Nat))).alloc (.cells #[.string h.name, .int .i64 h.params, .int .i64 h.regs, .slice (FS i).a h.code.length (FS i).c] 41)) (wl.heap.size + 1) 43 [] #[] (wl.heap.size + 1) 0 HSZ12.out (Nat.le_refl _) rfl rfl (by simp))
                  have HSRC := hid (show SlE insE lo (((wl.setCell ⟨bn, i, none⟩ (.int .i64 (plc p i i : Nat))).alloc (.cells #[.string h.name, .int .i64 h.params, .int .i64 h.regs, .slice (FS i).a h.code.length (FS i).c] 41)).alloc (.cells #[] 43)) (.slice (FS i).a h.code.length (FS i).c) h.code from SlE.below HCK.out (HBW12.out.alloc (by have := HSZ12.out; have := HGE.out; have := HB.out.size; omega) _))
                  have HS13 := hid (HW12.out.fresh HAL12.out)
                  have HBX13 := hid (HBX12.out.below HAL12.out)
                  have k12 := HBX12.out.cell 3 _ rfl
                  have k13 := HBX13.out.cell 3 _ rfl
                  clear hm
                  go_wp2_with (
                    first
                    | (at_builtin
                       go_loud (refine wpList_append_E insE (o := ⟨some 129, _, _, _, _, _⟩) rfl (.tmp 126) (.tmp 128) 39 rfl (wl.heap.size + 1) lo 43 _ 40 Try.underlying39 infoIns12 rfl [] h.code HNIL.out HSRC.out (by simp; omega) (by simp only [maxLen]; simp; omega) (by simp [World.setCell]) ?_)
                       intro v6 w6 ho6 hg6
                       rw [List.nil_append] at ho6
                       obtain ⟨na, nc, hv6⟩ := ho6.anySlice
                       subst hv6
                       go_loud (
                         have hb6 := Below.grownE HAL12.out HNIL.out hg6 HAL12.out.size (Nat.le_of_eq HSZ12.out)
                         have HS6 := HW12.out.fresh hb6
                         have HBX6 := HBX12.out.below hb6
                         have HBX7 := HBX6.set 3 (.slice na h.code.length nc)
                         have hqne : ∀ q, (Value.slice va (plc p i i) vc).ownBlock = some q → q ≠ wl.heap.size := fun q hq e => by have := (HST.out.q.row.lt q hq).2; omega
                         have h7ne : b7 ≠ wl.heap.size := by have := HBZ.out; omega
                         have HS7 := HS6.far (kk := 3) HBX6 hqne h7ne HGE.out (.slice na h.code.length nc)
                         have HO7 := (ho6.mono (base' := wo.heap.size) (by have := HGE.out; omega)).only (Only.store w6 wl.heap.size 3 (.slice na h.code.length nc)) ((ho6.mono (base' := wo.heap.size) (by have := HGE.out; omega)).neBox HBX6 (by decide))
                         have hal7 : Below (w6.setCell ⟨wl.heap.size, 3, none⟩ (.slice na h.code.length nc)).heap.size (w6.setCell ⟨wl.heap.size, 3, none⟩ (.slice na h.code.length nc)) ((w6.setCell ⟨wl.heap.size, 3, none⟩ (.slice na h.code.length nc)).alloc (.cells #[.string h.name, .int .i64 h.params, .int .i64 h.regs, .slice na h.code.length nc] 41)) := (Below.refl _ _).alloc (Nat.le_refl _) _
                         have HS8 := hid (HS7.fresh hal7)
                         have HO8 := hid (show OwnE insE wo.heap.size 43 ((w6.setCell ⟨wl.heap.size, 3, none⟩ (.slice na h.code.length nc)).alloc (.cells #[.string h.name, .int .i64 h.params, .int .i64 h.regs, .slice na h.code.length nc] 41)) (.slice na h.code.length nc) h.code from HO7.fresh (Only.below hal7 none))
                         have HZ6 := hid (show wo.heap.size ≤ w6.heap.size by have h1 := hb6.size; have h2 := HGE.out; simp [World.setCell] at h1; omega)
                         have q3 := HBX6.cell 3 _ rfl
                         have qf := HBX6.frozen 3
                         have qz := HBX6.lt
                         have r0 := HBX7.cell 0 _ rfl
                         have r1 := HBX7.cell 1 _ rfl
                         have r2 := HBX7.cell 2 _ rfl
                         have r3 := HBX7.cell 3 _ rfl
                         have s0 := HS7.box.cell 0 _ rfl
                         have s6 := HS6.box.lt
                         clear HS6 HBX6 HBX7 HS7 HO7 hal7 hqne h7ne hb6 ho6 hg6))
                    | (at_builtin
                       go_loud (refine wpList_append_G funE (o := ⟨some 135, _, _, _, _, _⟩) rfl (.tmp 132) (.tmp 134) 22 rfl wo.heap.size wo.heap.size 41 _ 56 Try.underlying22 infoFun12 rfl ((flP p i i).zip ss) (h, (⟨na, h.code.length, nc⟩ : Slc)) HS8.out.q.row (OwnE.sl (OwnE.lit funE _ wo.heap.size 41 [(h, (⟨na, h.code.length, nc⟩ : Slc))] _ w6.heap.size 1 (by simp [World.setCell]) HZ6.out rfl rfl (by simp)) (Nat.le_refl _) (by simp)) (by rw [hzf]; omega) (by rw [hzf]; simp only [maxLen]; omega) (by have := HZ6.out; simp [World.setCell]; omega) ?_)
                       intro g5 cap5 w5 ho5 hg5 _ _ _
                       rw [hzf] at ho5 ⊢
                       have hS5 := RsG.add (f := h) (s := (⟨na, h.code.length, nc⟩ : Slc)) (v2 := .slice (some ⟨g5, 0, none⟩) (plc p i i + 1) cap5) HS8.out HU.out HPF.out (fun hne => absurd rfl hne) hg5 ho5 HO8.out
                       have hbq := HS8.out.box.only (Only.grown hg5) (HS8.out.box.neRow HS8.out.q.row (by decide))
                       have HS5 := hid hS5
                       have t0 := hbq.cell 0 _ rfl
                       have tf := hbq.frozen 0
                       have tz := hbq.lt
                       clear hS5 hbq ho5 hg5))
                  refine ⟨⟨i + 1, _, _, _, hkl, by go_num, by rw [HPS.out]; exact HS5.out⟩, ?_⟩
                  simp only [intOf]
                  omega
              · have hne : ((k : Int) != (i : Int)) = true := by simp; omega
                have HS0 := hid (show k ≠ i → (⟨none, 0, 0⟩ : Slc) = ⟨none, 0, 0⟩ from fun _ => rfl)
                have HPF := hid (show imp h = partF0 p i k by unfold partF0; rw [if_neg hki2, HH.out])
                have HSN := hid (show RsG wo (wl.setCell ⟨bn, k, none⟩ (.int .i64 (plc p i k : Nat))) bu bn b7 p.funcs.length (.slice va (plc p i k) vc) (.slice oa p.globals.length oc) (.slice ua p.layouts.length uc) p i k ss rs (nL p i (k + 1)) (mR p i (k + 1)) by
                  have h2 := HSN0.out
                  rw [← mR_other p i k hki2] at h2
                  exact h2)
                have HAL2 := hid (show Below (wl.setCell ⟨bn, k, none⟩ (.int .i64 (plc p i k : Nat))).heap.size (wl.setCell ⟨bn, k, none⟩ (.int .i64 (plc p i k : Nat))) (((wl.setCell ⟨bn, k, none⟩ (.int .i64 (plc p i k : Nat))).alloc (.cells #[.string h.name, .int .i64 h.params, .int .i64 h.regs, .slice (FS k).a h.code.length (FS k).c] 41)).alloc (.cells #[.string h.name, .int .i64 h.params, .int .i64 h.params, .slice none 0 0] 41)) from HAL.out.alloc (by simp) _)
                have HRB := hid ((HSN.out.q.row.alloc (.cells #[.string h.name, .int .i64 h.params, .int .i64 h.regs, .slice (FS k).a h.code.length (FS k).c] 41)).alloc (.cells #[.string h.name, .int .i64 h.params, .int .i64 h.params, .slice none 0 0] 41))
                clear hki2
                go_wp2_with (
                  at_builtin
                  go_loud (refine wpList_append_G funE (o := ⟨some 115, _, _, _, _, _⟩) rfl (.tmp 106) (.tmp 114) 22 rfl wo.heap.size wo.heap.size 41 _ 56 Try.underlying22 infoFun12 rfl ((flP p i k).zip ss) (imp h, (⟨none, 0, 0⟩ : Slc)) HRB.out (OwnE.sl (OwnE.lit funE _ wo.heap.size 41 [(imp h, (⟨none, 0, 0⟩ : Slc))] _ (wl.heap.size + 1) 1 (by simp [World.setCell]) (by have := HGE.out; omega) rfl rfl (by simp)) (Nat.le_refl _) (by simp)) (by rw [hzf]; omega) (by rw [hzf]; simp only [maxLen]; omega) (by have := HGE.out; simp [World.setCell]; omega) ?_)
                  intro g5 cap5 w5 ho5 hg5 _ _ _
                  rw [hzf] at ho5 ⊢
                  have hS5 := RsG.add (f := imp h) (s := (⟨none, 0, 0⟩ : Slc)) (v2 := .slice (some ⟨g5, 0, none⟩) (plc p i k + 1) cap5) (HSN.out.fresh HAL2.out) HU.out HPF.out HS0.out hg5 ho5 (OwnE.nil _ _ _ _)
                  have hbq := ((HSN.out.fresh HAL2.out).box).only (Only.grown hg5) ((HSN.out.fresh HAL2.out).box.neRow HRB.out (by decide))
                  have HS5 := hid hS5
                  have q0 := hbq.cell 0 _ rfl
                  have qf := hbq.frozen 0
                  have qz := hbq.lt
                  clear hS5 hbq ho5 hg5)
                refine ⟨⟨k + 1, _, _, _, hkl, by go_num, by rw [HPS.out]; exact HS5.out⟩, ?_⟩
                simp only [intOf]
                omega
          · have hke : k = p.funcs.length := by omega
            subst hke
            obtain ⟨g, cc, hrs⟩ := HST.out.done hlt hcl0
            have hats := flP_at p i hlt
            have hzl : ((flP p i p.funcs.length).zip ss).length = plc p i p.funcs.length := by rw [HST.out.q.zlen, flP_len]
            have hat1 : plc p i i < plc p i p.funcs.length := by have h := hats.1; rw [flP_len] at h; exact h
            obtain ⟨g5, cap5, hge, hg1, hg2⟩ := hrs.row.open (by rw [hzl]; omega)
            obtain ⟨rfl, -, rfl⟩ := Value.slice.inj hge
            have b0 := hrs.box.cell 0 _ rfl
            have bz := hrs.box.lt
            have n0 := hrs.numb.cellAt i 0 (by rw [nL_len]; exact hlt) (by decide)
            rw [show intE.sz = 1 from rfl, Nat.mul_one, Nat.add_zero, nL_at p i p.funcs.length i hlt hlt (used_self p i)] at n0
            have n1 : wl.cell? ⟨bn, i, none⟩ = some (.int .i64 (plc p i i : Nat)) := n0
            have nz := (hrs.numb.lt bn rfl).2
            have r0 := hrs.row.cellAt (plc p i i) 3 (by rw [hzl]; exact hat1) (by decide)
            have r1 : wl.cell? ⟨g5, plc p i i * 4 + 3, none⟩ = some (.slice (some ⟨g, 0, none⟩) (nth p.funcs i).code.length cc) := by
              have e : nth ((flP p i p.funcs.length).zip ss) (plc p i i) = (nth (flP p i p.funcs.length) (plc p i i), nth ss (plc p i i)) := nth_zip _ _ _ hats.1 (by rw [hrs.slen]; exact hat1)
              rw [e, hrs.self] at r0
              exact r0
            have hpl1 : (plc p i i : Int) < plc p i p.funcs.length := Int.ofNat_lt.2 hat1
            have hpl0 : ¬ ((plc p i i : Int) < 0) := by omega
            have HRS := hid hrs
            clear r0 n0 hge hrs
            go_wp2_with fail
            refine Plan.wp_chain planRs28 wl.heap.size (by kernel_rfl) rfl (by kernel_rfl) (by kernel_rfl) ?_
            repeat (first | (apply Plan.chain_skip rfl rfl; simp only [Act.put, List.setIfInBounds_toArray, List.set_cons_zero, List.set_cons_succ]) | (apply Plan.chain_det rfl rfl; (· intro w' hb; obtain ⟨hcl, hfz⟩ := bcellB hb; go_simp; rfl); simp only [Act.put, List.setIfInBounds_toArray, List.set_cons_zero, List.set_cons_succ]))
            refine Plan.chain_nil ?_
            go_wp2_with fail
            clear b0 bz n1 nz r1 hpl1 hpl0
            go_loopw [12] (fun kv wr => ∃ k : Nat, k ≤ (nth p.funcs i).code.length ∧ kv = .int .i64 k ∧ RsF wo wr bn b7 p.funcs.length g cc (.slice (some ⟨g5, 0, none⟩) (plc p i p.funcs.length) vc) (.slice oa p.globals.length oc) (.slice ua p.layouts.length uc) p i ss rs (cL p i k)) (fun kv _ => (nth p.funcs i).code.length - (intOf kv).toNat)
            case atStart => exact ⟨0, Nat.zero_le _, rfl, HRS.out.fresh (Below.refl _ _).drew⟩
            case round =>
            clear HRS HST HBW2 c0 cz
            obtain ⟨k, hk, rfl, hrs⟩ := hrel
            obtain ⟨wm, hwm⟩ : ∃ wm, wm = wr := ⟨_, rfl⟩
            subst hwm
            have HRS := hid hrs
            clear hrs
            by_cases hkl : k < (nth p.funcs i).code.length
            · have hkl2 : (k : Int) < (nth p.funcs i).code.length := Int.ofNat_lt.2 hkl
              have hk3 : ¬ ((k : Int) < 0) := by omega
              have hcl : (cL p i k).length = (nth p.funcs i).code.length := cL_len p i k hk
              obtain ⟨x, hx⟩ : ∃ x, nth (nth p.funcs i).code k = x := ⟨_, rfl⟩
              have hxk : nth (cL p i k) k = x := by rw [cL_at p i k hkl, hx]
              have d0 := HRS.out.code.cellAt k 0 (by rw [hcl]; exact hkl) (by decide)
              have d1 := HRS.out.code.cellAt k 1 (by rw [hcl]; exact hkl) (by decide)
              have d2 := HRS.out.code.cellAt k 2 (by rw [hcl]; exact hkl) (by decide)
              have d3 := HRS.out.code.cellAt k 3 (by rw [hcl]; exact hkl) (by decide)
              have d4 := HRS.out.code.cellAt k 4 (by rw [hcl]; exact hkl) (by decide)
              rw [hxk] at d0 d1 d2 d3 d4
              have d0' : wm.cell? ⟨g, k * 5, none⟩ = some (.int .i64 x.op) := d0
              have d1' : wm.cell? ⟨g, k * 5 + 1, none⟩ = some (.int .i64 x.a) := d1
              have d2' : wm.cell? ⟨g, k * 5 + 2, none⟩ = some (.int .i64 x.b) := d2
              have d3' : wm.cell? ⟨g, k * 5 + 3, none⟩ = some (.int .i64 x.c) := d3
              have d4' : wm.cell? ⟨g, k * 5 + 4, none⟩ = some (.int .i64 x.pos) := d4
              have gz := (HRS.out.code.lt g rfl).2
              have hins := HFK.out.ins k hkl
              rw [hx] at hins
              have HINS := hid hins
              have HXE := hid hx
              have HXK := hid hxk
              have HCL := hid hcl
              have HMEM := hid (show x ∈ (nth p.funcs i).code by rw [← hx]; exact nth_mem _ _ hkl)
              clear d0 d1 d2 d3 d4 hins hx hxk hcl
              go_wp2_with fail
              refine (ruses12_calls x wm).mono ?_
              rintro e w2 ⟨rfl, hb2⟩
              have HR2 := hid (HRS.out.fresh hb2)
              cases hcb : callB x.op with
              | false =>
                have hsame : cL p i k = cL p i (k + 1) := cL_same p i k hkl (by rw [HXE.out]; unfold reP; rw [hcb]; rfl)
                have HSAME := hid hsame
                clear hb2 hcb hsame
                go_wp2_with fail
                refine ⟨⟨k + 1, hkl, by go_num, by rw [← HSAME.out]; exact HR2.out⟩, ?_⟩
                simp only [intOf]
                omega
              | true =>
                obtain ⟨b0, b1⟩ := call_range HINS.out hcb
                have hub := used_of HMEM.out hcb b0
                obtain ⟨nb, hnb⟩ : ∃ nb : Nat, x.b = nb := ⟨x.b.toNat, by omega⟩
                have hnt : x.b.toNat = nb := by omega
                rw [hnt] at hub
                have hnl : nb < p.funcs.length := by omega
                have hnl2 : (nb : Int) < p.funcs.length := Int.ofNat_lt.2 hnl
                have hn3 : ¬ ((nb : Int) < 0) := by omega
                have hre : ({ nth (cL p i k) k with b := (plc p i nb : Int) } : Ins) = reP p i (nth (nth p.funcs i).code k) := by
                  rw [HXK.out, HXE.out]; unfold reP; rw [hcb, hnt]; rfl
                have hput := HR2.out.put k (by rw [HCL.out]; exact hkl) (plc p i nb : Int)
                rw [hre, cL_succ p i k hkl] at hput
                have HPUT := hid hput
                have t2 := (hb2.cell (p := ⟨g, _, none⟩) gz).trans d2'
                rw [hnb] at t2
                have tf := HR2.out.code.frozenAt (k * 5 + 2)
                have tz := (HR2.out.code.lt g rfl).2
                have m0 := HR2.out.numb.cellAt nb 0 (by rw [nL_len]; exact hnl) (by decide)
                rw [show intE.sz = 1 from rfl, Nat.mul_one, Nat.add_zero, nL_at p i p.funcs.length nb hnl hnl hub] at m0
                have m1 : w2.cell? ⟨bn, nb, none⟩ = some (.int .i64 (plc p i nb : Nat)) := m0
                have mz := (HR2.out.numb.lt bn rfl).2
                clear hb2 hcb b0 b1 hub hnb hnt hre hput m0 d0' d1' d2' d3' d4' gz
                go_wp2_with fail
                refine ⟨⟨k + 1, hkl, by go_num, HPUT.out⟩, ?_⟩
                simp only [intOf]
                omega
            · have hke : k = (nth p.funcs i).code.length := by omega
              subst hke
              have hpq := HRS.out.part hlt
              have hww : w.heap.size + 1 ≤ wo.heap.size := HX.out.lt
              have HPQ := hid (hpq.mono hww)
              have HQ2 := hid (HQ.out.fresh (Only.below HRS.out.low none))
              have HX2 := hid (HX.out.below HRS.out.low)
              have HB2 := hid (bvia HB.out HRS.out.low)
              have HZ := hid (Nat.le_trans hww HRS.out.low.size)
              have hTl : T.length = i := by rw [HQ.out.len]; simp
              have b0 := HRS.out.box.cell 0 _ rfl
              have b1 := HRS.out.box.cell 1 _ rfl
              have b2 := HRS.out.box.cell 2 _ rfl
              have b3 := HRS.out.box.cell 3 _ rfl
              have bz := HRS.out.box.lt
              clear hpq hww
              go_wp2_with (
                at_builtin
                go_loud (refine wpList_append_G prgE (o := ⟨some 172, _, _, _, _, _⟩) rfl (.tmp 169) (.tmp 171) 30 rfl (w.heap.size + 1) (w.heap.size + 1) 26 _ 80 Try.underlying30 infoPrg12 rfl T ((⟨some ⟨g5, 0, none⟩, plc p i p.funcs.length, vc⟩ : Slc), (⟨oa, p.globals.length, oc⟩ : Slc), (⟨ua, p.layouts.length, uc⟩ : Slc), (partP p i).main) (HQ2.out.row.alloc _) (OwnE.sl (OwnE.lit prgE _ (w.heap.size + 1) 26 [((⟨some ⟨g5, 0, none⟩, plc p i p.funcs.length, vc⟩ : Slc), (⟨oa, p.globals.length, oc⟩ : Slc), (⟨ua, p.layouts.length, uc⟩ : Slc), (partP p i).main)] _ wm.heap.size 1 rfl HZ.out rfl rfl (by simp)) (Nat.le_refl _) (by simp)) (by rw [hTl]; omega) (by rw [hTl]; simp only [maxLen]; omega) (by have := HZ.out; simp; omega) ?_)
                intro g7 cap7 w7 ho7 hg7 _ _ hb7
                rw [hTl] at ho7 ⊢
                have hal : Only none wm (wm.alloc (.cells #[.slice (some ⟨g5, 0, none⟩) (plc p i p.funcs.length) vc, .slice oa p.globals.length oc, .slice ua p.layouts.length uc, .int .i64 (partP p i).main] 26)) := Only.below ((Below.refl _ _).alloc (Nat.le_refl _) _) none
                have HS7 := hid ((HQ2.out.fresh hal).snoc (P := partP p i) (x := ((⟨some ⟨g5, 0, none⟩, plc p i p.funcs.length, vc⟩ : Slc), (⟨oa, p.globals.length, oc⟩ : Slc), (⟨ua, p.layouts.length, uc⟩ : Slc), (partP p i).main)) hg7 ho7 rfl (HPQ.out.fresh hal))
                have HX7 := hid ((HX2.out.alloc (.cells #[.slice (some ⟨g5, 0, none⟩) (plc p i p.funcs.length) vc, .slice oa p.globals.length oc, .slice ua p.layouts.length uc, .int .i64 (partP p i).main] 26)).only (Only.grown hg7) (fun e => by have := (HQ2.out.row.lt _ e.symm).1; omega))
                have HB7 := hid ((HB2.out.alloc (by have := HZ.out; omega) (.cells #[.slice (some ⟨g5, 0, none⟩) (plc p i p.funcs.length) vc, .slice oa p.globals.length oc, .slice ua p.layouts.length uc, .int .i64 (partP p i).main] 26)).trans (hb7.mono (Nat.le_succ _)))
                clear hal ho7 hg7 hb7)
              refine ⟨⟨i + 1, _, _, _, hlt, by go_num, rfl, by rw [List.range_succ, List.map_append]; exact HS7.out, HX7.out, HB7.out⟩, ?_⟩
              simp only [intOf]
              omega
      · have hke : i = p.funcs.length := by omega
        subst hke
        go_wp2_with fail
        go_ret
        exact ⟨_, T, rfl, by rw [HSP.out]; exact HQ.out.mono (Nat.le_succ _), HB.out⟩

end Go.Proofs.Ytealeofgfgbheaa
