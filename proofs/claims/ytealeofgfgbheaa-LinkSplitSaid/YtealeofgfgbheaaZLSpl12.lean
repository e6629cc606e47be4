/-
  LinkSplit: the law, walked.
-/
import Derived.Test.YtealeofgfgbheaaZLkS
import Derived.Test.YtealeofgfgbheaaZAwk12
import Derived.Test.YtealeofgfgbheaaZCopy
import Derived.Test.YtealeofgfgbheaaZREqual2
import Derived.Test.YtealeofgfgbheaaZRsW
namespace Go.Proofs.Ytealeofgfgbheaa
set_option linter.unusedVariables false
set_option linter.unusedSimpArgs false
open Go.RowKit

noncomputable def planSm6 : Plan := mkPlan (regionOf Try.f18 6) [(8, .new)] []

set_option maxRecDepth 100000 in
set_option maxHeartbeats 8000000 in
theorem same12_calls (b1 b2 : Nat) (v u : Value) (L : List Prg) (T U : List PV) (w : World) (hv : ProgsQ b1 w v L T) (hu : ProgsQ b2 w u L U) (hw : ∀ P ∈ L, PrgWf P) (hL : L.length ≤ 1000) :
    Calls Try.prog 18 #[v, u] w fun e w' => e = .returned (.bool true) ∧ Below w.heap.size w w' := by
  obtain ⟨va, vc, rfl⟩ := hv.row.anySlice
  obtain ⟨ua, uc, rfl⟩ := hu.row.anySlice
  have hTl := hv.len
  have hUl := hu.len
  rw [hTl] at hv ⊢
  rw [hUl] at hu ⊢
  have HV := hid hv
  have HU := hid hu
  have HW := hid hw
  clear hv hu hw
  go_enter Try.func18, Try.ntmps18
  go_wp2_with fail
  go_loopw [5] (fun iv wr => ∃ i : Nat, i ≤ L.length ∧ iv = .int .i64 i ∧ Below w.heap.size w wr) (fun iv _ => L.length - (intOf iv).toNat)
  case atStart => exact ⟨0, Nat.zero_le _, rfl, Below.refl _ _⟩
  case round =>
  obtain ⟨i, hi, rfl, hb⟩ := hrel
  obtain ⟨wo, hwo⟩ : ∃ wo, wo = wr := ⟨_, rfl⟩
  subst hwo
  have HB := hid hb
  clear hb
  by_cases hlt : i < L.length
  · have hlt2 : (i : Int) < L.length := Int.ofNat_lt.2 hlt
    have hi3 : ¬ ((i : Int) < 0) := by omega
    have hvo := HV.out.row.open (by rw [hTl]; omega)
    obtain ⟨g, vcap, hge, hg1, hg2⟩ := hvo
    obtain ⟨rfl, -, rfl⟩ := Value.slice.inj hge
    obtain ⟨k, ucap, hke, hk1, hk2⟩ := HU.out.row.open (by rw [hUl]; omega)
    obtain ⟨rfl, -, rfl⟩ := Value.slice.inj hke
    obtain ⟨a0, c0, a1, c1, a2, c2, x0, x1, x2, x3, -, hpv⟩ := HV.out.entry HW.out i hlt
    obtain ⟨d0, e0, d1, e1, d2, e2, y0, y1, y2, y3, -, hpu⟩ := HU.out.entry HW.out i hlt
    have z0 := (HB.out.cell (p := ⟨g, _, none⟩) hg2).trans x0
    have z1 := (HB.out.cell (p := ⟨g, _, none⟩) hg2).trans x1
    have z2 := (HB.out.cell (p := ⟨g, _, none⟩) hg2).trans x2
    have z3 := (HB.out.cell (p := ⟨g, _, none⟩) hg2).trans x3
    have t0 := (HB.out.cell (p := ⟨k, _, none⟩) hk2).trans y0
    have t1 := (HB.out.cell (p := ⟨k, _, none⟩) hk2).trans y1
    have t2 := (HB.out.cell (p := ⟨k, _, none⟩) hk2).trans y2
    have t3 := (HB.out.cell (p := ⟨k, _, none⟩) hk2).trans y3
    rw [Nat.add_zero] at z0 t0
    have gz := Nat.lt_of_lt_of_le hg2 HB.out.size
    have kz := Nat.lt_of_lt_of_le hk2 HB.out.size
    obtain ⟨P, hP⟩ : ∃ P, nth L i = P := ⟨_, rfl⟩
    rw [hP] at z0 z1 z2 z3 t0 t1 t2 t3 hpv hpu
    have HPV := hid (hpv.below HB.out)
    have HPU := hid (hpu.below HB.out)
    clear hge hke hg1 hg2 hk1 hk2 x0 x1 x2 x3 y0 y1 y2 y3 hpv hpu hP
    go_wp2_with fail
    refine Plan.wp_chain planSm6 wo.heap.size (by kernel_rfl) rfl (by kernel_rfl) (by kernel_rfl) ?_
    repeat (first | (apply Plan.chain_skip rfl rfl; simp only [Act.put, List.setIfInBounds_toArray, List.set_cons_zero, List.set_cons_succ]) | (apply Plan.chain_det rfl rfl; (· intro w' hb; obtain ⟨hcl, hfz⟩ := bcellB hb; go_simp; rfl); simp only [Act.put, List.setIfInBounds_toArray, List.set_cons_zero, List.set_cons_succ]))
    refine Plan.chain_call 17 #[.agg #[.slice a0 P.funcs.length c0, .slice a1 P.globals.length c1, .slice a2 P.layouts.length c2, .int .i64 P.main], .agg #[.slice d0 P.funcs.length e0, .slice d1 P.globals.length e1, .slice d2 P.layouts.length e2, .int .i64 P.main]] (fun v w' => v = .bool true ∧ Below wo.heap.size wo w') rfl rfl rfl (by go_simp) ?_ (fun v w' h => h.2) (fun va w2 h => ?_)
    · refine (requal_calls b1 b2 _ _ _ _ _ _ P P wo.drew (HPV.out.below (Below.refl _ _).drew) (HPU.out.below (Below.refl _ _).drew)).mono ?_
      rintro e w' ⟨rfl, hb⟩
      rw [eqC_true rfl]
      exact ⟨_, rfl, rfl, (Below.refl _ _).drew.trans hb⟩
    obtain ⟨rfl, hb2⟩ := h
    simp only [Act.put, List.setIfInBounds_toArray, List.set_cons_zero, List.set_cons_succ]
    have HB2 := hid (bvia HB.out hb2)
    clear hb2
    repeat (first | (apply Plan.chain_skip rfl rfl; simp only [Act.put, List.setIfInBounds_toArray, List.set_cons_zero, List.set_cons_succ]) | (apply Plan.chain_det rfl rfl; (· intro w' hb; obtain ⟨hcl, hfz⟩ := bcellB hb; go_simp; rfl); simp only [Act.put, List.setIfInBounds_toArray, List.set_cons_zero, List.set_cons_succ]))
    refine Plan.chain_nil ?_
    go_wp2_with fail
    refine ⟨⟨i + 1, hlt, by go_num, HB2.out⟩, ?_⟩
    simp only [intOf]
    omega
  · have hie : i = L.length := by omega
    subst hie
    go_wp2_with fail
    go_ret
    exact ⟨rfl, HB.out⟩

theorem split_parts {p : Prg} {P : Prg} (h : P ∈ splitL p) : partB P = true := by
  unfold splitL at h
  split at h
  · next hc =>
    rw [List.mem_map] at h
    obtain ⟨i, hi, rfl⟩ := h
    exact part_valid hc.1 hc.2 (List.mem_range.1 hi)
  · cases h
theorem split_len (p : Prg) : (splitL p).length ≤ 63 := by
  unfold splitL
  split
  · next hc => simp; omega
  · simp
theorem split_wf {p : Prg} (hw : PrgWf p) : ∀ P ∈ splitL p, PrgWf P := by
  intro P h
  by_cases hc : validB p = true ∧ p.funcs.length < 64
  · rw [split_pts hc.1 hc.2] at h
    exact (pts_ok (idx_all hc.1 hc.2 hw)).wf P h
  · unfold splitL at h
    rw [if_neg hc] at h
    cases h

set_option maxRecDepth 100000 in
set_option maxHeartbeats 8000000 in
theorem lsplit12_calls (lo : Nat) (vf vg vl : Value) (p : Prg) (w : World) (hp : ProgAt lo w vf vg vl p) (hwf : PrgWf p) :
    Calls Try.prog 5 #[.agg #[vf, vg, vl, .int .i64 p.main]] w fun e w' => e = .returned (.bool true) ∧ Below w.heap.size w w' := by
  have HP := hid hp
  have HWF := hid hwf
  obtain ⟨fa, fc, _, _, _, rfl, -⟩ := hp.funcs.open
  obtain ⟨ga, gc, _, _, rfl, -⟩ := hp.globs.open
  obtain ⟨la, lc, _, _, _, rfl, -⟩ := hp.lays.open
  clear hp hwf
  go_enter Try.func5, Try.ntmps5
  go_wp2_with fail
  generalize hW : World.alloc _ _ = W
  have hbx := show BoxAt W w.heap.size 26 [.slice fa p.funcs.length fc, .slice ga p.globals.length gc, .slice la p.layouts.length lc, .int .i64 p.main] by rw [← hW]; exact BoxAt.new _ _ _ _ _ rfl rfl
  have hbW : Below w.heap.size w W := by rw [← hW]; exact (Below.refl _ _).alloc (Nat.le_refl _) _
  have HBX := hid hbx
  have HBW := hid hbW
  clear hW hbx hbW
  refine (awake12_calls W).mono ?_
  rintro e w1 ⟨rfl, hb1⟩
  have HB1 := hid (bvia HBW.out hb1)
  have hx1 := HBX.out.below hb1
  have HX1 := hid hx1
  have c0 := hx1.cell 0 _ rfl
  have c1 := hx1.cell 1 _ rfl
  have c2 := hx1.cell 2 _ rfl
  have c3 := hx1.cell 3 _ rfl
  have s1 := hx1.lt
  clear hx1 hb1
  go_wp2_with fail
  refine (great_calls lo _ _ _ p w1 (HP.out.below HB1.out) HWF.out).mono ?_
  rintro e w2 ⟨⟨gb, rfl⟩, hb2⟩
  have HB2 := hid (bvia HB1.out hb2)
  have hx2 := HX1.out.below hb2
  have HX2 := hid hx2
  clear c0 c1 c2 c3 s1 hb2
  have c0 := hx2.cell 0 _ rfl
  have c1 := hx2.cell 1 _ rfl
  have c2 := hx2.cell 2 _ rfl
  have c3 := hx2.cell 3 _ rfl
  have s1 := hx2.lt
  clear hx2
  cases gb with
  | true =>
    go_wp2_with fail
    go_ret
    exact ⟨rfl, HB2.out⟩
  | false =>
    go_wp2_with fail
    refine (copy_calls lo _ _ _ p w2 (HP.out.below HB2.out) HWF.out).mono ?_
    rintro e w4 ⟨uf, ug, ul, rfl, hop, hb4⟩
    have hat := OwnPrg.at (lo := 0) hop (Nat.zero_le _) HWF.out
    have HAT4 := hid hat
    have HB4 := hid (bvia HB2.out hb4)
    have HX4 := hid (HX2.out.below hb4)
    obtain ⟨_, _, _, _, _, rfl, -⟩ := hat.funcs.open
    obtain ⟨_, _, _, _, rfl, -⟩ := hat.globs.open
    obtain ⟨_, _, _, _, _, rfl, -⟩ := hat.lays.open
    clear hat hop hb4 c0 c1 c2 c3 s1
    go_wp2_with fail
    refine (split_calls 0 _ _ _ p w4 HAT4.out HWF.out).mono ?_
    rintro e w5 ⟨v, T, rfl, hq, hb5⟩
    obtain ⟨va, vc, rfl⟩ := hq.row.anySlice
    have hTl := hq.len
    rw [hTl] at hq ⊢
    obtain ⟨L, hL⟩ : ∃ L, splitL p = L := ⟨_, rfl⟩
    have HPT := hid (show ∀ P ∈ L, partB P = true from fun P h => split_parts (p := p) (by rw [hL]; exact h))
    have HLW := hid (show ∀ P ∈ L, PrgWf P from fun P h => split_wf HWF.out P (by rw [hL]; exact h))
    have hLl : L.length ≤ 63 := by rw [← hL]; exact split_len p
    rw [hL] at hq hTl ⊢
    have HL := hid hL
    have HQ := hid hq
    have HB5 := hid (bvia HB4.out hb5)
    have HX5 := hid (HX4.out.below hb5)
    clear hq hb5 hL
    go_wp2_with fail
    go_loopw [4] (fun iv wr => ∃ i : Nat, i ≤ L.length ∧ iv = .int .i64 i ∧ Below w5.heap.size w5 wr) (fun iv _ => L.length - (intOf iv).toNat)
    case atStart => exact ⟨0, Nat.zero_le _, rfl, Below.refl _ _⟩
    case round =>
    obtain ⟨i, hi, rfl, hb⟩ := hrel
    obtain ⟨wo, hwo⟩ : ∃ wo, wo = wr := ⟨_, rfl⟩
    subst hwo
    have HB := hid hb
    clear hb
    by_cases hlt : i < L.length
    · have hlt2 : (i : Int) < L.length := Int.ofNat_lt.2 hlt
      have hi3 : ¬ ((i : Int) < 0) := by omega
      obtain ⟨g, vcap, hge, hg1, hg2⟩ := HQ.out.row.open (by rw [hTl]; omega)
      obtain ⟨rfl, -, rfl⟩ := Value.slice.inj hge
      obtain ⟨a0, d0, a1, d1, a2, d2, x0, x1, x2, x3, -, hpv⟩ := HQ.out.entry HLW.out i hlt
      have z0 := (HB.out.cell (p := ⟨g, _, none⟩) hg2).trans x0
      have z1 := (HB.out.cell (p := ⟨g, _, none⟩) hg2).trans x1
      have z2 := (HB.out.cell (p := ⟨g, _, none⟩) hg2).trans x2
      have z3 := (HB.out.cell (p := ⟨g, _, none⟩) hg2).trans x3
      rw [Nat.add_zero] at z0
      have gz := Nat.lt_of_lt_of_le hg2 HB.out.size
      have hmem := nth_mem L i hlt
      obtain ⟨P, hP⟩ : ∃ P, nth L i = P := ⟨_, rfl⟩
      rw [hP] at z0 z1 z2 z3 hpv hmem
      have HPV := hid (hpv.below HB.out)
      have HMEM := hid hmem
      clear hge hg1 hg2 x0 x1 x2 x3 hpv hP hmem
      go_wp2_with fail
      refine (lpart_calls w4.heap.size _ _ _ P wo HPV.out (HLW.out P HMEM.out)).mono ?_
      rintro e w6 ⟨rfl, hb6⟩
      rw [HPT.out P HMEM.out]
      have HB6 := hid (bvia HB.out hb6)
      clear hb6
      go_wp2_with fail
      refine ⟨⟨i + 1, hlt, by go_num, HB6.out⟩, ?_⟩
      simp only [intOf]
      omega
    · have hie : i = L.length := by omega
      subst hie
      have hx := HX5.out.below HB.out
      have c0 := hx.cell 0 _ rfl
      have c1 := hx.cell 1 _ rfl
      have c2 := hx.cell 2 _ rfl
      have c3 := hx.cell 3 _ rfl
      have s1 := hx.lt
      have HBO := hid (bvia HB5.out HB.out)
      clear hx
      go_wp2_with fail
      refine (rsplit_calls lo _ _ _ p wo (HP.out.below HBO.out) HWF.out).mono ?_
      rintro e w7 ⟨u, U, rfl, hqu, hb7⟩
      rw [HL.out] at hqu
      obtain ⟨ua, uc, rfl⟩ := hqu.row.anySlice
      have hUl := hqu.len
      rw [hUl] at hqu ⊢
      have HQU := hid hqu
      have HB7 := hid (bvia HBO.out hb7)
      have HQ7 := hid ((HQ.out.fresh (Only.below HB.out none)).fresh (Only.below hb7 none))
      clear hqu hb7 c0 c1 c2 c3 s1
      go_wp2_with fail
      refine (same12_calls _ _ _ _ L T U w7 HQ7.out HQU.out HLW.out (by omega)).mono ?_
      rintro e w8 ⟨rfl, hb8⟩
      have HB8 := hid (bvia HB7.out hb8)
      clear hb8
      go_wp2_with fail
      go_ret
      exact ⟨rfl, HB8.out⟩

end Go.Proofs.Ytealeofgfgbheaa
