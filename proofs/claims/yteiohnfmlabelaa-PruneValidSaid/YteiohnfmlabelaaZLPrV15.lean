/-
  A pruned program is valid and clean, and no longer: the law, walked.
-/
import Derived.Test.YteiohnfmlabelaaZValid
import Derived.Test.YteiohnfmlabelaaZPrAwk
import Derived.Test.YteiohnfmlabelaaZREqual2
namespace Go.Proofs.Yteiohnfmlabelaa
set_option linter.unusedVariables false
set_option linter.unusedSimpArgs false
open Go.RowKit

theorem fun_ext {f g : Fun} (h1 : f.name = g.name) (h2 : f.params = g.params) (h3 : f.regs = g.regs) (h4 : f.code = g.code) : f = g := by cases f; cases g; simp_all
theorem prg_extV {p q : Prg} (h : Sam p q) (hf : ∀ j, j < p.funcs.length → nth q.funcs j = nth p.funcs j) : p = q := by
  have e : p.funcs = q.funcs := by
    refine List.ext_getElem h.len.symm fun i h1 h2 => ?_
    rw [← nth_eq _ _ h1, ← nth_eq _ _ h2, hf i h1]
  obtain ⟨_, h2, h3, h4, _⟩ := h
  cases p; cases q; simp_all
noncomputable def planPV9 : Plan := mkPlan (regionOf Try.f3 9) [] []
noncomputable def planPV11 : Plan := mkPlan (regionOf Try.f3 11) [(3, .new), (10, .new), (13, .fin)] []

set_option maxRecDepth 100000 in
set_option maxHeartbeats 8000000 in
theorem pv_no (lo : Nat) (vf vg vl : Value) (p : Prg) (w : World) (hp : ProgAt lo w vf vg vl p) (hv : validB p = false) :
    Calls Try.prog 3 #[.agg #[vf, vg, vl, .int .i64 p.main]] w fun e w' => e = .returned (.bool true) ∧ Below w.heap.size w w' := by
  have HP := hid hp
  have HV := hid hv
  obtain ⟨fa, fc, _, _, _, rfl, -⟩ := hp.funcs.open
  obtain ⟨ga, gc, _, _, rfl, -⟩ := hp.globs.open
  obtain ⟨la, lc, _, _, _, rfl, -⟩ := hp.lays.open
  clear hp hv
  go_enter Try.func3, Try.ntmps3
  go_wp2_with fail
  generalize hW : World.alloc _ _ = W
  have hbx := show BoxAt W w.heap.size 26 [.slice fa p.funcs.length fc, .slice ga p.globals.length gc, .slice la p.layouts.length lc, .int .i64 p.main] by rw [← hW]; exact BoxAt.new _ _ _ _ _ rfl rfl
  have hbW : Below w.heap.size w W := by rw [← hW]; exact (Below.refl _ _).alloc (Nat.le_refl _) _
  have HBX := hid hbx
  have HBW := hid hbW
  clear hW hbx hbW
  refine (awake15_calls W).mono ?_
  rintro e w1 ⟨rfl, hb1⟩
  have HB1 := hid (bvia HBW.out hb1)
  have hx1 := HBX.out.below hb1
  have c0 := hx1.cell 0 _ rfl
  have c1 := hx1.cell 1 _ rfl
  have c2 := hx1.cell 2 _ rfl
  have c3 := hx1.cell 3 _ rfl
  have s1 := hx1.lt
  clear hx1 hb1
  go_wp2_with fail
  refine (valid_calls lo _ _ _ p w1 (HP.out.below HB1.out)).mono ?_
  rw [HV.out]
  rintro e w2 ⟨rfl, hb2⟩
  have HB2 := hid (bvia HB1.out hb2)
  clear c0 c1 c2 c3 s1 hb2
  go_wp2_with fail
  refine (awake15_calls w2).mono ?_
  rintro e w3 ⟨rfl, hb3⟩
  have HB3 := hid (bvia HB2.out hb3)
  clear hb3
  go_wp2_with fail
  go_ret
  exact ⟨rfl, HB3.out⟩

set_option maxRecDepth 100000 in
set_option maxHeartbeats 8000000 in
theorem pv_yes (lo : Nat) (vf vg vl : Value) (p : Prg) (w : World) (hp : ProgAt lo w vf vg vl p) (hwf : PrgWf p) (hv : validB p = true) :
    Calls Try.prog 3 #[.agg #[vf, vg, vl, .int .i64 p.main]] w fun e w' => e = .returned (.bool true) ∧ Below w.heap.size w w' := by
  have HP := hid hp
  have HV := hid hv
  have HWF := hid hwf
  obtain ⟨fa, fc, _, _, _, rfl, -⟩ := hp.funcs.open
  obtain ⟨ga, gc, _, _, rfl, -⟩ := hp.globs.open
  obtain ⟨la, lc, _, _, _, rfl, -⟩ := hp.lays.open
  clear hp hv hwf
  go_enter Try.func3, Try.ntmps3
  go_wp2_with fail
  generalize hW : World.alloc _ _ = W
  have hbx := show BoxAt W w.heap.size 26 [.slice fa p.funcs.length fc, .slice ga p.globals.length gc, .slice la p.layouts.length lc, .int .i64 p.main] by rw [← hW]; exact BoxAt.new _ _ _ _ _ rfl rfl
  have hbW : Below w.heap.size w W := by rw [← hW]; exact (Below.refl _ _).alloc (Nat.le_refl _) _
  have HBX := hid hbx
  have HBW := hid hbW
  clear hW hbx hbW
  refine (awake15_calls W).mono ?_
  rintro e w1 ⟨rfl, hb1⟩
  have HB1 := hid (bvia HBW.out hb1)
  have hx1 := HBX.out.below hb1
  have HX1 := hid hx1
  have c0 := hx1.cell 0 _ rfl
  have c1 := hx1.cell 1 _ rfl
  have c2 := hx1.cell 2 _ rfl
  have c3 := hx1.cell 3 _ rfl
  have s1 := hx1.lt
  clear hx1 hb1
  go_wp2_with fail
  refine (valid_calls lo _ _ _ p w1 (HP.out.below HB1.out)).mono ?_
  rw [HV.out]
  rintro e w2 ⟨rfl, hb2⟩
  have HB2 := hid (bvia HB1.out hb2)
  have hx2 := HX1.out.below hb2
  clear c0 c1 c2 c3 s1 hb2
  have c0 := hx2.cell 0 _ rfl
  have c1 := hx2.cell 1 _ rfl
  have c2 := hx2.cell 2 _ rfl
  have c3 := hx2.cell 3 _ rfl
  have s1 := hx2.lt
  have HX2 := hid hx2
  clear hx2
  go_wp2_with fail
  refine (copy_calls lo _ _ _ p w2 (HP.out.below HB2.out) HWF.out).mono ?_
  rintro e w3 ⟨uf, ug, ul, rfl, hop, hb3⟩
  have hat := OwnPrg.at (lo := 0) hop (Nat.zero_le _) HWF.out
  have HAT3 := hid hat
  have HB3 := hid (bvia HB2.out hb3)
  have HX3 := hid (HX2.out.below hb3)
  obtain ⟨_, _, _, _, _, rfl, -⟩ := hat.funcs.open
  obtain ⟨_, _, _, _, rfl, -⟩ := hat.globs.open
  obtain ⟨_, _, _, _, _, rfl, -⟩ := hat.lays.open
  clear hat hop hb3 c0 c1 c2 c3 s1
  go_wp2_with fail
  refine (prune_yes 0 _ _ _ p w3 HAT3.out HV.out).mono ?_
  rintro e w4 ⟨g, cap, ug, ul, q, ss, rs, rfl, hpr, ho, hb4⟩
  have hok := hpr.ok HV.out (fun i hi => by omega)
  have hat := ho.at (valid_pos hok.valid).2
  have HOK := hid hok
  have HO := hid ho
  have HAT := hid hat
  have HB4 := hid (bvia HB3.out hb4)
  have HX4 := hid (HX3.out.below hb4)
  obtain ⟨g1, g2, _, _, rfl, -⟩ := hat.globs.open
  obtain ⟨l1, l2, _, _, _, rfl, -⟩ := hat.lays.open
  clear hpr hok ho hat hb4
  go_wp2_with fail
  generalize hW4 : World.alloc w4 _ = W4
  have hb4' : Below w4.heap.size w4 W4 := by rw [← hW4]; exact (Below.refl _ _).alloc (Nat.le_refl _) _
  have hq4 : BoxAt W4 w4.heap.size 26 [.slice (some ⟨g, 0, none⟩) q.funcs.length cap, .slice g1 q.globals.length g2, .slice l1 q.layouts.length l2, .int .i64 q.main] := by rw [← hW4]; exact BoxAt.new _ _ _ _ _ rfl rfl
  have HB4' := hid hb4'
  have HQ4 := hid hq4
  clear hW4 hb4' hq4
  refine (valid_calls 0 _ _ _ q W4 (HAT.out.below HB4'.out)).mono ?_
  rw [HOK.out.valid]
  rintro e w5 ⟨rfl, hb5⟩
  have HQ5 := hid (HQ4.out.below hb5)
  have HB45 := hid (HB4'.out.trans (hb5.mono HB4'.out.size))
  have HX5 := hid (HX4.out.below HB45.out)
  have hq5 := HQ5.out
  have c0 := hq5.cell 0 _ rfl
  have c1 := hq5.cell 1 _ rfl
  have c2 := hq5.cell 2 _ rfl
  have c3 := hq5.cell 3 _ rfl
  have s1 := hq5.lt
  clear hb5 hq5
  go_wp2_with fail
  refine (clean_yes 0 _ _ _ q w5 (HAT.out.below HB45.out) HOK.out.valid).mono ?_
  rintro e w6 ⟨q2, rfl, hpr2, hb6⟩
  have hqq : q = q2 := (hpr2.unique (Prn.self HOK.out.fix _ 0 (Nat.le_refl _))).symm
  subst hqq
  rw [eqC_true rfl]
  have HQ6 := hid (HQ5.out.below hb6)
  have HB46 := hid (HB45.out.trans (hb6.mono HB45.out.size))
  have HB6 := hid (bvia HB4.out HB46.out)
  have HX6 := hid (HX5.out.below hb6)
  clear hpr2 hb6 c0 c1 c2 c3 s1
  have hq6 := HQ6.out
  have hp6 := HX6.out
  have c0 := hq6.cell 0 _ rfl
  have s1 := hq6.lt
  have d0 := hp6.cell 0 _ rfl
  have s2 := hp6.lt
  rw [HOK.out.sam.len] at c0
  have HO6 := hid (HO.out.below HB46.out)
  have hqs := (valid_pos HV.out).2
  have HQ6' := HQ6
  rw [HOK.out.sam.len] at HQ6'
  clear hq6 hp6
  go_wp2_with fail
  obtain ⟨fa', fc', fb, fo, S, hfe, p1, x0, x1, x2, x3, xi, xk, _, _, _⟩ := HP.out.funcs.open
  obtain ⟨rfl, _, rfl⟩ := Value.slice.inj hfe
  have HF := hid (And.intro p1 (And.intro x3 (And.intro xi xk)))
  clear hfe p1 x0 x1 x2 x3 xi xk c0 d0 s1 s2
  go_loopw [4] (fun i wr => ∃ (n : Nat) (q' : Prg) (ss' : List Slc), n ≤ p.funcs.length ∧ i = .int .i64 n ∧ OutP (fun k => k = g) w3.heap.size g cap wr (.slice g1 q.globals.length g2) (.slice l1 q.layouts.length l2) q' ss' rs ∧ Sam q q' ∧ (∀ j, j < n → nth q'.funcs j = nth p.funcs j) ∧ (∀ j, n ≤ j → nth q'.funcs j = nth q.funcs j) ∧ Only (some g) w6 wr ∧ Below w.heap.size w wr) (fun i _ => p.funcs.length - (intOf i).toNat)
  case atStart => exact ⟨0, q, ss, Nat.zero_le _, rfl, HO6.out, Sam.refl q, fun j hj => by omega, fun j _ => rfl, Only.refl _ _, HB6.out⟩
  case round =>
  obtain ⟨n, q', ss', hn, rfl, hoq, hsq, hlo, hhi, hon, hbl⟩ := hrel
  obtain ⟨wo, hwo⟩ : ∃ wo, wo = wr := ⟨_, rfl⟩
  subst hwo
  have HOQ := hid hoq
  have HSQ := hid hsq
  have HLO := hid hlo
  have HHI := hid hhi
  have HON := hid hon
  have HBL := hid hbl
  have hgq : g ≠ w4.heap.size := by have := HO.out.back.2; omega
  have hgp : g ≠ w.heap.size := by have h1 := HO.out.back.1; have h2 := HX3.out.lt; omega
  have hq := HQ6'.out.only hon (by intro h; exact hgq (Option.some.inj h).symm)
  have hp := HX6.out.only hon (by intro h; exact hgp (Option.some.inj h).symm)
  have HQ := hid hq
  have HPX := hid hp
  have c0 := hq.cell 0 _ rfl
  have s1 := hq.lt
  have d0 := hp.cell 0 _ rfl
  have s2 := hp.lt
  clear hoq hsq hlo hhi hon hbl
  by_cases hlt : n < p.funcs.length
  · have hlt2 : (n : Int) < p.funcs.length := Int.ofNat_lt.2 hlt
    have hni : ¬ ((n : Int) < 0) := by omega
    obtain ⟨p1, x3, xi, xk⟩ := HF.out
    have e1 := p1 (by omega)
    subst e1
    have e3 := (HBL.out.cell (p := ⟨fb, _, none⟩) (xk (by omega))).trans (x3 n hlt)
    have s3 : fb < wo.heap.size := Nat.lt_of_lt_of_le (xk (by omega)) HBL.out.size
    have HCP := hid (CodeAt.below (xi n hlt) HBL.out)
    have hnq : n < q'.funcs.length := by rw [HSQ.out.len, HOK.out.sam.len]; exact hlt
    obtain ⟨c, hc⟩ : ∃ c, (nth q.funcs n).code = c := ⟨_, rfl⟩
    obtain ⟨_, _, _, q3, qf, qg, _⟩ := HOQ.out.cellsC n hnq c (by rw [HHI.out n (Nat.le_refl _)]; exact hc)
    have z3 := qf (n * 4 + 3)
    have hcl : c.length ≤ (nth p.funcs n).code.length := by rw [← hc]; exact HOK.out.le n hlt
    have hcl2 : ¬ ((c.length : Int) > (nth p.funcs n).code.length) := by omega
    have hpl := (fok_of_funcB (valid_func HV.out n hlt)).le
    clear p1 x3 xi xk qf
    go_wp2_with fail
    refine Plan.wp_chain planPV9 wo.heap.size (by kernel_rfl) rfl (by kernel_rfl) (by kernel_rfl) ?_
    repeat (first | (apply Plan.chain_skip rfl rfl; simp only [Act.put, List.setIfInBounds_toArray, List.set_cons_zero, List.set_cons_succ]) | (apply Plan.chain_det rfl rfl; (· intro w' hb; obtain ⟨hcl, hfz⟩ := bcellB hb; go_simp; rfl); simp only [Act.put, List.setIfInBounds_toArray, List.set_cons_zero, List.set_cons_succ]))
    refine Plan.chain_nil ?_
    obtain ⟨wn, hwn⟩ : ∃ wn, wo.drew = wn := ⟨_, rfl⟩
    have hbn : Below wo.heap.size wo wn := by rw [← hwn]; exact (Below.refl _ _).drew
    rw [hwn]
    have HBN := hid hbn
    have HQn := HQ.out.below hbn
    have HPn := HPX.out.below hbn
    have HOn := hid (HOQ.out.below hbn)
    clear hwn c0 d0 s1 s2 q3 qg z3
    have c0 := HQn.cell 0 _ rfl
    have s1 := HQn.lt
    have d0 := HPn.cell 0 _ rfl
    have s2 := HPn.lt
    have e3' := (hbn.cell (p := ⟨fb, _, none⟩) s3).trans e3
    have s3' : fb < wn.heap.size := Nat.lt_of_lt_of_le s3 hbn.size
    clear hbn HQn HPn e3 s3
    go_wp2_with fail
    refine Plan.wp_chain planPV11 wn.heap.size (by kernel_rfl) rfl (by kernel_rfl) (by kernel_rfl) ?_
    repeat (first | (apply Plan.chain_skip rfl rfl; simp only [Act.put, List.setIfInBounds_toArray, List.set_cons_zero, List.set_cons_succ]) | (apply Plan.chain_det rfl rfl; (· intro w' hb; obtain ⟨hcl, hfz⟩ := bcellB hb; go_simp; rfl); simp only [Act.put, List.setIfInBounds_toArray, List.set_cons_zero, List.set_cons_succ]))
    refine Plan.chain_lit insE wn.heap.size 36 [] #[] 0 rfl rfl rfl (by go_simp) rfl rfl (by simp) (Nat.le_refl _) (Nat.le_refl _) (Below.refl _ _).drew (fun ho1 hb1 => ?_)
    simp only [Act.put, List.setIfInBounds_toArray, List.set_cons_zero, List.set_cons_succ]
    have HO1 := hid ho1
    have HB1 := hid hb1
    clear ho1 hb1
    repeat (first | (apply Plan.chain_skip rfl rfl; simp only [Act.put, List.setIfInBounds_toArray, List.set_cons_zero, List.set_cons_succ]) | (apply Plan.chain_det rfl rfl; (· intro w' hb; obtain ⟨hcl, hfz⟩ := bcellB hb; go_simp; rfl); simp only [Act.put, List.setIfInBounds_toArray, List.set_cons_zero, List.set_cons_succ]))
    refine Plan.chain_append insE (.tmp 58) (.tmp 64) 30 wn.heap.size lo 36 _ 40 [] (nth p.funcs n).code rfl rfl rfl rfl Try.underlying30 clnIns_info rfl HO1.out (SlE.below (SlE.below HCP.out HBN.out) ((Below.refl _ _).drew.alloc (Nat.le_refl _) _)) (by simp; omega) (by simp only [maxLen]; simp; omega) (by simp) (Nat.le_refl _) HB1.out (fun x5 m5 w9 ho5 hg5 hb5 => ?_)
    simp only [Act.put, List.setIfInBounds_toArray, List.set_cons_zero, List.set_cons_succ]
    rw [List.nil_append] at ho5 ⊢
    have HO5 := hid ho5
    have HB5n := hid hb5
    have HOn5 := hid (HOn.out.below hb5)
    obtain ⟨_, _, _, q3, qf, qg, _⟩ := HOn5.out.cellsC n hnq c (by rw [HHI.out n (Nat.le_refl _)]; exact hc)
    have z3 := qf (n * 4 + 3)
    clear ho5 hb5 hg5 qf
    repeat (first | (apply Plan.chain_skip rfl rfl; simp only [Act.put, List.setIfInBounds_toArray, List.set_cons_zero, List.set_cons_succ]) | (apply Plan.chain_det rfl rfl; (· intro w' hb; obtain ⟨hcl, hfz⟩ := bcellB hb; go_simp; rfl); simp only [Act.put, List.setIfInBounds_toArray, List.set_cons_zero, List.set_cons_succ]))
    refine Plan.chain_fin rfl rfl ?_
    unfold Oper.wp
    go_simp
    go_wp2_with fail
    go_roundw
    case rel =>
      have hW9 := HBN.out.trans (HB5n.out.mono HBN.out.size)
      have hsame : nth (put q' n (nth p.funcs n).code).funcs n = nth p.funcs n := by
        rw [put_at q' n _ hnq, HHI.out n (Nat.le_refl _)]
        obtain ⟨a1, a2, a3⟩ := HOK.out.sam.same n hlt
        exact fun_ext a1 a2 a3 rfl
      refine ⟨n + 1, put q' n (nth p.funcs n).code, ss'.set n ⟨x5, (nth p.funcs n).code.length, m5⟩, by omega, by go_num, HOn5.out.put n hnq ⟨x5, (nth p.funcs n).code.length, m5⟩ _ (HO5.out.sl (Nat.zero_le _) (by omega)) (HO5.out.far (fun k hk => Nat.lt_of_lt_of_le (HOQ.out.xlt k hk) HBN.out.size)), HSQ.out.trans (put_sam q' n _), fun j hj => ?_, fun j hj => ?_, (HON.out.trans (Only.below hW9 _)).trans (Only.store w9 g _ _), (HBL.out.trans (hW9.mono HBL.out.size)).setCell (by show w.heap.size ≤ g; have h1 := HO.out.back.1; have h2 := HB3.out.size; omega) _⟩
      · rcases Nat.lt_or_ge j n with h | h
        · rw [put_ne q' n j _ (by omega)]; exact HLO.out j h
        · rw [show j = n by omega]; exact hsame
      · rw [put_ne q' n j _ (by omega)]; exact HHI.out j (by omega)
    case measure => simp [intOf] <;> omega
  · have hke : n = p.funcs.length := by omega
    have hpq := prg_extV (HOK.out.sam.trans HSQ.out) (fun j hj => HLO.out j (by omega))
    subst hpq
    have c1 := HQ.out.cell 1 _ rfl
    have c2 := HQ.out.cell 2 _ rfl
    have c3 := HQ.out.cell 3 _ rfl
    have d1 := HPX.out.cell 1 _ rfl
    have d2 := HPX.out.cell 2 _ rfl
    have d3 := HPX.out.cell 3 _ rfl
    have hatq := hid (HOQ.out.at (by omega))
    clear hke
    rw [HOK.out.sam.main] at c3
    go_wp2_with fail
    refine (requal_calls lo 0 _ _ _ _ _ _ p p wo (HP.out.below HBL.out) hatq.out).mono ?_
    rintro e w9 ⟨rfl, hb9⟩
    rw [eqC_true rfl]
    have HB9 := hid (bvia HBL.out hb9)
    clear hb9
    go_wp2_with fail
    go_ret
    exact ⟨rfl, HB9.out⟩

theorem prvalid_calls (lo : Nat) (vf vg vl : Value) (p : Prg) (w : World) (hp : ProgAt lo w vf vg vl p) (hwf : PrgWf p) :
    Calls Try.prog 3 #[.agg #[vf, vg, vl, .int .i64 p.main]] w fun e w' => e = .returned (.bool true) ∧ Below w.heap.size w w' := by
  cases hv : validB p with
  | false => exact pv_no lo vf vg vl p w hp hv
  | true => exact pv_yes lo vf vg vl p w hp hwf hv

end Go.Proofs.Yteiohnfmlabelaa
