/-
  Package live's Dead, for every argument.
-/
import Derived.Test.YteiohnfmlabelaaGreatZAft14
import Derived.Test.YteiohnfmlabelaaGreatZLvDead
import Derived.Test.YteiohnfmlabelaaGreatZRIn14
namespace Go.Proofs.YteiohnfmlabelaaGreat
set_option linter.unusedVariables false
set_option linter.unusedSimpArgs false
open Go.RowKit

set_option maxRecDepth 100000 in
set_option maxHeartbeats 4000000 in
theorem dead_no (lo : Nat) (vf vg vl : Value) (p : Prg) (fn : Int) (w : World) (hp : ProgAt lo w vf vg vl p) (ht : thereB p fn = false) :
    Calls Tryz.prog 44 #[.agg #[vf, vg, vl, .int .i64 p.main], .int .i64 fn] w fun e w' => e = .returned (.slice none 0 0) ∧ Below w.heap.size w w' := by
  have HP := hid hp
  have HT := hid ht
  obtain ⟨fa, fc, fb, fo, S, rfl, p1, _, _, _, _, _, k1, _, m1, n1⟩ := hp.funcs.open
  obtain ⟨ga, gc, _, _, rfl, _⟩ := hp.globs.open
  obtain ⟨la, lc, _, _, _, rfl, _⟩ := hp.lays.open
  clear hp p1 k1 ht
  go_enter Tryz.func44, Tryz.ntmps44
  have HB := hid (show Below w.heap.size w (w.alloc (.cells #[.slice fa p.funcs.length fc, .slice ga p.globals.length gc, .slice la p.layouts.length lc, .int .i64 p.main] 26)) from (Below.refl _ _).alloc (Nat.le_refl _) _)
  go_wp2_with (
    go_at_call 67
    refine (there_calls lo _ _ _ p fn _ (HP.out.below HB.out)).mono ?_
    rw [HT.out]
    rintro e w1 ⟨rfl, hb1⟩)
  go_ret
  exact ⟨rfl, HB.out.trans (hb1.mono (by simp))⟩

theorem dead_calls (lo : Nat) (vf vg vl : Value) (p : Prg) (fn : Int) (w : World) (hp : ProgAt lo w vf vg vl p) :
    Calls Tryz.prog 44 #[.agg #[vf, vg, vl, .int .i64 p.main], .int .i64 fn] w fun e w' => ∃ v' l, e = .returned v' ∧ DeadIs p fn l ∧ IntsAt w.heap.size w' v' l ∧ Below w.heap.size w w' := by
  cases ht : thereB p fn with
  | false =>
    refine (dead_no lo vf vg vl p fn w hp ht).mono ?_
    rintro e w' ⟨rfl, hb⟩
    exact ⟨_, [], rfl, .inl ⟨ht, rfl⟩, SlE.nil _ _ _, hb⟩
  | true =>
    obtain ⟨h0, h1, hv⟩ := there_get ht
    obtain ⟨F, rfl⟩ := Int.eq_ofNat_of_zero_le h0
    refine (dead_yes lo vf vg vl p F w hp hv (by omega)).mono ?_
    rintro e w' ⟨v', L, rfl, hL, hi, hb⟩
    exact ⟨v', _, rfl, .inr ⟨ht, L, by rw [Int.toNat_natCast]; exact hL, rfl⟩, by rw [Int.toNat_natCast]; exact hi, hb⟩
theorem DeadIs.unique {p : Prg} {fn : Int} {l l' : List Int} (h : DeadIs p fn l) (h' : DeadIs p fn l') : l = l' := by
  rcases h with ⟨h1, rfl⟩ | ⟨h1, L, h2, rfl⟩ <;> rcases h' with ⟨h3, rfl⟩ | ⟨h3, L', h4, rfl⟩
  · rfl
  · rw [h1] at h3; cases h3
  · rw [h1] at h3; cases h3
  · rw [h2.unique h4]

end Go.Proofs.YteiohnfmlabelaaGreat

/-
  The reference's Dead.
-/
namespace Go.Proofs.YteiohnfmlabelaaGreat
set_option linter.unusedVariables false
set_option linter.unusedSimpArgs false
open Go.RowKit

noncomputable def planRD : Plan := mkPlan (regionOf Tryz.f15 10) [(7, .new), (25, .new), (28, .new)] []

noncomputable def planRDs : Plan := mkPlan (regionOf Tryz.f15 10) [(7, .new), (14, .skip), (15, .skip), (16, .skip), (17, .skip), (18, .skip), (25, .new), (28, .new)] []

theorem rpure_is (op : Int) (b : Bool) (w : World) (h : pureB op = b) : Calls Tryz.prog 31 #[.int .i64 op] w fun e w' => e = .returned (.bool b) ∧ w' = w := by rw [← h]; exact rpure_calls op w

set_option maxRecDepth 100000 in
set_option maxHeartbeats 8000000 in
theorem rdead_yes (lo : Nat) (vf vg vl : Value) (p : Prg) (F : Nat) (w : World) (hp : ProgAt lo w vf vg vl p) (hv : validB p = true) (hF : F < p.funcs.length) :
    Calls Tryz.prog 15 #[.agg #[vf, vg, vl, .int .i64 p.main], .int .i64 F] w fun e w' => ∃ v' L, e = .returned v' ∧ IsLive p F (nth p.funcs F).code.length L ∧ IntsAt w.heap.size w' v' (deadL p F L (nth p.funcs F).code.length) ∧ Below w.heap.size w w' := by
  have HP := hid hp
  have HV := hid hv
  have HFL := hid hF
  have HT := hid (show thereB p F = true by unfold thereB; rw [hv, decide_eq_true (show (0 : Int) ≤ F by omega), decide_eq_true (show (F : Int) < p.funcs.length by omega)]; rfl)
  have hfok := fok_of_funcB (valid_func hv F hF)
  have HFOK := hid hfok
  have hpos := hfok.pos
  have hle := hfok.le
  obtain ⟨fa, fc, fb, fo, S, rfl, p1, x0, x1, x2, x3, xi, k1, _, m1, n1⟩ := hp.funcs.open
  obtain ⟨ga, gc, _, _, rfl, hz2⟩ := hp.globs.open
  obtain ⟨la, lc, _, _, _, rfl, hz3⟩ := hp.lays.open
  have e1 := p1 (by omega)
  subst e1
  have z1 := k1 (by omega)
  have hF2 : (F : Int) < p.funcs.length := Int.ofNat_lt.2 hF
  have hge : ¬ p.funcs.length ≤ F := by omega
  have hge3 : ¬ (F : Int) < 0 := by omega
  have d0 := x0 F hF
  have d1 := x1 F hF
  have d2 := x2 F hF
  have d3 := x3 F hF
  have hcode := xi F hF
  obtain ⟨n, hn⟩ : ∃ n, (nth p.funcs F).code.length = n := ⟨_, rfl⟩
  have HN := hid hn
  have HC0 := hid (show CodeAt lo w (.slice (S F).a n (S F).c) (nth p.funcs F).code by rw [← hn]; exact hcode)
  obtain ⟨fname, hfn⟩ : ∃ q, (nth p.funcs F).name = q := ⟨_, rfl⟩
  obtain ⟨fpar, hfp⟩ : ∃ q, (nth p.funcs F).params = q := ⟨_, rfl⟩
  obtain ⟨freg, hfr⟩ : ∃ q, (nth p.funcs F).regs = q := ⟨_, rfl⟩
  rw [hn] at hpos hle d3
  rw [hfn] at d0
  rw [hfp] at d1
  rw [hfr] at d2
  have D0 := hid d0
  have D1 := hid d1
  have D2 := hid d2
  have D3 := hid d3
  rw [hn]
  clear hp hv hfok hcode hn hfn hfp hfr hF p1 x0 x1 x2 x3 xi k1 hz2 hz3 d0 d1 d2 d3
  go_enter Tryz.func15, Tryz.ntmps15
  have HB := hid (show Below w.heap.size w (w.alloc (.cells #[.slice (some ⟨fb, fo, none⟩) p.funcs.length fc, .slice ga p.globals.length gc, .slice la p.layouts.length lc, .int .i64 p.main] 26)) from (Below.refl _ _).alloc (Nat.le_refl _) _)
  go_wp2_with (first
    | (go_at_call 30
       refine (rin_yes lo _ _ _ p F _ (HP.out.below HB.out) HV.out HFL.out).mono ?_
       rintro e w1 ⟨gi, n2, L, rfl, hn2, hL, hlay, hb1⟩
       have e9 : n = n2 := (hn2.trans HN.out).symm
       subst e9
       have HL := hid hL
       have HLY := hid hlay
       have HB1 := hid (HB.out.trans (hb1.mono (by simp)))
       have RP := hid (show BoxAt w1 w.heap.size 26 [.slice (some ⟨fb, fo, none⟩) p.funcs.length fc, .slice ga p.globals.length gc, .slice la p.layouts.length lc, .int .i64 p.main] from (BoxAt.new w _ _ _ _ rfl rfl).below hb1)
       have b0 : w1.cell? ⟨w.heap.size, 0, none⟩ = some (.slice (some ⟨fb, fo, none⟩) p.funcs.length fc) := (hb1.cell (by simp)).trans (by simp)
       have b4 : w.heap.size < w1.heap.size := by have := hb1.size; simp at this; omega
       have b5 : fb < w1.heap.size := by omega
       have c0 := (HB1.out.cell (p := ⟨fb, fo + F * 4, none⟩) z1).trans D0.out
       have c1 := (HB1.out.cell (p := ⟨fb, fo + F * 4 + 1, none⟩) z1).trans D1.out
       have c2 := (HB1.out.cell (p := ⟨fb, fo + F * 4 + 2, none⟩) z1).trans D2.out
       have c3 := (HB1.out.cell (p := ⟨fb, fo + F * 4 + 3, none⟩) z1).trans D3.out
       clear hb1 hn2 hL hlay)
    | (go_at_call 14
       go_loud (refine (rreach_calls lo _ fname fpar freg (nth p.funcs F).code _ (HC0.out.below HB1.out) HFOK.out.jok).mono ?_)
       rintro e w2 ⟨g1, n1', rfl, hn1, hg1, hrow1, hb2⟩
       have e9 : n = n1' := (hn1.trans HN.out).symm
       subst e9
       have HR := hid hrow1
       have HB2 := hid (bvia HB1.out hb2)
       have HBX := hid hb2
       clear hrow1 hb2 hn1))
  go_wp2_with fail
  go_loopw [6, 8] (fun v i wr => ∃ k : Nat, k ≤ n ∧ i = .int .i64 k ∧ OwnE intE w2.heap.size 3 wr v (deadL p F L k) ∧ Below w2.heap.size w2 wr) (fun _ i _ => n - (intOf i).toNat)
  case atStart => exact ⟨0, Nat.zero_le _, rfl, OwnE.nil _ _ _ _, Below.refl _ _⟩
  case round =>
    obtain ⟨k, hk, rfl, hown, hbl⟩ := hrel
    obtain ⟨wo, hwo⟩ : ∃ wo, wo = wr := ⟨_, rfl⟩
    subst hwo
    have HO := hid hown
    have HBL := hid hbl
    have HLN := hid (deadL_len p F L k)
    have HSU := hid (deadL_succ p F L k)
    clear hown hbl
    by_cases hlt : k < n
    · have hlt2 : (k : Int) < n := by omega
      have HKN := hid hlt
      have HW1 := hid (show Below w1.heap.size w1 wo from HBX.out.trans (HBL.out.mono HBX.out.size))
      have HC1 := hid ((HC0.out.below (bvia HB2.out HBL.out)))
      obtain ⟨ca, cc, cb, co, he, cp, q0, q1, q2, q3, q4, cbl, _, _, _, cn⟩ := HC1.out.open
      obtain ⟨he1, he2⟩ : (S F).a = ca ∧ (S F).c = cc := by
        have := he
        rw [HN.out] at this
        simpa using this
      have t0 := (HW1.out.cell b4).trans b0
      have t1 := (HW1.out.cell b5).trans c3
      have t2 := Nat.lt_of_lt_of_le b4 HW1.out.size
      have t3 := Nat.lt_of_lt_of_le b5 HW1.out.size
      rw [he1, he2] at t1
      rw [HN.out] at cp q0 q1 q2 q3 q4 cbl
      have e5 := cp (by omega)
      rw [e5] at t1
      have i0 := q0 k hlt
      have i1 := q1 k hlt
      have i2 := q2 k hlt
      have i3 := q3 k hlt
      have i4 := q4 k hlt
      have i5 := cbl (by omega)
      obtain ⟨xo, hxo⟩ : ∃ q, (nth (nth p.funcs F).code k).op = q := ⟨_, rfl⟩
      obtain ⟨xa, hxa⟩ : ∃ q, (nth (nth p.funcs F).code k).a = q := ⟨_, rfl⟩
      obtain ⟨xb, hxb⟩ : ∃ q, (nth (nth p.funcs F).code k).b = q := ⟨_, rfl⟩
      obtain ⟨A, hA⟩ : ∃ A, afterL p F L k = A := ⟨_, rfl⟩
      obtain ⟨r, hr⟩ : ∃ r, nth (reachL (nth p.funcs F).code) k = r := ⟨_, rfl⟩
      have HFN := hid (inis_fine HV.out HFL.out HN.out HL.out)
      have HDB := hid (show deadB p F L k = (r && (pureB xo && ((xo == 3 && xa == xb) || !decide (xa ∈ A)))) by unfold deadB; rw [hxo, hxa, hxb, hA, hr])
      have HAE := hid hA
      rw [hxo] at i0
      rw [hxa] at i1
      rw [hxb] at i2
      clear cp q0 q1 q2 q3 q4 cbl he he1 he2 cn e5
      go_wp2_with fail
      generalize hW : World.alloc _ _ = W9
      have HB9 := hid (show Below w2.heap.size w2 W9 by rw [← hW]; exact bone HBL.out _)
      have HO9 := hid (show OwnE intE w2.heap.size 3 W9 u6 (deadL p F L k) by rw [← hW]; exact HO.out.alloc _)
      have j0 : W9.cell? ⟨wo.heap.size, 0, none⟩ = some (.int .i64 xo) := by rw [← hW]; simp
      have j1 : W9.cell? ⟨wo.heap.size, 1, none⟩ = some (.int .i64 xa) := by rw [← hW]; simp
      have j2 : W9.cell? ⟨wo.heap.size, 2, none⟩ = some (.int .i64 xb) := by rw [← hW]; simp
      have j3 : wo.heap.size < W9.heap.size := by rw [← hW]; simp
      have HR9 := hid (HR.out.below HB9.out)
      have r0 : W9.cell? ⟨g1, k, none⟩ = some (.bool r) := by
        have := HR9.out.cell (i := k) (by rw [reachL_len, HN.out]; exact HKN.out)
        rw [hr] at this
        exact this
      have r1 := HR9.out.lt
      clear i0 i1 i2 i3 i4 i5 hW hr hA t0 t1 t2 t3
      cases r with
      | false =>
        have HDB := hid (HDB.out.trans (rfl : _ = false))
        go_quiet (fail)
        have HO10 := hid (show OwnE intE w2.heap.size 3 (W9.drewN nq) u6 (deadL p F L k) from HO9.out)
        have HB10 := hid (show Below w2.heap.size w2 (W9.drewN nq) from below_drewN HB9.out nq)
        go_wp2_with fail
        go_roundw
        case rel => exact ⟨k + 1, by omega, by go_num, by rw [HSU.out, HDB.out]; simpa using HO10.out, HB10.out⟩
        case measure => simp [intOf] <;> omega
      | true =>
        cases hpu : pureB xo with
        | false =>
          have HPU := hid hpu
          have HDB := hid (HDB.out.trans (by rw [hpu]; rfl : _ = false))
          clear hpu
          go_quiet ((go_at_call 31; exact Calls.quiet_of_same (rpure_is _ _ _ HPU.out)))
          have HO10 := hid (show OwnE intE w2.heap.size 3 (W9.drewN nq) u6 (deadL p F L k) from HO9.out)
          have HB10 := hid (show Below w2.heap.size w2 (W9.drewN nq) from below_drewN HB9.out nq)
          go_wp2_with fail
          go_roundw
          case rel => exact ⟨k + 1, by omega, by go_num, by rw [HSU.out, HDB.out]; simpa using HO10.out, HB10.out⟩
          case measure => simp [intOf] <;> omega
        | true =>
          have HPU := hid hpu
          by_cases h3 : xo = 3 ∧ xa = xb
          · have hbe : (xo == 3) = true := beq_iff_eq.2 h3.1
            have hbe2 : (xa == xb) = true := beq_iff_eq.2 h3.2
            have HDB := hid (HDB.out.trans (by rw [hpu, hbe, hbe2]; rfl : _ = true))
            clear h3 hpu
            go_quiet ((go_at_call 31; exact Calls.quiet_of_same (rpure_is _ _ _ HPU.out)))
            have HB10 := hid (show Below w2.heap.size w2 (W9.drewN nq) from below_drewN HB9.out nq)
            have HO10 := hid (show OwnE intE w2.heap.size 3 (W9.drewN nq) u6 (deadL p F L k) from HO9.out)
            go_wp2_with (
              at_builtin
              go_loud (refine wpList_append_one intE (o := ⟨some 72, _, _, _, _, _⟩) rfl (.tmp 69) (.tmp 71) 36 rfl w2.heap.size W9.heap.size 3 _ 8 Tryz.underlying36 infoI14 rfl (deadL p F L k) k (HO10.out.alloc _) ((OwnE.lit intE (W9.drewN nq) W9.heap.size 3 [(k : Int)] _ W9.heap.size 1 rfl (Nat.le_refl _) rfl rfl (by simp)).sl (Nat.le_refl _) (by simp)) (by have := HLN.out; omega) (by have := HLN.out; simp only [maxLen]; omega) (by simp; have := HB9.out.size; omega) ?_)
              intro g2 cap2 w8 ho2 hg2 hl2 hb4
              have HO2 := hid ho2
              have HB4 := hid hb4
              clear ho2 hb4)
            go_roundw
            case rel => exact ⟨k + 1, by omega, by go_num, by rw [HSU.out, HDB.out]; exact HO2.out, (HB10.out.alloc HB10.out.size _).trans HB4.out⟩
            case measure => simp [intOf] <;> omega
          · have HNE := hid (show (xo == 3 && xa == xb) = false by
              cases h1 : (xo == 3 && xa == xb) with
              | false => rfl
              | true => simp at h1; exact absurd h1 h3)
            have HDB := hid (HDB.out.trans (by rw [hpu, HNE.out]; rfl : _ = (!decide (xa ∈ A))))
            have HPW := hid (HP.out.below (bvia HB2.out HB9.out))
            have hrp := RP.out.below (HBX.out.trans (HB9.out.mono HBX.out.size))
            have v0 := hrp.cell 0 _ rfl
            have v1 := hrp.cell 1 _ rfl
            have v2 := hrp.cell 2 _ rfl
            have v3 := hrp.cell 3 _ rfl
            have v4 := hrp.lt
            have HLW := hid (LaysAt.keep HLY.out (Keep.below (HBX.out.trans (HB9.out.mono HBX.out.size))))
            clear hpu h3 hrp
            have h3 := HNE.out
            cases hx3 : (xo == 3) with
            | true =>
              have hxab : (xa == xb) = false := by rw [hx3] at h3; simpa using h3
              clear h3
              refine Plan.wp_facts (B := W9.heap.size) planRD [(7, valF (.bool true)), (25, slF intE W9.heap.size A), (28, valF (.bool (decide (xa ∈ A))))] (by kernel_rfl) rfl (by kernel_rfl) (by kernel_rfl) (Nat.le_refl _) ?_
              repeat (first | (apply Plan.runs_skip rfl rfl; simp only [Act.put, List.setIfInBounds_toArray, List.set_cons_zero, List.set_cons_succ]) | (apply Plan.runs_det rfl rfl; (· intro F w' hb hf; obtain ⟨hcl, hfz⟩ := bcell hb; go_simp; rfl); simp only [Act.put, List.setIfInBounds_toArray, List.set_cons_zero, List.set_cons_succ]))
              refine Plan.runs_call_val (.bool true) 31 #[.int .i64 xo] rfl rfl _ rfl rfl (fun F' w' hb hf => by obtain ⟨hcl, hfz⟩ := bcell hb; go_simp) rfl (fun F' w' hb hf => (rpure_is xo true w' HPU.out).mono fun e w'' h => ⟨h.1, by rw [h.2]; exact Below.refl _ _⟩) ?_
              simp only [Act.put, List.setIfInBounds_toArray, List.set_cons_zero, List.set_cons_succ]
              repeat (first | (apply Plan.runs_skip rfl rfl; simp only [Act.put, List.setIfInBounds_toArray, List.set_cons_zero, List.set_cons_succ]) | (apply Plan.runs_det rfl rfl; (· intro F w' hb hf; obtain ⟨hcl, hfz⟩ := bcell hb; go_simp; rfl); simp only [Act.put, List.setIfInBounds_toArray, List.set_cons_zero, List.set_cons_succ]))
              refine Plan.runs_call_sl intE W9.heap.size A 33 #[.agg #[.slice (some ⟨fb, fo, none⟩) p.funcs.length fc, .slice ga p.globals.length gc, .slice la p.layouts.length lc, .int .i64 p.main], .int .i64 F, .int .i64 k, .slice (some ⟨gi, 0, none⟩) n n] rfl rfl _ rfl rfl (fun F' w' hb hf => by obtain ⟨hcl, hfz⟩ := bcell hb; go_simp) rfl (fun F' w' hb hf => ?_) (fun v62 => ?_)
              · refine (after_calls lo _ _ _ _ _ p F k L w' (HPW.out.below hb) HV.out HFL.out (by rw [HN.out]; exact HKN.out) (LaysAt.keep HLW.out (Keep.below hb)) (by rw [HN.out]; exact HFN.out.len) HFN.out.reg).mono ?_
                rw [HAE.out]
                rintro e w'' ⟨v', rfl, hk, hb'⟩
                have hs := hb.size
                exact ⟨v', rfl, hk.mono hs, hb', fun k h0 h1 => .inr (hk.blk h0 k h1).1⟩
              simp only [Act.put, List.setIfInBounds_toArray, List.set_cons_zero, List.set_cons_succ]
              repeat (first | (apply Plan.runs_skip rfl rfl; simp only [Act.put, List.setIfInBounds_toArray, List.set_cons_zero, List.set_cons_succ]) | (apply Plan.runs_det rfl rfl; (· intro F w' hb hf; obtain ⟨hcl, hfz⟩ := bcell hb; go_simp; rfl); simp only [Act.put, List.setIfInBounds_toArray, List.set_cons_zero, List.set_cons_succ]))
              refine Plan.runs_call_val (.bool (decide (xa ∈ A))) 32 #[v62, .int .i64 xa] rfl rfl _ rfl rfl (fun F' w' hb hf => by obtain ⟨hcl, hfz⟩ := bcell hb; go_simp) rfl (fun F' w' hb hf => ?_) ?_
              · have h1 : SlE intE W9.heap.size w' v62 A := Plan.facts_sl hf 25 rfl (by kernel_rfl) rfl (.inl rfl)
                exact rhas_calls _ _ _ xa w' h1
              simp only [Act.put, List.setIfInBounds_toArray, List.set_cons_zero, List.set_cons_succ]
              repeat (first | (apply Plan.runs_skip rfl rfl; simp only [Act.put, List.setIfInBounds_toArray, List.set_cons_zero, List.set_cons_succ]) | (apply Plan.runs_det rfl rfl; (· intro F w' hb hf; obtain ⟨hcl, hfz⟩ := bcell hb; go_simp; rfl); simp only [Act.put, List.setIfInBounds_toArray, List.set_cons_zero, List.set_cons_succ]))
              refine Plan.runs_nil (fun F' w6 hb hf => ?_)
              have HO6 := hid (show OwnE intE w2.heap.size 3 w6 u6 (deadL p F L k) from OwnE.only HO9.out (Only.below hb none) (fun _ _ => by simp))
              have HB6 := hid (HB9.out.trans (hb.mono HB9.out.size))
              clear hf hb
              cases hin : decide (xa ∈ A) with
              | true =>
                have HDB := hid (HDB.out.trans (by rw [hin]; rfl : _ = false))
                go_wp2_with fail
                go_roundw
                case rel => exact ⟨k + 1, by omega, by go_num, by rw [HSU.out, HDB.out]; simpa using HO6.out, HB6.out⟩
                case measure => simp [intOf] <;> omega
              | false =>
                have HDB := hid (HDB.out.trans (by rw [hin]; rfl : _ = true))
                go_wp2_with (
                  at_builtin
                  go_loud (refine wpList_append_one intE (o := ⟨some 72, _, _, _, _, _⟩) rfl (.tmp 69) (.tmp 71) 36 rfl w2.heap.size w6.heap.size 3 _ 8 Tryz.underlying36 infoI14 rfl (deadL p F L k) k (HO6.out.alloc _) ((OwnE.lit intE w6 w6.heap.size 3 [(k : Int)] _ w6.heap.size 1 rfl (Nat.le_refl _) rfl rfl (by simp)).sl (Nat.le_refl _) (by simp)) (by have := HLN.out; omega) (by have := HLN.out; simp only [maxLen]; omega) (by simp; have := HB6.out.size; omega) ?_)
                  intro g2 cap2 w8 ho2 hg2 hl2 hb4
                  have HO2 := hid ho2
                  have HB4 := hid hb4
                  clear ho2 hb4)
                go_roundw
                case rel => exact ⟨k + 1, by omega, by go_num, by rw [HSU.out, HDB.out]; exact HO2.out, (HB6.out.alloc HB6.out.size _).trans HB4.out⟩
                case measure => simp [intOf] <;> omega
            | false =>
              clear h3
              refine Plan.wp_facts (B := W9.heap.size) planRDs [(7, valF (.bool true)), (25, slF intE W9.heap.size A), (28, valF (.bool (decide (xa ∈ A))))] (by kernel_rfl) rfl (by kernel_rfl) (by kernel_rfl) (Nat.le_refl _) ?_
              repeat (first | (apply Plan.runs_skip rfl rfl; simp only [Act.put, List.setIfInBounds_toArray, List.set_cons_zero, List.set_cons_succ]) | (apply Plan.runs_det rfl rfl; (· intro F w' hb hf; obtain ⟨hcl, hfz⟩ := bcell hb; go_simp; rfl); simp only [Act.put, List.setIfInBounds_toArray, List.set_cons_zero, List.set_cons_succ]))
              refine Plan.runs_call_val (.bool true) 31 #[.int .i64 xo] rfl rfl _ rfl rfl (fun F' w' hb hf => by obtain ⟨hcl, hfz⟩ := bcell hb; go_simp) rfl (fun F' w' hb hf => (rpure_is xo true w' HPU.out).mono fun e w'' h => ⟨h.1, by rw [h.2]; exact Below.refl _ _⟩) ?_
              simp only [Act.put, List.setIfInBounds_toArray, List.set_cons_zero, List.set_cons_succ]
              repeat (first | (apply Plan.runs_skip rfl rfl; simp only [Act.put, List.setIfInBounds_toArray, List.set_cons_zero, List.set_cons_succ]) | (apply Plan.runs_det rfl rfl; (· intro F w' hb hf; obtain ⟨hcl, hfz⟩ := bcell hb; go_simp; rfl); simp only [Act.put, List.setIfInBounds_toArray, List.set_cons_zero, List.set_cons_succ]))
              refine Plan.runs_call_sl intE W9.heap.size A 33 #[.agg #[.slice (some ⟨fb, fo, none⟩) p.funcs.length fc, .slice ga p.globals.length gc, .slice la p.layouts.length lc, .int .i64 p.main], .int .i64 F, .int .i64 k, .slice (some ⟨gi, 0, none⟩) n n] rfl rfl _ rfl rfl (fun F' w' hb hf => by obtain ⟨hcl, hfz⟩ := bcell hb; go_simp) rfl (fun F' w' hb hf => ?_) (fun v62 => ?_)
              · refine (after_calls lo _ _ _ _ _ p F k L w' (HPW.out.below hb) HV.out HFL.out (by rw [HN.out]; exact HKN.out) (LaysAt.keep HLW.out (Keep.below hb)) (by rw [HN.out]; exact HFN.out.len) HFN.out.reg).mono ?_
                rw [HAE.out]
                rintro e w'' ⟨v', rfl, hk, hb'⟩
                have hs := hb.size
                exact ⟨v', rfl, hk.mono hs, hb', fun k h0 h1 => .inr (hk.blk h0 k h1).1⟩
              simp only [Act.put, List.setIfInBounds_toArray, List.set_cons_zero, List.set_cons_succ]
              repeat (first | (apply Plan.runs_skip rfl rfl; simp only [Act.put, List.setIfInBounds_toArray, List.set_cons_zero, List.set_cons_succ]) | (apply Plan.runs_det rfl rfl; (· intro F w' hb hf; obtain ⟨hcl, hfz⟩ := bcell hb; go_simp; rfl); simp only [Act.put, List.setIfInBounds_toArray, List.set_cons_zero, List.set_cons_succ]))
              refine Plan.runs_call_val (.bool (decide (xa ∈ A))) 32 #[v62, .int .i64 xa] rfl rfl _ rfl rfl (fun F' w' hb hf => by obtain ⟨hcl, hfz⟩ := bcell hb; go_simp) rfl (fun F' w' hb hf => ?_) ?_
              · have h1 : SlE intE W9.heap.size w' v62 A := Plan.facts_sl hf 25 rfl (by kernel_rfl) rfl (.inl rfl)
                exact rhas_calls _ _ _ xa w' h1
              simp only [Act.put, List.setIfInBounds_toArray, List.set_cons_zero, List.set_cons_succ]
              repeat (first | (apply Plan.runs_skip rfl rfl; simp only [Act.put, List.setIfInBounds_toArray, List.set_cons_zero, List.set_cons_succ]) | (apply Plan.runs_det rfl rfl; (· intro F w' hb hf; obtain ⟨hcl, hfz⟩ := bcell hb; go_simp; rfl); simp only [Act.put, List.setIfInBounds_toArray, List.set_cons_zero, List.set_cons_succ]))
              refine Plan.runs_nil (fun F' w6 hb hf => ?_)
              have HO6 := hid (show OwnE intE w2.heap.size 3 w6 u6 (deadL p F L k) from OwnE.only HO9.out (Only.below hb none) (fun _ _ => by simp))
              have HB6 := hid (HB9.out.trans (hb.mono HB9.out.size))
              clear hf hb
              cases hin : decide (xa ∈ A) with
              | true =>
                have HDB := hid (HDB.out.trans (by rw [hin]; rfl : _ = false))
                go_wp2_with fail
                go_roundw
                case rel => exact ⟨k + 1, by omega, by go_num, by rw [HSU.out, HDB.out]; simpa using HO6.out, HB6.out⟩
                case measure => simp [intOf] <;> omega
              | false =>
                have HDB := hid (HDB.out.trans (by rw [hin]; rfl : _ = true))
                go_wp2_with (
                  at_builtin
                  go_loud (refine wpList_append_one intE (o := ⟨some 72, _, _, _, _, _⟩) rfl (.tmp 69) (.tmp 71) 36 rfl w2.heap.size w6.heap.size 3 _ 8 Tryz.underlying36 infoI14 rfl (deadL p F L k) k (HO6.out.alloc _) ((OwnE.lit intE w6 w6.heap.size 3 [(k : Int)] _ w6.heap.size 1 rfl (Nat.le_refl _) rfl rfl (by simp)).sl (Nat.le_refl _) (by simp)) (by have := HLN.out; omega) (by have := HLN.out; simp only [maxLen]; omega) (by simp; have := HB6.out.size; omega) ?_)
                  intro g2 cap2 w8 ho2 hg2 hl2 hb4
                  have HO2 := hid ho2
                  have HB4 := hid hb4
                  clear ho2 hb4)
                go_roundw
                case rel => exact ⟨k + 1, by omega, by go_num, by rw [HSU.out, HDB.out]; exact HO2.out, (HB6.out.alloc HB6.out.size _).trans HB4.out⟩
                case measure => simp [intOf] <;> omega
    · have HK := hid (show k = n by omega)
      go_wp2_with fail
      go_ret
      rw [HK.out] at HO HLN
      exact ⟨_, L, rfl, HL.out, HO.out.sl (by have := HB2.out.size; omega) (by have := HLN.out; omega), bvia HB2.out HBL.out⟩

end Go.Proofs.YteiohnfmlabelaaGreat

/-
  The reference's Dead, for every argument.
-/
namespace Go.Proofs.YteiohnfmlabelaaGreat
set_option linter.unusedVariables false
set_option linter.unusedSimpArgs false
open Go.RowKit

set_option maxRecDepth 100000 in
set_option maxHeartbeats 4000000 in
theorem rdead_no (lo : Nat) (vf vg vl : Value) (p : Prg) (fn : Int) (w : World) (hp : ProgAt lo w vf vg vl p) (ht : thereB p fn = false) :
    Calls Tryz.prog 15 #[.agg #[vf, vg, vl, .int .i64 p.main], .int .i64 fn] w fun e w' => e = .returned (.slice none 0 0) ∧ Below w.heap.size w w' := by
  have HP := hid hp
  have HT := hid ht
  obtain ⟨fa, fc, fb, fo, S, rfl, p1, _, _, _, _, _, k1, _, m1, n1⟩ := hp.funcs.open
  obtain ⟨ga, gc, _, _, rfl, _⟩ := hp.globs.open
  obtain ⟨la, lc, _, _, _, rfl, _⟩ := hp.lays.open
  clear hp p1 k1 ht
  go_enter Tryz.func15, Tryz.ntmps15
  have HB := hid (show Below w.heap.size w (w.alloc (.cells #[.slice fa p.funcs.length fc, .slice ga p.globals.length gc, .slice la p.layouts.length lc, .int .i64 p.main] 26)) from (Below.refl _ _).alloc (Nat.le_refl _) _)
  go_wp2_with (
    go_at_call 30
    refine (rin_no lo _ _ _ p fn _ (HP.out.below HB.out) HT.out).mono ?_
    rintro e w1 ⟨rfl, hb1⟩)
  go_ret
  exact ⟨rfl, HB.out.trans (hb1.mono (by simp))⟩

theorem rdead_calls (lo : Nat) (vf vg vl : Value) (p : Prg) (fn : Int) (w : World) (hp : ProgAt lo w vf vg vl p) :
    Calls Tryz.prog 15 #[.agg #[vf, vg, vl, .int .i64 p.main], .int .i64 fn] w fun e w' => ∃ v' l, e = .returned v' ∧ DeadIs p fn l ∧ IntsAt w.heap.size w' v' l ∧ Below w.heap.size w w' := by
  cases ht : thereB p fn with
  | false =>
    refine (rdead_no lo vf vg vl p fn w hp ht).mono ?_
    rintro e w' ⟨rfl, hb⟩
    exact ⟨_, [], rfl, .inl ⟨ht, rfl⟩, SlE.nil _ _ _, hb⟩
  | true =>
    obtain ⟨h0, h1, hv⟩ := there_get ht
    obtain ⟨F, rfl⟩ := Int.eq_ofNat_of_zero_le h0
    refine (rdead_yes lo vf vg vl p F w hp hv (by omega)).mono ?_
    rintro e w' ⟨v', L, rfl, hL, hi, hb⟩
    exact ⟨v', _, rfl, .inr ⟨ht, L, by rw [Int.toNat_natCast]; exact hL, rfl⟩, by rw [Int.toNat_natCast]; exact hi, hb⟩

end Go.Proofs.YteiohnfmlabelaaGreat
