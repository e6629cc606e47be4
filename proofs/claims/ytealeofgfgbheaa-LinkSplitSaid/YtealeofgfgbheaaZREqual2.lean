/-
  Equality of programs, as the document's answer checks it: the whole.
-/
import Derived.Test.YtealeofgfgbheaaZREqual
namespace Go.Proofs.Ytealeofgfgbheaa
set_option linter.unusedVariables false
set_option linter.unusedSimpArgs false
open Go.RowKit

noncomputable def planE6 : Plan := mkPlan (regionOf Try.f17 6) [(10, .new)] []
noncomputable def planE16 : Plan := mkPlan (regionOf Try.f17 16) [(10, .new)] []

set_option maxRecDepth 100000 in
set_option maxHeartbeats 4000000 in
theorem requal_calls (lo1 lo2 : Nat) (vf vg vl uf ug ul : Value) (a b : Prg) (w : World) (ha : ProgAt lo1 w vf vg vl a) (hb : ProgAt lo2 w uf ug ul b) :
    Calls Try.prog 17 #[.agg #[vf, vg, vl, .int .i64 a.main], .agg #[uf, ug, ul, .int .i64 b.main]] w fun e w' => e = .returned (.bool (eqC a b)) ∧ Below w.heap.size w w' := by
  obtain ⟨fa, fc, b1, o1, S, rfl, p1, x0, x1, x2, x3, xi, k1, _, m1, n1⟩ := ha.funcs.open
  obtain ⟨fa', fc', b2, o2, S', rfl, p2, y0, y1, y2, y3, yi, k2, _, m2, n2⟩ := hb.funcs.open
  obtain ⟨ga, gc, b3, o3, rfl, p3, z0, z1, k3, _, m3, n3⟩ := ha.globs.open
  obtain ⟨ga', gc', b4, o4, rfl, p4, t0, t1, k4, _, m4, n4⟩ := hb.globs.open
  obtain ⟨la, lc, b5, o5, T, rfl, p5, u0, ui, k5, _, m5, n5⟩ := ha.lays.open
  obtain ⟨la', lc', b6, o6, T', rfl, p6, v0, vi, k6, _, m6, n6⟩ := hb.lays.open
  have HF := hid (And.intro p1 (And.intro x0 (And.intro x1 (And.intro x2 (And.intro x3 (And.intro xi k1))))))
  have HF' := hid (And.intro p2 (And.intro y0 (And.intro y1 (And.intro y2 (And.intro y3 (And.intro yi k2))))))
  have HG := hid (And.intro p3 (And.intro z0 (And.intro z1 k3)))
  have HG' := hid (And.intro p4 (And.intro t0 (And.intro t1 k4)))
  have HL := hid (And.intro p5 (And.intro u0 (And.intro ui k5)))
  have HL' := hid (And.intro p6 (And.intro v0 (And.intro vi k6)))
  clear p1 x0 x1 x2 x3 xi k1 p2 y0 y1 y2 y3 yi k2 p3 z0 z1 k3 p4 t0 t1 k4 p5 u0 ui k5 p6 v0 vi k6 ha hb
  by_cases hmain : a.main = b.main
  rotate_left
  · have gmain : (a.main != b.main) = true := by simp; omega
    have HR := hid (show eqC a b = false from eqC_false fun he => hmain (by rw [he]))
    clear hmain
    go_enter Try.func17, Try.ntmps17
    go_wp2_with fail
    go_ret
    exact ⟨ret_bool HR.out.symm, ((Below.refl _ _).alloc (Nat.le_refl _) _).alloc (by simp) _⟩
  have gmain : (a.main != b.main) = false := by simp [hmain]
  have Hmain := hid hmain
  clear hmain
  by_cases hlf : a.funcs.length = b.funcs.length
  rotate_left
  · have glf : ((a.funcs.length : Int) != (b.funcs.length : Int)) = true := by simp; omega
    have HR := hid (show eqC a b = false from eqC_false fun he => hlf (by rw [he]))
    clear hlf
    go_enter Try.func17, Try.ntmps17
    go_wp2_with fail
    go_ret
    exact ⟨ret_bool HR.out.symm, ((Below.refl _ _).alloc (Nat.le_refl _) _).alloc (by simp) _⟩
  have glf : ((a.funcs.length : Int) != (b.funcs.length : Int)) = false := by simp [hlf]
  have Hlf := hid hlf
  clear hlf
  by_cases hlg : a.globals.length = b.globals.length
  rotate_left
  · have glg : ((a.globals.length : Int) != (b.globals.length : Int)) = true := by simp; omega
    have HR := hid (show eqC a b = false from eqC_false fun he => hlg (by rw [he]))
    clear hlg
    go_enter Try.func17, Try.ntmps17
    go_wp2_with fail
    go_ret
    exact ⟨ret_bool HR.out.symm, ((Below.refl _ _).alloc (Nat.le_refl _) _).alloc (by simp) _⟩
  have glg : ((a.globals.length : Int) != (b.globals.length : Int)) = false := by simp [hlg]
  have Hlg := hid hlg
  clear hlg
  by_cases hll : a.layouts.length = b.layouts.length
  rotate_left
  · have gll : ((a.layouts.length : Int) != (b.layouts.length : Int)) = true := by simp; omega
    have HR := hid (show eqC a b = false from eqC_false fun he => hll (by rw [he]))
    clear hll
    go_enter Try.func17, Try.ntmps17
    go_wp2_with fail
    go_ret
    exact ⟨ret_bool HR.out.symm, ((Below.refl _ _).alloc (Nat.le_refl _) _).alloc (by simp) _⟩
  have gll : ((a.layouts.length : Int) != (b.layouts.length : Int)) = false := by simp [hll]
  have Hll := hid hll
  clear hll
  go_enter Try.func17, Try.ntmps17
  go_wp2_with fail
  generalize hW : World.alloc _ _ = W
  have hbW : Below w.heap.size w W := by rw [← hW]; exact ((Below.refl _ _).alloc (Nat.le_refl _) _).alloc (by simp) _
  have R1 := hid (show RowAt W w.heap.size [.slice fa a.funcs.length fc, .slice ga a.globals.length gc, .slice la a.layouts.length lc, .int .i64 a.main] by
    rw [← hW]
    exact (RowAt.new w _ _ _ _ rfl rfl).below ((Below.refl _ _).alloc (Nat.le_refl _) _))
  have R2 := hid (show RowAt W (w.heap.size + 1) [.slice fa' b.funcs.length fc', .slice ga' b.globals.length gc', .slice la' b.layouts.length lc', .int .i64 b.main] by
    rw [← hW]
    exact RowAt.new _ _ _ _ _ (by simp) rfl)
  have HBW := hid hbW
  clear hW hbW
  go_loopw [5] (fun i wr => ∃ k : Nat, k ≤ a.funcs.length ∧ i = .int .i64 k ∧ (∀ j, j < k → nth a.funcs j = nth b.funcs j) ∧ Below w.heap.size w wr ∧ Below W.heap.size W wr) (fun i _ => a.funcs.length - (intOf i).toNat)
  case atStart => exact ⟨0, Nat.zero_le _, rfl, fun j hj => by omega, HBW.out, Below.refl _ _⟩
  case round =>
    obtain ⟨k, hk, rfl, hag, hbl, hbl2⟩ := hrel
    obtain ⟨wo, hwo⟩ : ∃ wo, wo = wr := ⟨_, rfl⟩
    subst hwo
    have R1b := R1.out.below hbl2
    have R2b := R2.out.below hbl2
    have r0 := R1b.2 0 _ rfl
    have q0 := R2b.2 0 _ rfl
    have s5 := R1b.1
    have s6 := R2b.1
    have HB51 := hid hbl
    have HB52 := hid hbl2
    have HA5 := hid hag
    clear R1b R2b hag
    by_cases hlt : k < a.funcs.length
    · have hr : k < b.funcs.length := by have := Hlf.out; omega
      have hlt2 : (k : Int) < a.funcs.length := by omega
      have hr2 : (k : Int) < b.funcs.length := by omega
      have hz := hbl.size
      obtain ⟨p1, x0, x1, x2, x3, xi, k1⟩ := HF.out
      obtain ⟨p2, y0, y1, y2, y3, yi, k2⟩ := HF'.out
      have e1 := p1 (by omega)
      have e2 := p2 (by omega)
      subst e1 e2
      have s1 := k1 (by omega)
      have s2 := k2 (by omega)
      have d0 := (hbl.cell (p := ⟨b1, _, none⟩) s1).trans (x0 k hlt)
      have d1 := (hbl.cell (p := ⟨b1, _, none⟩) s1).trans (x1 k hlt)
      have d2 := (hbl.cell (p := ⟨b1, _, none⟩) s1).trans (x2 k hlt)
      have d3 := (hbl.cell (p := ⟨b1, _, none⟩) s1).trans (x3 k hlt)
      have f0 := (hbl.cell (p := ⟨b2, _, none⟩) s2).trans (y0 k hr)
      have f1 := (hbl.cell (p := ⟨b2, _, none⟩) s2).trans (y1 k hr)
      have f2 := (hbl.cell (p := ⟨b2, _, none⟩) s2).trans (y2 k hr)
      have f3 := (hbl.cell (p := ⟨b2, _, none⟩) s2).trans (y3 k hr)
      have s3 : b1 < wo.heap.size := by omega
      have s4 : b2 < wo.heap.size := by omega
      have HI := hid ((xi k hlt).below hbl)
      have HJ := hid ((yi k hr).below hbl)
      obtain ⟨u, hu⟩ : ∃ u, nth a.funcs k = u := ⟨_, rfl⟩
      obtain ⟨v, hv⟩ : ∃ v, nth b.funcs k = v := ⟨_, rfl⟩
      have HU := hid hu
      have HV := hid hv
      rw [hu] at d0 d1 d2 d3 HI
      rw [hv] at f0 f1 f2 f3 HJ
      clear p1 p2 x0 x1 x2 x3 xi y0 y1 y2 y3 yi k1 k2 hu hv hz hbl hbl2
      obtain ⟨vb, hvb⟩ : ∃ vb, eqC u v = vb := ⟨_, rfl⟩
      have HX := hid hvb
      clear hvb
      go_wp2_with fail
      refine Plan.wp_facts (B := wo.heap.size) planE6 [(10, valF (.bool vb))] (by kernel_rfl) rfl (by kernel_rfl) (by kernel_rfl) (Nat.le_refl _) ?_
      repeat (first | (apply Plan.runs_skip rfl rfl; simp only [Act.put, List.setIfInBounds_toArray, List.set_cons_zero, List.set_cons_succ]) | (apply Plan.runs_det rfl rfl; (· intro F w' hb hf; obtain ⟨hcl, hfz⟩ := bcell hb; go_simp; rfl); simp only [Act.put, List.setIfInBounds_toArray, List.set_cons_zero, List.set_cons_succ]))
      refine Plan.runs_call_val (.bool vb) 40 #[.agg #[.string u.name, .int .i64 u.params, .int .i64 u.regs, .slice (S k).a u.code.length (S k).c], .agg #[.string v.name, .int .i64 v.params, .int .i64 v.regs, .slice (S' k).a v.code.length (S' k).c]] rfl rfl _ rfl rfl (fun F w' hb hf => by go_simp) rfl (fun F w' hb hf => ?_) ?_
      · refine (reqFun_calls _ _ _ _ u v w' (HI.out.below hb) (HJ.out.below hb)).mono ?_
        rintro e w'' ⟨rfl, hb'⟩
        exact ⟨by rw [HX.out], hb'⟩
      simp only [Act.put, List.setIfInBounds_toArray, List.set_cons_zero, List.set_cons_succ]
      repeat (first | (apply Plan.runs_skip rfl rfl; simp only [Act.put, List.setIfInBounds_toArray, List.set_cons_zero, List.set_cons_succ]) | (apply Plan.runs_det rfl rfl; (· intro F w' hb hf; obtain ⟨hcl, hfz⟩ := bcell hb; go_simp; rfl); simp only [Act.put, List.setIfInBounds_toArray, List.set_cons_zero, List.set_cons_succ]))
      refine Plan.runs_nil (fun F wn hb2 hf => ?_)
      have HN1 := hid (HB51.out.trans (hb2.mono HB51.out.size))
      have HN2 := hid (HB52.out.trans (hb2.mono HB52.out.size))
      clear hf hb2
      cases vb with
      | true =>
        go_wp2_with fail
        go_roundw
        case rel =>
          refine ⟨k + 1, by omega, by go_num, fun j hj => ?_, HN1.out, HN2.out⟩
          rcases Nat.lt_or_ge j k with h5 | h5
          · exact HA5.out j h5
          · rw [show j = k by omega, HU.out, HV.out]
            have h9 := HX.out
            simpa [eqC, intsEq] using h9
        case measure => simp [intOf]; omega
      | false =>
        go_wp2_with fail
        go_ret
        refine ⟨ret_bool (eqC_false fun he => ?_).symm, HN1.out⟩
        have h9 := HX.out
        rw [← HU.out, ← HV.out, he] at h9
        simp [eqC, intsEq] at h9
    · have HEf := hid (eq_of_nth Hlf.out fun j hj => HA5.out j (by omega))
      clear hbl hbl2
      go_wp2_with fail
      clear r0 q0 s5 s6 hk hlt
      go_loopw [6] (fun i wr => ∃ k : Nat, k ≤ a.globals.length ∧ i = .int .i64 k ∧ (∀ j, j < k → nth a.globals j = nth b.globals j) ∧ Below w.heap.size w wr ∧ Below W.heap.size W wr) (fun i _ => a.globals.length - (intOf i).toNat)
      case atStart => exact ⟨0, Nat.zero_le _, rfl, fun j hj => by omega, HB51.out, HB52.out⟩
      case round =>
        obtain ⟨k, hk, rfl, hag, hbl, hbl2⟩ := hrel
        obtain ⟨wo, hwo⟩ : ∃ wo, wo = wr := ⟨_, rfl⟩
        subst hwo
        have R1b := R1.out.below hbl2
        have R2b := R2.out.below hbl2
        have r1 := R1b.2 1 _ rfl
        have q1 := R2b.2 1 _ rfl
        have s5 := R1b.1
        have s6 := R2b.1
        have HB61 := hid hbl
        have HB62 := hid hbl2
        have HA6 := hid hag
        clear R1b R2b hag
        by_cases hlt : k < a.globals.length
        · have hr : k < b.globals.length := by have := Hlg.out; omega
          have hlt2 : (k : Int) < a.globals.length := by omega
          have hr2 : (k : Int) < b.globals.length := by omega
          have hz := hbl.size
          obtain ⟨p3, z0, z1, k3⟩ := HG.out
          obtain ⟨p4, t0, t1, k4⟩ := HG'.out
          have e1 := p3 (by omega)
          have e2 := p4 (by omega)
          subst e1 e2
          have s1 := k3 (by omega)
          have s2 := k4 (by omega)
          have d0 := (hbl.cell (p := ⟨b3, _, none⟩) s1).trans (z0 k hlt)
          have d1 := (hbl.cell (p := ⟨b3, _, none⟩) s1).trans (z1 k hlt)
          have f0 := (hbl.cell (p := ⟨b4, _, none⟩) s2).trans (t0 k hr)
          have f1 := (hbl.cell (p := ⟨b4, _, none⟩) s2).trans (t1 k hr)
          have s3 : b3 < wo.heap.size := by omega
          have s4 : b4 < wo.heap.size := by omega
          obtain ⟨u, hu⟩ : ∃ u, nth a.globals k = u := ⟨_, rfl⟩
          obtain ⟨v, hv⟩ : ∃ v, nth b.globals k = v := ⟨_, rfl⟩
          have HU := hid hu
          have HV := hid hv
          rw [hu] at d0 d1
          rw [hv] at f0 f1
          clear p3 z0 z1 k3 p4 t0 t1 k4 hu hv hz hbl hbl2
          have hneq := neqGlob u v
          unfold globV at hneq
          have hgd := globGuard
          cases hx : eqC u v with
          | true =>
            rw [hx] at hneq
            have HX := hid hx
            clear hx
            go_wp2_with fail
            go_quiet (fail)
            go_wp2_with fail
            go_roundw
            case rel =>
              refine ⟨k + 1, by omega, by go_num, fun j hj => ?_, below_drewN HB61.out _, below_drewN HB62.out _⟩
              rcases Nat.lt_or_ge j k with h5 | h5
              · exact HA6.out j h5
              · rw [show j = k by omega, HU.out, HV.out]
                have h9 := HX.out
                simpa [eqC, intsEq] using h9
            case measure => simp [intOf]; omega
          | false =>
            rw [hx] at hneq
            have HX := hid hx
            clear hx
            go_wp2_with fail
            go_quiet (fail)
            go_wp2_with fail
            go_ret
            refine ⟨ret_bool (eqC_false fun he => ?_).symm, below_drewN HB61.out _⟩
            have h9 := HX.out
            rw [← HU.out, ← HV.out, he] at h9
            simp [eqC, intsEq] at h9
        · have HEg := hid (eq_of_nth Hlg.out fun j hj => HA6.out j (by omega))
          clear hbl hbl2
          go_wp2_with fail
          clear r1 q1 s5 s6 hk hlt
          go_loopw [7] (fun i wr => ∃ k : Nat, k ≤ a.layouts.length ∧ i = .int .i64 k ∧ (∀ j, j < k → nth a.layouts j = nth b.layouts j) ∧ Below w.heap.size w wr ∧ Below W.heap.size W wr) (fun i _ => a.layouts.length - (intOf i).toNat)
          case atStart => exact ⟨0, Nat.zero_le _, rfl, fun j hj => by omega, HB61.out, HB62.out⟩
          case round =>
            obtain ⟨k, hk, rfl, hag, hbl, hbl2⟩ := hrel
            obtain ⟨wo, hwo⟩ : ∃ wo, wo = wr := ⟨_, rfl⟩
            subst hwo
            have R1b := R1.out.below hbl2
            have R2b := R2.out.below hbl2
            have r2 := R1b.2 2 _ rfl
            have q2 := R2b.2 2 _ rfl
            have s5 := R1b.1
            have s6 := R2b.1
            have HB71 := hid hbl
            have HB72 := hid hbl2
            have HA7 := hid hag
            clear R1b R2b hag
            by_cases hlt : k < a.layouts.length
            · have hr : k < b.layouts.length := by have := Hll.out; omega
              have hlt2 : (k : Int) < a.layouts.length := by omega
              have hr2 : (k : Int) < b.layouts.length := by omega
              have hz := hbl.size
              obtain ⟨p5, u0, ui, k5⟩ := HL.out
              obtain ⟨p6, v0, vi, k6⟩ := HL'.out
              have e1 := p5 (by omega)
              have e2 := p6 (by omega)
              subst e1 e2
              have s1 := k5 (by omega)
              have s2 := k6 (by omega)
              have d0 := (hbl.cell (p := ⟨b5, _, none⟩) s1).trans (u0 k hlt)
              have f0 := (hbl.cell (p := ⟨b6, _, none⟩) s2).trans (v0 k hr)
              have s3 : b5 < wo.heap.size := by omega
              have s4 : b6 < wo.heap.size := by omega
              have HI := hid ((ui k hlt).below hbl)
              have HJ := hid ((vi k hr).below hbl)
              clear p5 u0 ui k5 p6 v0 vi k6 hz hbl hbl2
              obtain ⟨vb, hvb⟩ : ∃ vb, intsEq (nth a.layouts k) (nth b.layouts k) = vb := ⟨_, rfl⟩
              have HX := hid hvb
              clear hvb
              go_wp2_with fail
              refine Plan.wp_facts (B := wo.heap.size) planE16 [(10, valF (.bool vb))] (by kernel_rfl) rfl (by kernel_rfl) (by kernel_rfl) (Nat.le_refl _) ?_
              repeat (first | (apply Plan.runs_skip rfl rfl; simp only [Act.put, List.setIfInBounds_toArray, List.set_cons_zero, List.set_cons_succ]) | (apply Plan.runs_det rfl rfl; (· intro F w' hb hf; obtain ⟨hcl, hfz⟩ := bcell hb; go_simp; rfl); simp only [Act.put, List.setIfInBounds_toArray, List.set_cons_zero, List.set_cons_succ]))
              refine Plan.runs_call_val (.bool vb) 23 #[.slice (T k).a (nth a.layouts k).length (T k).c, .slice (T' k).a (nth b.layouts k).length (T' k).c] rfl rfl _ rfl rfl (fun F w' hb hf => by go_simp) rfl (fun F w' hb hf => ?_) ?_
              · refine (ints_calls _ _ _ _ (nth a.layouts k) (nth b.layouts k) w' (HI.out.below hb) (HJ.out.below hb)).mono ?_
                rintro e w'' ⟨rfl, hb'⟩
                exact ⟨by rw [HX.out], hb'⟩
              simp only [Act.put, List.setIfInBounds_toArray, List.set_cons_zero, List.set_cons_succ]
              repeat (first | (apply Plan.runs_skip rfl rfl; simp only [Act.put, List.setIfInBounds_toArray, List.set_cons_zero, List.set_cons_succ]) | (apply Plan.runs_det rfl rfl; (· intro F w' hb hf; obtain ⟨hcl, hfz⟩ := bcell hb; go_simp; rfl); simp only [Act.put, List.setIfInBounds_toArray, List.set_cons_zero, List.set_cons_succ]))
              refine Plan.runs_nil (fun F wn hb2 hf => ?_)
              have HN1 := hid (HB71.out.trans (hb2.mono HB71.out.size))
              have HN2 := hid (HB72.out.trans (hb2.mono HB72.out.size))
              clear hf hb2
              cases vb with
              | true =>
                go_wp2_with fail
                go_roundw
                case rel =>
                  refine ⟨k + 1, by omega, by go_num, fun j hj => ?_, HN1.out, HN2.out⟩
                  rcases Nat.lt_or_ge j k with h5 | h5
                  · exact HA7.out j h5
                  · rw [show j = k by omega]
                    have h9 := HX.out
                    simpa [eqC, intsEq] using h9
                case measure => simp [intOf]; omega
              | false =>
                go_wp2_with fail
                go_ret
                refine ⟨ret_bool (eqC_false fun he => ?_).symm, HN1.out⟩
                have h9 := HX.out
                rw [he] at h9
                simp [eqC, intsEq] at h9
            · have HEl := hid (eq_of_nth Hll.out fun j hj => HA7.out j (by omega))
              clear hbl hbl2
              go_wp2_with fail
              clear r2 q2 s5 s6 hk hlt
              go_ret
              exact ⟨ret_bool (eqC_true (prg_ext HEf.out HEg.out HEl.out Hmain.out)).symm, HB71.out⟩

end Go.Proofs.Ytealeofgfgbheaa
