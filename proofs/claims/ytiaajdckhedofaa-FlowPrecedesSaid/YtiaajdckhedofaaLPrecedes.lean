/-
  The statement on the order of the blocks.
-/
import Derived.Test.YtiaajdckhedofaaPick
import Derived.Test.YtiaajdckhedofaaAwake
import Derived.Test.YtiaajdckhedofaaDomLaw
namespace Go.Proofs.Ytiaajdckhedofaa
set_option linter.unusedVariables false
set_option linter.unusedSimpArgs false
open Go.RowKit

set_option maxRecDepth 100000 in
set_option maxHeartbeats 4000000 in
theorem precedes_no (lo : Nat) (vf vg vl : Value) (p : Prg) (n : Nat) (w : World) (hp : ProgAt lo w vf vg vl p) (hv : validB p = false) :
    Calls Try.prog 9 #[.agg #[vf, vg, vl, .int .i64 p.main], .int .u8 n] w fun e w' => e = .returned (.bool true) ∧ Below w.heap.size w w' := by
  go_enter Try.func9, Try.ntmps9
  go_wp2_with fail
  have hb0 : Below w.heap.size w (w.alloc (Obj.cells #[vf, vg, vl, .int .i64 p.main] 26)) := (Below.refl _ _).alloc (Nat.le_refl _) _
  refine (pick_no lo vf vg vl p n _ (hp.below hb0) hv).mono ?_
  rintro e w1 ⟨rfl, hb1⟩
  have HB1 := hid (hb0.trans (hb1.mono (by simp)))
  clear hb0 hb1
  go_wp2_with fail
  refine (awake_calls _).mono ?_
  rintro e w2 ⟨rfl, hb2⟩
  have HB2 := hid ((HB1.out.alloc (by have := HB1.out.size; omega) _).trans (hb2.mono (by have := HB1.out.size; simp; omega)))
  clear hb2
  go_wp2_with fail
  refine (awake_calls _).mono ?_
  rintro e w3 ⟨rfl, hb3⟩
  have HB3 := hid (HB2.out.trans (hb3.mono (by have := HB2.out.size; omega)))
  clear hb3
  go_wp2_with fail
  go_ret
  exact ⟨rfl, HB3.out⟩

theorem cntR_le (c : List Ins) (m : Nat) : cntR c m ≤ m := by
  unfold cntR
  have := List.length_filter_le (fun q => nth (reachL c) (fr c q)) (List.range m)
  simpa using this

noncomputable def planLQ4 : Plan := mkPlan (regionOf Try.f9 4) [(1, .new), (3, .new), (5, .new)] []
noncomputable def planLQ20 : Plan := mkPlan (regionOf Try.f9 20) [(35, .new)] []

set_option maxRecDepth 100000 in
set_option maxHeartbeats 4000000 in
theorem precedes_yes (lo : Nat) (vf vg vl : Value) (p : Prg) (n : Nat) (w : World) (hp : ProgAt lo w vf vg vl p) (hv : validB p = true) (hn : n < 256) :
    Calls Try.prog 9 #[.agg #[vf, vg, vl, .int .i64 p.main], .int .u8 n] w fun e w' => e = .returned (.bool true) ∧ Below w.heap.size w w' := by
  go_enter Try.func9, Try.ntmps9
  go_wp2_with fail
  have hb0 : Below w.heap.size w (w.alloc (Obj.cells #[vf, vg, vl, .int .i64 p.main] 26)) := (Below.refl _ _).alloc (Nat.le_refl _) _
  have hfok := fok_of_funcB (valid_func hv (n % p.funcs.length) (Nat.mod_lt _ (valid_pos hv).1))
  refine (pick_yes lo vf vg vl p n _ (hp.below hb0) hv hn).mono ?_
  generalize nth p.funcs (n % p.funcs.length) = f at *
  rintro e w1 ⟨vc, rfl, hc1, hb1⟩
  have HB1 := hid (hb0.trans (hb1.mono (by simp)))
  have HJ := hid hfok.jok
  have HF := hid hfok
  obtain ⟨ca, cc, cb, co, rfl, hgone⟩ := hc1.open
  clear hgone
  have HC1 := hid hc1
  clear hb0 hb1 hfok hc1
  go_wp2_with fail
  generalize hW : World.alloc _ _ = W
  have hbW : Below w1.heap.size w1 W := by rw [← hW]; exact (Below.refl _ _).alloc (Nat.le_refl _) _
  have HC := hid (HC1.out.below hbW)
  have n0 : W.cell? ⟨w1.heap.size, 0, none⟩ = some (.string f.name) := by rw [← hW]; simp
  have n1 : W.cell? ⟨w1.heap.size, 1, none⟩ = some (.int .i64 f.params) := by rw [← hW]; simp
  have n2 : W.cell? ⟨w1.heap.size, 2, none⟩ = some (.int .i64 f.regs) := by rw [← hW]; simp
  have n3 : W.cell? ⟨w1.heap.size, 3, none⟩ = some (.slice ca f.code.length cc) := by rw [← hW]; simp
  have r0 : w1.heap.size < W.heap.size := by rw [← hW]; simp
  have hbW2 : Below w.heap.size w W := by rw [← hW]; exact HB1.out.alloc (by have := HB1.out.size; omega) _
  have HBW := hid hbW2
  clear hbW hW hbW2
  refine (awake_calls _).mono ?_
  rintro e w2 ⟨rfl, hb2⟩
  have HB2 := hid (HBW.out.trans (hb2.mono (HBW.out.size)))
  have HC2 := hid (HC.out.below hb2)
  have m0 := (hb2.cell (p := ⟨w1.heap.size, 0, none⟩) r0).trans n0
  have m1 := (hb2.cell (p := ⟨w1.heap.size, 1, none⟩) r0).trans n1
  have m2 := (hb2.cell (p := ⟨w1.heap.size, 2, none⟩) r0).trans n2
  have m3 := (hb2.cell (p := ⟨w1.heap.size, 3, none⟩) r0).trans n3
  have r1 : w1.heap.size < w2.heap.size := by have := hb2.size; omega
  have HV := hid hv
  have HP := hid hp
  clear n0 n1 n2 n3 hb2 r0 HC HBW hv hp
  go_wp2_with fail
  refine Plan.wp_facts (B := w2.heap.size) planLQ4 [(1, callF w2.heap.size (fun lo w v => BlksAt lo w v (blksL f.code))), (3, slF intE w2.heap.size (orderL f.code)), (5, slF boolE w2.heap.size (reachL f.code))] (by kernel_rfl) rfl (by kernel_rfl) (by kernel_rfl) (Nat.le_refl _) ?_
  have hle : (reachL f.code).length ≤ 1000 := by rw [reachL_len]; exact HJ.out.le
  repeat (first | (apply Plan.runs_skip rfl rfl; simp only [Act.put, List.setIfInBounds_toArray, List.set_cons_zero, List.set_cons_succ]) | (apply Plan.runs_det rfl rfl; (· intro F w' hb hf; obtain ⟨hcl, hfz⟩ := bcell hb; go_simp; rfl); simp only [Act.put, List.setIfInBounds_toArray, List.set_cons_zero, List.set_cons_succ]))
  refine Plan.runs_call 12 #[.agg #[.string f.name, .int .i64 f.params, .int .i64 f.regs, .slice ca f.code.length cc]] (fun lo w v => BlksAt lo w v (blksL f.code)) rfl rfl _ rfl rfl (fun F w' hb hf => by obtain ⟨hcl, hfz⟩ := bcell hb; go_simp) rfl (Nat.le_refl _) (fun F w' hb hf => ?_) (fun v30 => ?_)
  · exact blocks_calls lo _ f.name f.params f.regs f.code w' (HC2.out.below hb) HJ.out
  simp only [Act.put, List.setIfInBounds_toArray, List.set_cons_zero, List.set_cons_succ]
  repeat (first | (apply Plan.runs_skip rfl rfl; simp only [Act.put, List.setIfInBounds_toArray, List.set_cons_zero, List.set_cons_succ]) | (apply Plan.runs_det rfl rfl; (· intro F w' hb hf; obtain ⟨hcl, hfz⟩ := bcell hb; go_simp; rfl); simp only [Act.put, List.setIfInBounds_toArray, List.set_cons_zero, List.set_cons_succ]))
  refine Plan.runs_call_sl intE w2.heap.size (orderL f.code) 19 #[.agg #[.string f.name, .int .i64 f.params, .int .i64 f.regs, .slice ca f.code.length cc]] rfl rfl _ rfl rfl (fun F w' hb hf => by obtain ⟨hcl, hfz⟩ := bcell hb; go_simp) rfl (fun F w' hb hf => ?_) (fun v32 => ?_)
  · refine (order_calls lo _ f.name f.params f.regs f.code w' (HC2.out.below hb) HJ.out).mono ?_
    rintro e w'' ⟨v', rfl, hk, hb'⟩
    have hs := hb.size
    exact ⟨v', rfl, hk.mono hs, hb', fun k h0 h1 => .inr (hk.blk h0 k h1).1⟩
  simp only [Act.put, List.setIfInBounds_toArray, List.set_cons_zero, List.set_cons_succ]
  repeat (first | (apply Plan.runs_skip rfl rfl; simp only [Act.put, List.setIfInBounds_toArray, List.set_cons_zero, List.set_cons_succ]) | (apply Plan.runs_det rfl rfl; (· intro F w' hb hf; obtain ⟨hcl, hfz⟩ := bcell hb; go_simp; rfl); simp only [Act.put, List.setIfInBounds_toArray, List.set_cons_zero, List.set_cons_succ]))
  refine Plan.runs_call_sl boolE w2.heap.size (reachL f.code) 15 #[.agg #[.string f.name, .int .i64 f.params, .int .i64 f.regs, .slice ca f.code.length cc]] rfl rfl _ rfl rfl (fun F w' hb hf => by obtain ⟨hcl, hfz⟩ := bcell hb; go_simp) rfl (fun F w' hb hf => ?_) (fun v34 => ?_)
  · refine (reach_calls lo _ f.name f.params f.regs f.code w' (HC2.out.below hb) HJ.out).mono ?_
    rintro e w'' ⟨g, n', rfl, hn', hg, hrow, hb'⟩
    have hs := hb.size
    have hk := hrow.at w2.heap.size n' (by omega) (by rw [reachL_len]; exact hn') (by omega)
    exact ⟨_, rfl, hk, hb', fun k h0 h1 => .inr (by cases h1; exact hg)⟩
  simp only [Act.put, List.setIfInBounds_toArray, List.set_cons_zero, List.set_cons_succ]
  repeat (apply Plan.runs_det rfl rfl; (· intro F w hb hf; go_simp; rfl); simp only [Act.put, List.setIfInBounds_toArray, List.set_cons_zero, List.set_cons_succ])
  refine Plan.runs_nil (fun F wn hb2 hf => ?_)
  have HBN := hid (HB2.out.trans (hb2.mono HB2.out.size))
  have HCN := hid (HC2.out.below hb2)
  obtain ⟨lo1, wa, _, ka, da⟩ : ∃ lo w1, w2.heap.size ≤ lo ∧ Keep lo w1 wn ∧ BlksAt lo w1 v30 (blksL f.code) := Plan.rest_call (D := fun lo w v => BlksAt lo w v (blksL f.code)) hf 1 rfl (by decide +kernel) rfl rfl
  have h32 : SlE intE w2.heap.size wn v32 (orderL f.code) := Plan.rest_sl hf 3 rfl (by decide +kernel) rfl rfl
  have h34 : SlE boolE w2.heap.size wn v34 (reachL f.code) := Plan.rest_sl hf 5 rfl (by decide +kernel) rfl rfl
  have h30 := da.keep ka
  have p0 := (hb2.cell (p := ⟨w1.heap.size, 0, none⟩) r1).trans m0
  have p1 := (hb2.cell (p := ⟨w1.heap.size, 1, none⟩) r1).trans m1
  have p2 := (hb2.cell (p := ⟨w1.heap.size, 2, none⟩) r1).trans m2
  have p3 := (hb2.cell (p := ⟨w1.heap.size, 3, none⟩) r1).trans m3
  have r2 : w1.heap.size < wn.heap.size := by have := hb2.size; omega
  have HO := hid (HF.out.order)
  have hbl : (blksL f.code).length = bN f.code := blksL_len f.code
  have hfr : ∀ q, q < bN f.code → (nth (blksL f.code) q).fr = (fr f.code q : Int) := fun q hq => by rw [blksL_at _ _ hq]
  have hfl : ∀ q, q < bN f.code → fr f.code q < f.code.length := fun q hq => by have := fr_to f.code q hq; omega
  have hrl : (reachL f.code).length = f.code.length := reachL_len f.code
  clear da ka
  obtain ⟨a1, c1, b1, o1, S1, rfl, x1, q1, _, _, _, t1, _, _, _, y1⟩ := h30.open
  obtain ⟨a2, c2, b2, o2, rfl, x2, q2, t2, _, _, _, y2⟩ := IntsAt.open h32
  obtain ⟨a3, c3, b3, o3, rfl, x3, q3, t3, _, _, _, y3⟩ := BoolsAt.open h34
  clear hf hb2 m0 m1 m2 m3 r1 h30 h32 h34
  have hpos := HJ.out.pos
  have hbp : 0 < bN f.code := by rw [← hbl]; exact (blksL_pos f.code HJ.out).1
  rw [hbl] at x1 q1 t1 y1 ⊢
  rw [hrl] at x3 q3 t3 y3 ⊢
  have e1 := x1 hbp
  have e3 := x3 (by omega)
  subst e1 e3
  have s1 := t1 hbp
  have s3 := t3 (by omega)
  have hle2 := HJ.out.le
  have hbn : bN f.code ≤ 1000 := by rw [← hbl]; exact (blksL_pos f.code HJ.out).2
  have HRL := hid hrl
  have HBL := hid hbl
  clear x1 x3 t1 t3 hrl hbl hle
  go_wp2_with fail
  go_loop [10, 11] (fun ct i => ∃ k : Nat, k ≤ bN f.code ∧ i = .int .i64 k ∧ ct = .int .i64 (cntR f.code k : Nat)) (fun _ i => bN f.code - (intOf i).toNat)
  case atStart => exact ⟨0, Nat.zero_le _, rfl, rfl⟩
  case round =>
    obtain ⟨k, hk, rfl, rfl⟩ := hrel
    by_cases hlt : k < bN f.code
    · have d0 := q1 k hlt
      rw [hfr k hlt] at d0
      have hfk := hfl k hlt
      have d1 := q3 (fr f.code k) hfk
      have hcs := cntR_succ f.code k
      have hcl := cntR_le f.code k
      have hc2 := cntR_le f.code (k + 1)
      have t1 : decide ((fr f.code k : Int) < f.code.length) = true := by simp; omega
      have t2 : decide (fr f.code k < f.code.length) = true := by simp; omega
      have hlt2 : (k : Int) < bN f.code := by omega
      have hfk2 : (fr f.code k : Int) < f.code.length := by omega
      generalize hcn : cntR f.code (k + 1) = cn at *
      have HCNT := hid hcn
      clear hcn
      generalize cntR f.code k = cc0 at *
      generalize fr f.code k = fk at *
      cases hx : nth (reachL f.code) fk with
      | true =>
        rw [hx] at d1 hcs
        have HCS := hid hcs
        clear hx hcs q1 q2 q3 hfr hfl
        go_wp2_with fail
        go_round
        case rel => exact ⟨k + 1, by omega, by go_num, by rw [HCNT.out, HCS.out]; go_num⟩
        case measure => simp [intOf]; omega
      | false =>
        rw [hx] at d1 hcs
        have HCS := hid hcs
        clear hx hcs q1 q2 q3 hfr hfl
        go_wp2_with fail
        go_round
        case rel => exact ⟨k + 1, by omega, by go_num, by rw [HCNT.out, HCS.out]; rfl⟩
        case measure => simp [intOf]; omega
    · obtain rfl : k = bN f.code := by omega
      obtain ⟨h1, h2, h3, h4, h5⟩ := HO.out
      rw [← h1]
      have HDM := hid h5
      have hz0 : ((((orderL f.code).length : Nat) : Int) == 0) = false := beq_eq_false_iff_ne.2 (by omega)
      have e2 := x2 h2
      subst e2
      have s2 := t2 h2
      have d0 := q2 0 h2
      rw [h3] at d0
      rw [Nat.add_zero] at d0
      have hol : (orderL f.code).length ≤ 1000 := by rw [h1]; exact Nat.le_trans (cntR_le f.code _) hbn
      have H4 := hid h4
      have HQ1 := hid q1
      have hfr2 := hid hfr
      have HQ2 := hid q2
      clear h1 h3 h4 h5 q1 q2 q3 hfr hfl x2 t2 hlt
      generalize orderL f.code = O at *
      go_wp2_with fail
      go_loopw [12] (fun i wr => ∃ k : Nat, k ≤ O.length ∧ i = .int .i64 k ∧ Below wn.heap.size wn wr) (fun i _ => O.length - (intOf i).toNat)
      case atStart => exact ⟨0, Nat.zero_le _, rfl, Below.refl _ _⟩
      case round =>
        obtain ⟨i, hi, rfl, hb1⟩ := hrel
        obtain ⟨wo, hwo⟩ : ∃ wo, wo = wr := ⟨_, rfl⟩
        subst hwo
        by_cases hlt : i < O.length
        · have hlt2 : (i : Int) < O.length := by omega
          have HB1' := hid hb1
          clear hb1
          go_wp2_with fail
          go_loopw [13] (fun k wr => ∃ j : Nat, j ≤ i ∧ k = .int .i64 j ∧ Below wn.heap.size wn wr) (fun k _ => i - (intOf k).toNat)
          case atStart => exact ⟨0, Nat.zero_le _, rfl, HB1'.out⟩
          case round =>
            obtain ⟨j, hj, rfl, hb3⟩ := hrel
            obtain ⟨wq, hwq⟩ : ∃ wq, wq = wr := ⟨_, rfl⟩
            subst hwq
            by_cases hjl : j < i
            · have hjl2 : (j : Int) < i := by omega
              have hjo : j < O.length := by omega
              have hjo2 : (j : Int) < O.length := by omega
              obtain ⟨v1, v2⟩ := H4.out j hjo
              obtain ⟨v3, v4⟩ := H4.out i hlt
              obtain ⟨v5, v6⟩ := HDM.out i j hjl hlt
              have d1 := (hb3.cell (p := ⟨b2, _, none⟩) s2).trans (HQ2.out j hjo)
              have d2 := (hb3.cell (p := ⟨b2, _, none⟩) s2).trans (HQ2.out i hlt)
              obtain ⟨qa, hqa⟩ := Int.eq_ofNat_of_zero_le v1
              obtain ⟨qb, hqb⟩ := Int.eq_ofNat_of_zero_le v3
              rw [hqa] at v2 v5 v6 d1
              rw [hqb] at v4 v5 v6 d2
              have hqa2 : qa < bN f.code := by omega
              have hqb2 : qb < bN f.code := by omega
              have d3 := (hb3.cell (p := ⟨b1, _, none⟩) s1).trans (HQ1.out qa hqa2)
              have d4 := (hb3.cell (p := ⟨b1, _, none⟩) s1).trans (HQ1.out qb hqb2)
              rw [hfr2.out qa hqa2] at d3
              rw [hfr2.out qb hqb2] at d4
              have P0 := (hb3.cell (p := ⟨w1.heap.size, 0, none⟩) r2).trans p0
              have P1 := (hb3.cell (p := ⟨w1.heap.size, 1, none⟩) r2).trans p1
              have P2 := (hb3.cell (p := ⟨w1.heap.size, 2, none⟩) r2).trans p2
              have P3 := (hb3.cell (p := ⟨w1.heap.size, 3, none⟩) r2).trans p3
              have hsz := hb3.size
              have s4 : b1 < wq.heap.size := by omega
              have s5 : b2 < wq.heap.size := by omega
              have s6 : w1.heap.size < wq.heap.size := by omega
              have HC5 := hid (HCN.out.below hb3)
              have HDOM : Hid (domL f.code (fr f.code qb : Nat) (fr f.code qa : Nat) = false) := v6
              have u1 : ((qa : Int) == (qb : Int)) = false := beq_eq_false_iff_ne.2 v5
              have u2 : decide ((bN f.code : Int) ≤ qa) = false := by simp; omega
              have u3 : decide ((bN f.code : Int) ≤ qb) = false := by simp; omega
              have u2' : decide (bN f.code ≤ qa) = false := by simp; omega
              have u3' : decide (bN f.code ≤ qb) = false := by simp; omega
              have u4 : (qa : Int) < bN f.code := by omega
              have u5 : (qb : Int) < bN f.code := by omega
              have HB3' := hid hb3
              clear hb3 v1 v2 v3 v4 v5 v6 hqa hqb p0 p1 p2 p3
              generalize fr f.code qa = fa at *
              generalize fr f.code qb = fb at *
              go_wp2_with fail
              go_quiet (fail)
              go_wp2_with fail
              generalize hwd : World.drewN _ _ = wd
              have hbd : Below wq.heap.size wq wd := by rw [← hwd]; exact below_drewN (Below.refl _ _) _
              replace d3 := (hbd.cell (p := ⟨b1, _, none⟩) s4).trans d3
              replace d4 := (hbd.cell (p := ⟨b1, _, none⟩) s4).trans d4
              replace P0 := (hbd.cell (p := ⟨w1.heap.size, 0, none⟩) s6).trans P0
              replace P1 := (hbd.cell (p := ⟨w1.heap.size, 1, none⟩) s6).trans P1
              replace P2 := (hbd.cell (p := ⟨w1.heap.size, 2, none⟩) s6).trans P2
              replace P3 := (hbd.cell (p := ⟨w1.heap.size, 3, none⟩) s6).trans P3
              have hdz := hbd.size
              replace s4 : b1 < wd.heap.size := by omega
              replace s6 : w1.heap.size < wd.heap.size := by omega
              have HC6 := hid (HC5.out.below hbd)
              have HB6 := hid (HB3'.out.trans (hbd.mono HB3'.out.size))
              clear hwd d1 d2 s5 hbd hdz HC5 HB3'
              refine Plan.wp_facts (B := wd.heap.size) planLQ20 [(35, valF (.bool false))] (by kernel_rfl) rfl (by kernel_rfl) (by kernel_rfl) (Nat.le_refl _) ?_
              repeat (first | (apply Plan.runs_skip rfl rfl; simp only [Act.put, List.setIfInBounds_toArray, List.set_cons_zero, List.set_cons_succ]) | (apply Plan.runs_det rfl rfl; (· intro F w' hb hf; obtain ⟨hcl, hfz⟩ := bcell hb; go_simp; rfl); simp only [Act.put, List.setIfInBounds_toArray, List.set_cons_zero, List.set_cons_succ]))
              refine Plan.runs_call_val (.bool false) 17 #[.agg #[.string f.name, .int .i64 f.params, .int .i64 f.regs, .slice ca f.code.length cc], .int .i64 fb, .int .i64 fa] rfl rfl _ rfl rfl (fun F w' hb hf => by obtain ⟨hcl, hfz⟩ := bcell hb; go_simp) rfl (fun F w' hb hf => ?_) ?_
              · refine (dom_calls lo _ f.name f.params f.regs f.code fb fa w' (HC6.out.below hb) HJ.out).mono ?_
                rintro e w'' ⟨rfl, hb'⟩
                exact ⟨by rw [HDOM.out], hb'⟩
              simp only [Act.put, List.setIfInBounds_toArray, List.set_cons_zero, List.set_cons_succ]
              repeat (apply Plan.runs_det rfl rfl; (· intro F w hb hf; go_simp; rfl); simp only [Act.put, List.setIfInBounds_toArray, List.set_cons_zero, List.set_cons_succ])
              refine Plan.runs_nil (fun F wz hb4 hf => ?_)
              have HB4 := hid (HB6.out.trans (hb4.mono HB6.out.size))
              clear hf hb4
              go_wp2_with fail
              go_roundw
              case rel => exact ⟨j + 1, by omega, by go_num, HB4.out⟩
              case measure => simp [intOf]; omega
            · go_wp2_with fail
              go_roundw
              case rel => exact ⟨i + 1, by omega, by go_num, hb3⟩
              case measure => simp [intOf]; omega
        · go_wp2_with fail
          go_ret
          exact ⟨rfl, HBN.out.trans (hb1.mono HBN.out.size)⟩

end Go.Proofs.Ytiaajdckhedofaa
