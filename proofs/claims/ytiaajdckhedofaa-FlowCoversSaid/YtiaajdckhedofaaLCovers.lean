/-
  The statement that the blocks cover the function.
-/
import Derived.Test.YtiaajdckhedofaaPick
import Derived.Test.YtiaajdckhedofaaAwake
import Derived.Test.YtiaajdckhedofaaFlow
namespace Go.Proofs.Ytiaajdckhedofaa
set_option linter.unusedVariables false
set_option linter.unusedSimpArgs false
open Go.RowKit

set_option maxRecDepth 100000 in
set_option maxHeartbeats 4000000 in
theorem covers_no (lo : Nat) (vf vg vl : Value) (p : Prg) (n : Nat) (w : World) (hp : ProgAt lo w vf vg vl p) (hv : validB p = false) :
    Calls Try.prog 7 #[.agg #[vf, vg, vl, .int .i64 p.main], .int .u8 n] w fun e w' => e = .returned (.bool true) ∧ Below w.heap.size w w' := by
  go_enter Try.func7, Try.ntmps7
  go_wp2_with fail
  have hb0 : Below w.heap.size w (w.alloc (Obj.cells #[vf, vg, vl, .int .i64 p.main] 26)) := (Below.refl _ _).alloc (Nat.le_refl _) _
  refine (pick_no lo vf vg vl p n _ (hp.below hb0) hv).mono ?_
  rintro e w1 ⟨rfl, hb1⟩
  have HB1 := hid (hb0.trans (hb1.mono (by simp)))
  clear hb0 hb1
  go_wp2_with fail
  refine (awake_calls _).mono ?_
  rintro e w2 ⟨rfl, hb2⟩
  have HB2 := hid ((HB1.out.alloc (by have := HB1.out.size; omega) _).trans (hb2.mono (by have := HB1.out.size; simp; omega)))
  clear hb2
  go_wp2_with fail
  refine (awake_calls _).mono ?_
  rintro e w3 ⟨rfl, hb3⟩
  have HB3 := hid (HB2.out.trans (hb3.mono (by have := HB2.out.size; omega)))
  clear hb3
  go_wp2_with fail
  go_ret
  exact ⟨rfl, HB3.out⟩

/-- Where block k begins; behind the last one: the end. -/
def atN (c : List Ins) : Nat → Nat
  | 0 => 0
  | k + 1 => to c k
theorem atN_fr (c : List Ins) (k : Nat) (hk : k < bN c) : fr c k = atN c k := by
  cases k with
  | zero => exact (binv c c.length).first hk
  | succ k => exact (binv c c.length).next k hk
theorem atN_end (c : List Ins) (h : 0 < bN c) : atN c (bN c) = c.length := by
  obtain ⟨k, hk⟩ : ∃ k, bN c = k + 1 := ⟨bN c - 1, by omega⟩
  rw [hk]
  exact (binv c c.length).last k hk.symm

theorem Fok.skips {p : Prg} {f : Fun} (hf : Fok p f) (q i m : Nat) (hq : q < bN f.code) (h1 : fr f.code q ≤ i) (h2 : i + 1 < to f.code q) (ho : (nth f.code i).op ≠ 51) (hm : i < m) (hm2 : (nth f.code m).op ≠ 51) (hm3 : ∀ j, i < j → j < m → (nth f.code j).op = 51) : nextL f.code i = [(m : Int)] := by
  obtain ⟨j, e1, e2, e3, e4, e5⟩ := hf.inside q i hq h1 h2 ho
  rcases Nat.lt_trichotomy m j with h | h | h
  · exact absurd (e5 m hm h) hm2
  · rw [h]; exact e1
  · exact absurd (hm3 j e2 h) e4

set_option maxRecDepth 100000 in
set_option maxHeartbeats 4000000 in
theorem covers_yes (lo : Nat) (vf vg vl : Value) (p : Prg) (n : Nat) (w : World) (hp : ProgAt lo w vf vg vl p) (hv : validB p = true) (hn : n < 256) :
    Calls Try.prog 7 #[.agg #[vf, vg, vl, .int .i64 p.main], .int .u8 n] w fun e w' => e = .returned (.bool true) ∧ Below w.heap.size w w' := by
  go_enter Try.func7, Try.ntmps7
  go_wp2_with fail
  have hb0 : Below w.heap.size w (w.alloc (Obj.cells #[vf, vg, vl, .int .i64 p.main] 26)) := (Below.refl _ _).alloc (Nat.le_refl _) _
  have hfok := fok_of_funcB (valid_func hv (n % p.funcs.length) (Nat.mod_lt _ (valid_pos hv).1))
  refine (pick_yes lo vf vg vl p n _ (hp.below hb0) hv hn).mono ?_
  generalize nth p.funcs (n % p.funcs.length) = f at *
  rintro e w1 ⟨vc, rfl, hc1, hb1⟩
  have HB1 := hid (hb0.trans (hb1.mono (by simp)))
  have HJ := hid hfok.jok
  have HF := hid hfok
  obtain ⟨ca, cc, cb, co, rfl, hgone⟩ := hc1.open
  clear hgone
  have HC1 := hid hc1
  clear hb0 hb1 hfok hc1
  go_wp2_with fail
  generalize hW : World.alloc _ _ = W
  have hbW : Below w1.heap.size w1 W := by rw [← hW]; exact (Below.refl _ _).alloc (Nat.le_refl _) _
  have HC := hid (HC1.out.below hbW)
  have n0 : W.cell? ⟨w1.heap.size, 0, none⟩ = some (.string f.name) := by rw [← hW]; simp
  have n1 : W.cell? ⟨w1.heap.size, 1, none⟩ = some (.int .i64 f.params) := by rw [← hW]; simp
  have n2 : W.cell? ⟨w1.heap.size, 2, none⟩ = some (.int .i64 f.regs) := by rw [← hW]; simp
  have n3 : W.cell? ⟨w1.heap.size, 3, none⟩ = some (.slice ca f.code.length cc) := by rw [← hW]; simp
  have r0 : w1.heap.size < W.heap.size := by rw [← hW]; simp
  have hbW2 : Below w.heap.size w W := by rw [← hW]; exact HB1.out.alloc (by have := HB1.out.size; omega) _
  have HBW := hid hbW2
  clear hbW hW hbW2
  refine (awake_calls _).mono ?_
  rintro e w2 ⟨rfl, hb2⟩
  have HB2 := hid (HBW.out.trans (hb2.mono (HBW.out.size)))
  have HC2 := hid (HC.out.below hb2)
  have m0 := (hb2.cell (p := ⟨w1.heap.size, 0, none⟩) r0).trans n0
  have m1 := (hb2.cell (p := ⟨w1.heap.size, 1, none⟩) r0).trans n1
  have m2 := (hb2.cell (p := ⟨w1.heap.size, 2, none⟩) r0).trans n2
  have m3 := (hb2.cell (p := ⟨w1.heap.size, 3, none⟩) r0).trans n3
  have r1 : w1.heap.size < w2.heap.size := by have := hb2.size; omega
  have HV := hid hv
  have HP := hid hp
  clear n0 n1 n2 n3 hb2 r0 HC HBW hv hp
  go_wp2_with fail
  refine (blocks_calls lo _ f.name f.params f.regs f.code _ HC2.out HJ.out).mono ?_
  rintro e wn ⟨v26, rfl, h26, hb2⟩
  have HBN := hid (HB2.out.trans (hb2.mono HB2.out.size))
  have HCN := hid (HC2.out.below hb2)
  have p0 := (hb2.cell (p := ⟨w1.heap.size, 0, none⟩) r1).trans m0
  have p1 := (hb2.cell (p := ⟨w1.heap.size, 1, none⟩) r1).trans m1
  have p2 := (hb2.cell (p := ⟨w1.heap.size, 2, none⟩) r1).trans m2
  have p3 := (hb2.cell (p := ⟨w1.heap.size, 3, none⟩) r1).trans m3
  have r2 : w1.heap.size < wn.heap.size := by have := hb2.size; omega
  have hbl : (blksL f.code).length = bN f.code := blksL_len f.code
  have hfr : ∀ q, q < bN f.code → (nth (blksL f.code) q).fr = (fr f.code q : Int) ∧ (nth (blksL f.code) q).to = (to f.code q : Int) := fun q hq => by rw [blksL_at _ _ hq]; exact ⟨rfl, rfl⟩
  have hft : ∀ q, q < bN f.code → fr f.code q < to f.code q ∧ to f.code q ≤ f.code.length := fun q hq => by have := fr_to f.code q hq; exact ⟨this.1, this.2.1⟩
  have hpos := HJ.out.pos
  have hle := HJ.out.le
  have hbp : 0 < bN f.code := by rw [← hbl]; exact (blksL_pos f.code HJ.out).1
  obtain ⟨a1, c1, b1, o1, S1, rfl, x1, q1, q2, _, _, t1, _, _, _, y1⟩ := h26.open
  clear hb2 m0 m1 m2 m3 r1 h26
  have HBL := hid hbl
  rw [hbl] at x1 q1 q2 t1 y1 ⊢
  have e1 := x1 hbp
  subst e1
  have s1 := t1 hbp
  clear x1 t1 hbl
  obtain ⟨_, _, cb, co, hce, hcp, z0, _, _, _, _, zbl, _, _, _, z1⟩ := HCN.out.open
  cases hce
  have e2 := hcp hpos
  subst e2
  have s5 := zbl hpos
  clear hcp zbl z1
  go_wp2_with fail
  go_loopw [8, 9] (fun at' i wr => ∃ k : Nat, k ≤ bN f.code ∧ i = .int .i64 k ∧ at' = .int .i64 (atN f.code k : Nat) ∧ Below wn.heap.size wn wr) (fun _ i _ => bN f.code - (intOf i).toNat)
  case atStart => exact ⟨0, Nat.zero_le _, rfl, rfl, Below.refl _ _⟩
  case round =>
    obtain ⟨k, hk, rfl, rfl, hb1⟩ := hrel
    obtain ⟨wo, hwo⟩ : ∃ wo, wo = wr := ⟨_, rfl⟩
    subst hwo
    have P0 := (hb1.cell (p := ⟨w1.heap.size, 0, none⟩) r2).trans p0
    have P1 := (hb1.cell (p := ⟨w1.heap.size, 1, none⟩) r2).trans p1
    have P2 := (hb1.cell (p := ⟨w1.heap.size, 2, none⟩) r2).trans p2
    have P3 := (hb1.cell (p := ⟨w1.heap.size, 3, none⟩) r2).trans p3
    have s2 := hb1.size
    have s3 : w1.heap.size < wo.heap.size := by omega
    have s4 : b1 < wo.heap.size := by omega
    have HB1' := hid hb1
    by_cases hlt : k < bN f.code
    · have hlt2 : (k : Int) < bN f.code := by omega
      have hfk := atN_fr f.code k hlt
      obtain ⟨g1, g2⟩ := hft k hlt
      have d0 := (hb1.cell (p := ⟨b1, _, none⟩) s1).trans (q1 k hlt)
      have d1 := (hb1.cell (p := ⟨b1, _, none⟩) s1).trans (q2 k hlt)
      rw [(hfr k hlt).1] at d0
      rw [(hfr k hlt).2] at d1
      have HAN := hid (show atN f.code (k + 1) = to f.code k from rfl)
      rw [← hfk]
      have HFK := hid hfk
      have HSK := hid (fun i m => HF.out.skips k i m hlt)
      have p0' := hid p0
      have p1' := hid p1
      have p2' := hid p2
      have p3' := hid p3
      clear hfk hb1 p0 p1 p2 p3 q1 q2 hfr hft
      generalize fr f.code k = fn at *
      generalize to f.code k = tn at *
      generalize bN f.code = N at *
      have c1 : decide ((tn : Int) ≤ fn) = false := by simp; omega
      have c1' : decide (tn ≤ fn) = false := by simp; omega
      have c2 : decide ((f.code.length : Int) < tn) = false := by simp; omega
      have c2' : decide (f.code.length < tn) = false := by simp; omega
      go_wp2_with fail
      go_quiet (fail)
      go_wp2_with fail
      generalize hwd : World.drewN _ _ = wd
      have hbd : Below wo.heap.size wo wd := by rw [← hwd]; exact below_drewN (Below.refl _ _) _
      have HBD := hid (HB1'.out.trans (hbd.mono s2))
      clear hwd hbd d0 d1 P0 P1 P2 P3 s2 s3 s4 HB1' c1 c1' c2 c2'
      go_loopw [10] (fun pc' wr => ∃ pc : Nat, fn ≤ pc ∧ pc ≤ tn ∧ pc' = .int .i64 pc ∧ Below wn.heap.size wn wr) (fun pc' _ => tn - (intOf pc').toNat)
      case atStart => exact ⟨fn, Nat.le_refl _, by omega, rfl, HBD.out⟩
      case round =>
        obtain ⟨pc, hpc1, hpc2, rfl, hb3⟩ := hrel
        obtain ⟨wq, hwq⟩ : ∃ wq, wq = wr := ⟨_, rfl⟩
        subst hwq
        by_cases hpl : pc + 1 < tn
        · have hpl2 : (pc : Int) < (tn : Int) - 1 := by omega
          have hpl3 : decide ((pc : Int) < (tn : Int) - 1) = true := decide_eq_true hpl2
          have HB3 := hid hb3
          clear hb3
          go_wp2_with fail
          go_loopw [11] (fun m' wr => ∃ m : Nat, pc < m ∧ m ≤ tn ∧ m' = .int .i64 m ∧ (∀ j, pc < j → j < m → (nth f.code j).op = 51) ∧ Below wn.heap.size wn wr) (fun m' _ => tn - (intOf m').toNat)
          case atStart => exact ⟨pc + 1, by omega, by omega, by go_num, fun j h1 h2 => by omega, HB3.out⟩
          case round =>
            obtain ⟨m, hm1, hm2, rfl, hm3, hb4⟩ := hrel
            obtain ⟨wz, hwz⟩ : ∃ wz, wz = wr := ⟨_, rfl⟩
            subst hwz
            have s6 := hb4.size
            have s7 : w1.heap.size < wz.heap.size := by omega
            have s8 : cb < wz.heap.size := by omega
            have Q0 := (hb4.cell (p := ⟨w1.heap.size, 0, none⟩) r2).trans p0'.out
            have Q1 := (hb4.cell (p := ⟨w1.heap.size, 1, none⟩) r2).trans p1'.out
            have Q2 := (hb4.cell (p := ⟨w1.heap.size, 2, none⟩) r2).trans p2'.out
            have Q3 := (hb4.cell (p := ⟨w1.heap.size, 3, none⟩) r2).trans p3'.out
            have Y0 := (hb4.cell (p := ⟨cb, _, none⟩) s5).trans (z0 pc (by omega))
            have hpcl : pc < f.code.length := by omega
            have hpcl2 : (pc : Int) < f.code.length := by omega
            have HB4 := hid hb4
            have HM3 := hid hm3
            have HC4 := hid (HCN.out.below hb4)
            clear hb4 hm3
            have tm : (m : Int) ≤ tn := by omega
            by_cases hml : m < tn
            · have hml2 : (m : Int) < tn := by omega
              have hmc : m < f.code.length := by omega
              have hmc2 : (m : Int) < f.code.length := by omega
              have Y1 := (HB4.out.cell (p := ⟨cb, _, none⟩) s5).trans (z0 m hmc)
              by_cases hom : (nth f.code m).op = 51
              · have hom2 : ((nth f.code m).op == 51) = true := beq_iff_eq.2 hom
                have HOM := hid hom
                clear hom z0 Y0
                go_wp2_with fail
                go_roundw
                case rel =>
                  refine ⟨m + 1, by omega, by omega, by go_num, fun j h1 h2 => ?_, HB4.out⟩
                  rcases Nat.lt_or_ge j m with h3 | h3
                  · exact HM3.out j h1 h3
                  · rw [show j = m by omega]; exact HOM.out
                case measure => simp [intOf]; omega
              · have hom2 : ((nth f.code m).op == 51) = false := beq_eq_false_iff_ne.2 hom
                have HOM := hid hom
                clear hom z0
                by_cases hop : (nth f.code pc).op = 51
                · have hop2 : ((nth f.code pc).op != 51) = false := by simp [hop]
                  clear hop
                  go_wp2_with fail
                  go_roundw
                  case rel => exact ⟨pc + 1, by omega, by omega, by go_num, HB4.out⟩
                  case measure => simp [intOf]; omega
                · have hop2 : ((nth f.code pc).op != 51) = true := by simp [hop]
                  have HNX := hid (HSK.out pc m hpc1 hpl hop hm1 HOM.out HM3.out)
                  clear hop
                  go_wp2_with fail
                  refine (rnext_calls lo f.name f.params f.regs _ f.code pc _ HC4.out).mono ?_
                  rintro e w5 ⟨v5, rfl, hn5, hb5⟩
                  rw [HNX.out] at hn5
                  have HB5 := hid (HB4.out.trans (hb5.mono s6))
                  have HN5 := hid hn5
                  clear hb5 hn5
                  go_wp2_with fail
                  generalize hW6 : World.alloc _ _ = w6
                  have hb6 : Below w5.heap.size w5 w6 := by rw [← hW6]; exact (Below.refl _ _).alloc (Nat.le_refl _) _
                  have hi6 : IntsAt w5.heap.size w6 (.slice (some ⟨w5.heap.size, 0, none⟩) 1 1) [(m : Int)] := by
                    rw [← hW6]
                    exact (OwnE.lit intE w5 w5.heap.size 3 [(m : Int)] _ w5.heap.size 1 rfl (Nat.le_refl _) rfl rfl (by simp)).sl (Nat.le_refl _) (by simp)
                  have HB6 := hid (HB5.out.trans (hb6.mono HB5.out.size))
                  refine (ints_calls _ _ _ _ _ _ w6 (HN5.out.below hb6) hi6).mono ?_
                  rintro e w7 ⟨rfl, hb7⟩
                  rw [show intsEq [(m : Int)] [(m : Int)] = true from by simp [intsEq]]
                  have HB7 := hid (HB6.out.trans (hb7.mono HB6.out.size))
                  clear hb6 hb7 hi6 hW6
                  go_wp2_with fail
                  go_roundw
                  case rel => exact ⟨pc + 1, by omega, by omega, by go_num, HB7.out⟩
                  case measure => simp [intOf]; omega
            · obtain rfl : m = tn := by omega
              have hml2 : decide ((m : Int) < (m : Int)) = false := by simp
              have hml3 : ¬ ((m : Int) < (m : Int)) := by omega
              clear z0
              by_cases hop : (nth f.code pc).op = 51
              · have hop2 : ((nth f.code pc).op != 51) = false := by simp [hop]
                clear hop
                go_wp2_with fail
                go_roundw
                case rel => exact ⟨pc + 1, by omega, by omega, by go_num, HB4.out⟩
                case measure => simp [intOf]; omega
              · have hop2 : ((nth f.code pc).op != 51) = true := by simp [hop]
                clear hop
                go_wp2_with fail
                go_roundw
                case rel => exact ⟨pc + 1, by omega, by omega, by go_num, HB4.out⟩
                case measure => simp [intOf]; omega
        · have hpl2 : ¬ ((pc : Int) < (tn : Int) - 1) := by omega
          have hpl3 : decide ((pc : Int) < (tn : Int) - 1) = false := decide_eq_false hpl2
          go_wp2_with fail
          go_roundw
          case rel => exact ⟨k + 1, by omega, by go_num, by rw [HAN.out], hb3⟩
          case measure => simp [intOf]; omega
    · obtain rfl : k = bN f.code := by omega
      rw [atN_end f.code hbp]
      go_wp2_with fail
      go_ret
      exact ⟨rfl, HBN.out.trans (HB1'.out.mono HBN.out.size)⟩

end Go.Proofs.Ytiaajdckhedofaa
