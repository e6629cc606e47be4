/-
  The law CodeFollows, walked.
-/
import Derived.Test.YtnifdjacgbdglaaAwake9
import Derived.Test.YtnifdjacgbdglaaJok
import Derived.Test.YtnifdjacgbdglaaVia
namespace Go.Proofs.Ytnifdjacgbdglaa
set_option linter.unusedVariables false
set_option linter.unusedSimpArgs false
open Go.RowKit

theorem nextIns_nil (x : Ins) (pc : Int) : nextIns x pc = [] ↔ x.op = 30 ∨ x.op = 51 := by
  unfold nextIns pairL
  split
  · simp [*]
  · rename_i h
    constructor
    · intro h2
      exfalso
      revert h2
      split
      · simp
      · split
        · split
          · simp
          · split <;> simp
        · split <;> simp
    · intro h2; exact absurd h2 h

/-- What may follow is no case. -/
theorem Fok.free {p : Prg} {f : Fun} (h : Fok p f) (k : Nat) (hk : k < f.code.length) (x : Int) (hx : x ∈ nextL f.code k) : (nth f.code x.toNat).op ≠ 51 := by
  have hj := h.jok.nx k hk x hx
  rw [nextL_in _ _ hk] at hx
  have hlast := h.last
  unfold lastOp at hlast
  have hne : ¬ ((nth f.code k).op = 30 ∨ (nth f.code k).op = 16) → k + 1 < f.code.length := by
    intro hn
    have : k ≠ f.code.length - 1 := by
      intro e
      rw [← e] at hlast
      exact hn hlast
    omega
  unfold nextIns at hx
  split at hx
  · simp at hx
  · rename_i h1
    split at hx
    · rename_i h2
      simp at hx
      subst hx
      exact (instr_jump (h.ins k hk) (.inl h2)).2.2
    · rename_i h2
      split at hx
      · rename_i h3
        rcases (pairL_mem _ _ _).1 hx with e | e
        · subst e
          have := h.plain k (hne (by omega)) (by omega) (by omega)
          simpa using this
        · subst e
          exact (instr_jump (h.ins k hk) (.inr h3)).2.2
      · split at hx
        · rename_i h4
          simp at hx
          obtain ⟨b0, b1, b2⟩ := h.selEnd k hk h4
          have hle := h.le
          have e : wrapI ((k : Int) + 1 + (nth f.code k).b) = (k : Int) + 1 + (nth f.code k).b := by
            unfold wrapI wrap64; omega
          rw [e] at hx
          subst hx
          have := h.past k hk h4 (nth f.code k).b.toNat (by omega) (by omega)
          rw [show ((k : Int) + 1 + (nth f.code k).b).toNat = k + 1 + (nth f.code k).b.toNat by omega]
          exact this
        · rename_i h4
          simp at hx
          subst hx
          have := h.plain k (hne (by omega)) (by omega) (by omega)
          simpa using this

set_option maxRecDepth 100000 in
set_option maxHeartbeats 4000000 in
theorem lfollows_no (lo : Nat) (vf vg vl : Value) (p : Prg) (w : World) (hp : ProgAt lo w vf vg vl p) (hv : validB p = false) :
    Calls Try.prog 7 #[.agg #[vf, vg, vl, .int .i64 p.main]] w fun e w' => e = .returned (.bool true) ∧ Below w.heap.size w w' := by
  have HV := hid hv
  clear hv
  go_enter Try.func7, Try.ntmps7
  go_wp2_with fail
  generalize hW : World.alloc _ _ = W
  have hbW : Below w.heap.size w W := by rw [← hW]; exact (Below.refl _ _).alloc (Nat.le_refl _) _
  have R1 := hid (show BoxAt W w.heap.size 26 [vf, vg, vl, .int .i64 p.main] by rw [← hW]; exact BoxAt.new _ _ _ _ _ rfl rfl)
  have HBW := hid hbW
  have HP := hid hp
  clear hW hbW hp
  refine (awake9_calls W).mono ?_
  rintro e w1 ⟨rfl, hb1⟩
  have HB1 := hid hb1
  have hr := R1.out.below hb1
  have c0 := hr.cell 0 _ rfl
  have c1 := hr.cell 1 _ rfl
  have c2 := hr.cell 2 _ rfl
  have c3 := hr.cell 3 _ rfl
  have s1 := hr.lt
  clear hb1 hr
  go_wp2_with fail
  refine (valid_calls lo vf vg vl p w1 (HP.out.below (bvia HBW.out HB1.out))).mono ?_
  rintro e w2 ⟨rfl, hb2⟩
  rw [HV.out]
  have HB2 := hid (bvia HB1.out hb2)
  clear hb2 c0 c1 c2 c3 s1
  go_wp2_with fail
  refine (awake9_calls w2).mono ?_
  rintro e w3 ⟨rfl, hb3⟩
  have HB3 := hid (bvia HB2.out hb3)
  clear hb3
  go_wp2_with fail
  go_ret
  exact ⟨rfl, bvia HBW.out HB3.out⟩


set_option maxRecDepth 100000 in
set_option maxHeartbeats 8000000 in
theorem lfollows_yes (lo : Nat) (vf vg vl : Value) (p : Prg) (w : World) (hp : ProgAt lo w vf vg vl p) (hv : validB p = true) :
    Calls Try.prog 7 #[.agg #[vf, vg, vl, .int .i64 p.main]] w fun e w' => e = .returned (.bool true) ∧ Below w.heap.size w w' := by
  have HV := hid hv
  have HP := hid hp
  obtain ⟨fa, fc, fb, fo, S, rfl, p1, x0, x1, x2, x3, xi, k1, _, m1, n1⟩ := hp.funcs.open
  obtain ⟨ga, gc, gb, go, rfl, hz2⟩ := hp.globs.open
  obtain ⟨la, lc, lb, lo', LS, rfl, hz3⟩ := hp.lays.open
  have HF := hid (And.intro p1 (And.intro x0 (And.intro x1 (And.intro x2 (And.intro x3 (And.intro xi k1))))))
  clear hz2 hz3 p1 x0 x1 x2 x3 xi k1 hp hv
  go_enter Try.func7, Try.ntmps7
  go_wp2_with fail
  generalize hW : World.alloc _ _ = W
  have hbW : Below w.heap.size w W := by rw [← hW]; exact (Below.refl _ _).alloc (Nat.le_refl _) _
  have R1 := hid (show BoxAt W w.heap.size 26 [.slice fa p.funcs.length fc, .slice ga p.globals.length gc, .slice la p.layouts.length lc, .int .i64 p.main] by rw [← hW]; exact BoxAt.new _ _ _ _ _ rfl rfl)
  have HBW := hid hbW
  clear hW hbW
  refine (awake9_calls W).mono ?_
  rintro e w1 ⟨rfl, hb1⟩
  have HB1 := hid hb1
  have hr := R1.out.below hb1
  have c0 := hr.cell 0 _ rfl
  have c1 := hr.cell 1 _ rfl
  have c2 := hr.cell 2 _ rfl
  have c3 := hr.cell 3 _ rfl
  have s1 := hr.lt
  clear hb1 hr
  go_wp2_with fail
  refine (valid_calls lo _ _ _ p w1 (HP.out.below (bvia HBW.out HB1.out))).mono ?_
  rintro e w2 ⟨rfl, hb2⟩
  rw [HV.out]
  have HB2 := hid (bvia HB1.out hb2)
  clear hb2 c0 c1 c2 c3 s1
  go_wp2_with fail
  go_loopw [3] (fun i wr => ∃ k : Nat, k ≤ p.funcs.length ∧ i = .int .i64 k ∧ Below W.heap.size W wr) (fun i _ => p.funcs.length - (intOf i).toNat)
  case atStart => exact ⟨0, Nat.zero_le _, rfl, HB2.out⟩
  case round =>
    obtain ⟨k, hk, rfl, hbl⟩ := hrel
    obtain ⟨wo, hwo⟩ : ∃ wo, wo = wr := ⟨_, rfl⟩
    subst hwo
    have HB3 := hid hbl
    have hr := R1.out.below hbl
    have c0 := hr.cell 0 _ rfl
    have s1 := hr.lt
    clear hr
    by_cases hlt : k < p.funcs.length
    · have hlt2 : (k : Int) < p.funcs.length := by omega
      obtain ⟨p1, x0, x1, x2, x3, xi, k1⟩ := HF.out
      have e1 := p1 (by omega)
      subst e1
      have hbw := bvia HBW.out hbl
      have z1 := k1 (by omega)
      have d0 := (hbw.cell (p := ⟨fb, _, none⟩) z1).trans (x0 k hlt)
      have d1 := (hbw.cell (p := ⟨fb, _, none⟩) z1).trans (x1 k hlt)
      have d2 := (hbw.cell (p := ⟨fb, _, none⟩) z1).trans (x2 k hlt)
      have d3 := (hbw.cell (p := ⟨fb, _, none⟩) z1).trans (x3 k hlt)
      have z2 : fb < wo.heap.size := by have := hbw.size; omega
      have hfok := fok_of_funcB (valid_func HV.out k hlt)
      have hcode := (xi k hlt).below hbw
      generalize nth p.funcs k = f at *
      generalize (S k).a = ca at *
      generalize (S k).c = cc at *
      have HC0 := hid hcode
      have HJ := hid hfok
      clear p1 x0 x1 x2 x3 xi k1 hbw hbl hfok hcode
      go_wp2_with fail
      generalize hW4 : World.alloc _ _ = W4
      have hb4 : Below wo.heap.size wo W4 := by rw [← hW4]; exact (Below.refl _ _).alloc (Nat.le_refl _) _
      have R4 := hid (show BoxAt W4 wo.heap.size 37 [.string f.name, .int .i64 f.params, .int .i64 f.regs, .slice ca f.code.length cc] by rw [← hW4]; exact BoxAt.new _ _ _ _ _ rfl rfl)
      have HB4 := hid (bvia HB3.out hb4)
      have HC4 := hid (HC0.out.below hb4)
      clear hW4 hb4 d0 d1 d2 d3 z1 z2 c0 s1
      go_loopw [5] (fun i wr => ∃ j : Nat, j ≤ f.code.length ∧ i = .int .i64 j ∧ Below W4.heap.size W4 wr) (fun i _ => f.code.length - (intOf i).toNat)
      case atStart => exact ⟨0, Nat.zero_le _, rfl, Below.refl _ _⟩
      case round =>
        obtain ⟨j, hj, rfl, hbl⟩ := hrel
        obtain ⟨wi, hwi⟩ : ∃ wi, wi = wr := ⟨_, rfl⟩
        subst hwi
        have HB5 := hid hbl
        have hr := R4.out.below hbl
        have d0 := hr.cell 0 _ rfl
        have d1 := hr.cell 1 _ rfl
        have d2 := hr.cell 2 _ rfl
        have d3 := hr.cell 3 _ rfl
        have z1 := hr.lt
        clear hr
        by_cases hjl : j < f.code.length
        · have hjl2 : (j : Int) < f.code.length := by omega
          clear hbl
          go_wp2_with fail
          refine (next_calls lo _ _ _ _ f.code j wi (HC4.out.below HB5.out)).mono ?_
          rintro e w6 ⟨v6, rfl, hi6, hb6⟩
          have HB6 := hid (bvia HB5.out hb6)
          have HI6 := hid hi6
          clear hb6 hi6 d0 d1 d2 d3 z1
          obtain ⟨a6, n6, b6, o6, rfl, q1, q2, q3, _, q4, q5, q6⟩ := HI6.out.open
          have hr := R4.out.below HB6.out
          have d3 := hr.cell 3 _ rfl
          have z1 := hr.lt
          have hcl := (HC4.out.below HB6.out).open
          obtain ⟨ca', cc', cb, co, hce, cp, y0, _, _, _, _, cbl, _, _, _, cn⟩ := hcl
          obtain ⟨ea, _, ec⟩ := Value.slice.inj hce
          subst ea ec
          have e2 := cp (by omega)
          subst e2
          have y := y0 j hjl
          have z2 := cbl (by omega)
          have HFR := hid (fun x hx => HJ.out.free j hjl x hx)
          have HNX := hid (HJ.out.jok.nx j hjl)
          have hnl : nextL f.code j = [] ↔ (nth f.code j).op = 30 ∨ (nth f.code j).op = 51 := by rw [nextL_in _ _ hjl]; exact nextIns_nil _ _
          have HQ := hid (And.intro q1 (And.intro q2 q3))
          have HY := hid (And.intro y0 cbl)
          clear y0 cbl cp hr hce q1 q2 q3
          generalize nextL f.code j = nl at *
          generalize (nth f.code j).op = op at *
          have hways : (((nl.length : Int) == 0) = true ∧ (op == 30) = true ∧ True) ∨ (((nl.length : Int) == 0) = true ∧ (op == 30) = false ∧ (op == 51) = true) ∨ (((nl.length : Int) == 0) = false ∧ (op == 30) = false ∧ (op == 51) = false) := by
            by_cases h1 : op = 30
            · left; have := hnl.2 (.inl h1); simp [this, h1]
            · by_cases h2 : op = 51
              · right; left; have := hnl.2 (.inr h2); simp [this, h2]
              · right; right
                have : nl ≠ [] := fun h => by rcases hnl.1 h with h | h; exact h1 h; exact h2 h
                have h0 : 0 < nl.length := List.length_pos_iff.2 this
                refine ⟨by simp; omega, by simp [h1], by simp [h2]⟩
          clear hnl
          rcases hways with ⟨g0, g1, g2⟩ | ⟨g0, g1, g2⟩ | ⟨g0, g1, g2⟩
          all_goals
            go_wp2_with fail
            go_loopw [8] (fun i wr => ∃ m : Nat, m ≤ nl.length ∧ i = .int .i64 m ∧ Below w6.heap.size w6 wr) (fun i _ => nl.length - (intOf i).toNat)
            case atStart => exact ⟨0, Nat.zero_le _, rfl, Below.refl _ _⟩
            case round =>
              obtain ⟨m, hm, rfl, hbl⟩ := hrel
              have HB7 := hid hbl
              clear g0 g1 g2 y d3 z1 z2
              by_cases hml : m < nl.length
              · have hml2 : (m : Int) < nl.length := by omega
                obtain ⟨q1, q2, q3⟩ := HQ.out
                have e3 := q1 (by omega)
                subst e3
                have b1 := q3 (by omega)
                have d0 := (hbl.cell (p := ⟨b6, _, none⟩) b1).trans (q2 m hml)
                have d3 := (hbl.cell (p := ⟨wo.heap.size, 3, none⟩) (R4.out.below HB6.out).lt).trans ((R4.out.below HB6.out).cell 3 _ rfl)
                have hmem := nth_mem nl m hml
                have hx1 := HNX.out _ hmem
                have hx2 := HFR.out _ hmem
                obtain ⟨X, hX⟩ := Int.eq_ofNat_of_zero_le hx1.1
                rw [hX] at d0 hx1 hx2
                simp only [Int.toNat_natCast] at hx2
                have hXl : X < f.code.length := by omega
                have hXl2 : (X : Int) < f.code.length := by omega
                have b2 := HY.out.2 (by omega)
                have d4 := (hbl.cell (p := ⟨cb, _, none⟩) b2).trans (HY.out.1 X hXl)
                have b3 : wo.heap.size < wr.heap.size := by have := (R4.out.below HB6.out).lt; have := hbl.size; omega
                have b4 : b6 < wr.heap.size := by have := hbl.size; omega
                have b5 : cb < wr.heap.size := by have := hbl.size; omega
                have t1 : decide ((X : Int) < 0) = false := by simp
                have t2 : decide ((f.code.length : Int) ≤ X) = false := by simp; omega
                have t3 : ((nth f.code X).op == 51) = false := by simp [hx2]
                clear hx1 hx2 hX hmem q1 q2 q3 hbl b1 b2
                go_wp2_with fail
                go_quiet (fail)
                go_wp2_with fail
                go_roundw
                case rel => exact ⟨m + 1, by omega, by go_num, bdraw HB7.out _⟩
                case measure => simp [intOf] <;> omega
              · clear hbl
                go_wp2_with fail
                go_roundw
                case rel => exact ⟨j + 1, by omega, by go_num, bvia HB6.out HB7.out⟩
                case measure => simp [intOf] <;> omega
        · clear hbl
          go_wp2_with fail
          go_roundw
          case rel => exact ⟨k + 1, by omega, by go_num, bvia HB4.out HB5.out⟩
          case measure => simp [intOf] <;> omega
    · clear hbl
      go_wp2_with fail
      go_ret
      exact ⟨rfl, bvia HBW.out HB3.out⟩

theorem lfollows_calls (lo : Nat) (vf vg vl : Value) (p : Prg) (w : World) (hp : ProgAt lo w vf vg vl p) :
    Calls Try.prog 7 #[.agg #[vf, vg, vl, .int .i64 p.main]] w fun e w' => e = .returned (.bool true) ∧ Below w.heap.size w w' := by
  cases hv : validB p with
  | true => exact lfollows_yes lo vf vg vl p w hp hv
  | false => exact lfollows_no lo vf vg vl p w hp hv

end Go.Proofs.Ytnifdjacgbdglaa
