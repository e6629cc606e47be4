/-
  The registers that an instruction reads, but for the operations that read more, as package code lists them.
-/
import Derived.Test.YtihcngjkflaelaaGreatDoorZAt
namespace Go.Proofs.YtihcngjkflaelaaGreatDoor
set_option linter.unusedVariables false
set_option linter.unusedSimpArgs false
open Go.RowKit

/-- The k-th operand if it is a register that is read. -/
def selU (x : Ins) (k : Nat) : List Int := if roleC x.op k = 115 ∨ (roleC x.op k = 83 ∧ 0 ≤ opAt x k) then [opAt x k] else []
def rawU (x : Ins) : Nat → List Int
  | 0 => []
  | k + 1 => rawU x k ++ selU x k
theorem selU_len (x : Ins) (k : Nat) : (selU x k).length ≤ 1 := by unfold selU; split <;> simp
theorem rawU_len (x : Ins) : ∀ k, (rawU x k).length ≤ k
  | 0 => Nat.le_refl _
  | k + 1 => by
    have h1 := rawU_len x k
    have h2 := selU_len x k
    rw [rawU, List.length_append]; omega
def usesP (p : Prg) (fn pc : Int) : List Int := match insAt p fn pc with
  | none => []
  | some x => if 0 < x.op ∧ x.op < 53 ∧ x.op ≠ 51 then setL (rawU x 3) else []
theorem infoI2 : (Tryz.prog.info? 3).map (fun i => (i.zero, i.size, i.bytes)) = some (some (.int .i64 0), intE.sz, 8) := by kernel_rfl

set_option maxRecDepth 100000 in
set_option maxHeartbeats 8000000 in
theorem cuses_none (lo : Nat) (vf vg vl : Value) (p : Prg) (fn pc : Int) (w : World) (hp : ProgAt lo w vf vg vl p) (hi : insAt p fn pc = none) :
    Calls Tryz.prog 13 #[.agg #[vf, vg, vl, .int .i64 p.main], .int .i64 fn, .int .i64 pc] w fun e w' => ∃ v', e = .returned v' ∧ IntsAt w.heap.size w' v' (usesP p fn pc) ∧ Below w.heap.size w w' := by
  have hat := fun w' (hb : Below w.heap.size w w') => at_calls lo vf vg vl p fn pc w' (hp.below hb)
  obtain ⟨fa, fc, fb, fo, S, rfl, hz1⟩ := hp.funcs.open
  obtain ⟨ga, gc, gb, go, rfl, hz2⟩ := hp.globs.open
  obtain ⟨la, lc, lb, lo', LS, rfl, hz3⟩ := hp.lays.open
  clear hz1 hz2 hz3
  rw [show usesP p fn pc = [] by unfold usesP; rw [hi]]
  rw [hi] at hat
  have HAT := hid hat
  clear hat hi
  go_enter Tryz.func13, Tryz.ntmps13
  go_wp2_with fail
  have hb0 : Below w.heap.size w (w.alloc (.cells #[.slice fa p.funcs.length fc, .slice ga p.globals.length gc, .slice la p.layouts.length lc, .int .i64 p.main] 26)) := (Below.refl _ _).alloc (Nat.le_refl _) _
  refine (HAT.out _ hb0).mono ?_
  rintro e w1 ⟨rfl, hb1⟩
  have HB1 := hid (hb0.trans (hb1.mono hb0.size))
  clear hb0 hb1
  go_wp2_with fail
  generalize hW : World.alloc _ _ = W
  have hbW : Below w1.heap.size w1 W := by rw [← hW]; exact (Below.refl _ _).alloc (Nat.le_refl _) _
  have HBW := hid (HB1.out.trans (hbW.mono HB1.out.size))
  clear hW hbW
  refine (describe_calls _ W).mono ?_
  rintro e w2 ⟨rfl, hb2⟩
  have HB2 := hid (HBW.out.trans (hb2.mono HBW.out.size))
  clear hb2
  go_wp2_with fail
  go_ret
  exact ⟨_, rfl, SlE.nil _ _ _, HB2.out.alloc (HB2.out.size) _⟩

set_option maxRecDepth 100000 in
set_option maxHeartbeats 8000000 in
theorem cuses_bad (lo : Nat) (vf vg vl : Value) (p : Prg) (fn pc : Int) (x : Ins) (w : World) (hp : ProgAt lo w vf vg vl p) (hi : insAt p fn pc = some x) (hop : ¬ (0 < x.op ∧ x.op < 53 ∧ x.op ≠ 51)) :
    Calls Tryz.prog 13 #[.agg #[vf, vg, vl, .int .i64 p.main], .int .i64 fn, .int .i64 pc] w fun e w' => ∃ v', e = .returned v' ∧ IntsAt w.heap.size w' v' (usesP p fn pc) ∧ Below w.heap.size w w' := by
  have hat := fun w' (hb : Below w.heap.size w w') => at_calls lo vf vg vl p fn pc w' (hp.below hb)
  obtain ⟨fa, fc, fb, fo, S, rfl, hz1⟩ := hp.funcs.open
  obtain ⟨ga, gc, gb, go, rfl, hz2⟩ := hp.globs.open
  obtain ⟨la, lc, lb, lo', LS, rfl, hz3⟩ := hp.lays.open
  clear hz1 hz2 hz3
  rw [show usesP p fn pc = [] by unfold usesP; rw [hi]; simp only; rw [if_neg hop]]
  rw [hi] at hat
  simp only [Option.getD_some, Option.isSome_some] at hat
  have HAT := hid hat
  clear hat hi
  by_cases hk : 0 < x.op ∧ x.op < 53
  · have hokv : (decide (0 < x.op) && decide (x.op < 53)) = true := by simp [hk]
    have h51 : (x.op == 51) = true := by
      rcases Classical.em (x.op = 51) with h | h
      · exact beq_iff_eq.2 h
      · exact absurd ⟨hk.1, hk.2, h⟩ hop
    clear hk hop
    go_enter Tryz.func13, Tryz.ntmps13
    go_wp2_with fail
    have hb0 : Below w.heap.size w (w.alloc (.cells #[.slice fa p.funcs.length fc, .slice ga p.globals.length gc, .slice la p.layouts.length lc, .int .i64 p.main] 26)) := (Below.refl _ _).alloc (Nat.le_refl _) _
    refine (HAT.out _ hb0).mono ?_
    rintro e w1 ⟨rfl, hb1⟩
    have HB1 := hid (hb0.trans (hb1.mono hb0.size))
    clear hb0 hb1
    go_wp2_with fail
    generalize hW : World.alloc _ _ = W
    have hbW : Below w1.heap.size w1 W := by rw [← hW]; exact (Below.refl _ _).alloc (Nat.le_refl _) _
    have HR := hid (show RowAt W w1.heap.size [.int .i64 x.op, .int .i64 x.a, .int .i64 x.b, .int .i64 x.c, .int .i64 x.pos] by rw [← hW]; exact RowAt.new _ _ _ _ _ rfl rfl)
    have HBW := hid (HB1.out.trans (hbW.mono HB1.out.size))
    clear hW hbW
    refine (describe_calls _ W).mono ?_
    rintro e w2 ⟨rfl, hb2⟩
    have HB2 := hid (HBW.out.trans (hb2.mono HBW.out.size))
    have HR2 := hid (HR.out.below hb2)
    rw [hokv]
    have d0 := HR2.out.2 0 _ rfl
    have s0 := HR2.out.1
    clear hb2 hokv
    go_wp2_with fail
    go_ret
    exact ⟨_, rfl, SlE.nil _ _ _, HB2.out.alloc (HB2.out.size) _⟩
  · have hokv : (decide (0 < x.op) && decide (x.op < 53)) = false := by simp; omega
    clear hk hop
    go_enter Tryz.func13, Tryz.ntmps13
    go_wp2_with fail
    have hb0 : Below w.heap.size w (w.alloc (.cells #[.slice fa p.funcs.length fc, .slice ga p.globals.length gc, .slice la p.layouts.length lc, .int .i64 p.main] 26)) := (Below.refl _ _).alloc (Nat.le_refl _) _
    refine (HAT.out _ hb0).mono ?_
    rintro e w1 ⟨rfl, hb1⟩
    have HB1 := hid (hb0.trans (hb1.mono hb0.size))
    clear hb0 hb1
    go_wp2_with fail
    generalize hW : World.alloc _ _ = W
    have hbW : Below w1.heap.size w1 W := by rw [← hW]; exact (Below.refl _ _).alloc (Nat.le_refl _) _
    have HR := hid (show RowAt W w1.heap.size [.int .i64 x.op, .int .i64 x.a, .int .i64 x.b, .int .i64 x.c, .int .i64 x.pos] by rw [← hW]; exact RowAt.new _ _ _ _ _ rfl rfl)
    have HBW := hid (HB1.out.trans (hbW.mono HB1.out.size))
    clear hW hbW
    refine (describe_calls _ W).mono ?_
    rintro e w2 ⟨rfl, hb2⟩
    have HB2 := hid (HBW.out.trans (hb2.mono HBW.out.size))
    have HR2 := hid (HR.out.below hb2)
    rw [hokv]
    clear hb2 hokv
    go_wp2_with fail
    go_ret
    exact ⟨_, rfl, SlE.nil _ _ _, HB2.out.alloc (HB2.out.size) _⟩

set_option maxRecDepth 100000 in
set_option maxHeartbeats 8000000 in
theorem cuses_some (lo : Nat) (vf vg vl : Value) (p : Prg) (fn pc : Int) (x : Ins) (w : World) (hp : ProgAt lo w vf vg vl p) (hi : insAt p fn pc = some x) (hop : 0 < x.op ∧ x.op < 53) (h51 : (x.op == 51) = false) (hs : (x.op == 38) = false ∧ (x.op == 25) = false ∧ (x.op == 24) = false ∧ (x.op == 26) = false ∧ (x.op == 28) = false ∧ (x.op == 31) = false ∧ (x.op == 50) = false) :
    Calls Tryz.prog 13 #[.agg #[vf, vg, vl, .int .i64 p.main], .int .i64 fn, .int .i64 pc] w fun e w' => ∃ v', e = .returned v' ∧ IntsAt w.heap.size w' v' (usesP p fn pc) ∧ Below w.heap.size w w' := by
  have hat := fun w' (hb : Below w.heap.size w w') => at_calls lo vf vg vl p fn pc w' (hp.below hb)
  obtain ⟨fa, fc, fb, fo, S, rfl, hz1⟩ := hp.funcs.open
  obtain ⟨ga, gc, gb, go, rfl, hz2⟩ := hp.globs.open
  obtain ⟨la, lc, lb, lo', LS, rfl, hz3⟩ := hp.lays.open
  clear hz1 hz2 hz3
  have hres : usesP p fn pc = setL (rawU x 3) := by
    unfold usesP; rw [hi]; simp only; rw [if_pos ⟨hop.1, hop.2, beq_eq_false_iff_ne.1 h51⟩]
  rw [hres]
  obtain ⟨r0, r1, r2, hroles, l0, l1, l2⟩ := rolesC_shape x.op hop
  have q0 : roleC x.op 0 = (r0.toNat : Int) := by unfold roleC; rw [hroles]; rfl
  have q1 : roleC x.op 1 = (r1.toNat : Int) := by unfold roleC; rw [hroles]; rfl
  have q2 : roleC x.op 2 = (r2.toNat : Int) := by unfold roleC; rw [hroles]; rfl
  have hokv : (decide (0 < x.op) && decide (x.op < 53)) = true := by simp [hop]
  rw [hi] at hat
  simp only [Option.getD_some, Option.isSome_some] at hat
  have HAT := hid hat
  clear hat hi
  have HQ := hid (And.intro q0 (And.intro q1 q2))
  clear q0 q1 q2 l0 l1 l2 hres hop
  go_enter Tryz.func13, Tryz.ntmps13
  go_wp2_with fail
  have hb0 : Below w.heap.size w (w.alloc (.cells #[.slice fa p.funcs.length fc, .slice ga p.globals.length gc, .slice la p.layouts.length lc, .int .i64 p.main] 26)) := (Below.refl _ _).alloc (Nat.le_refl _) _
  refine (HAT.out _ hb0).mono ?_
  rintro e w1 ⟨rfl, hb1⟩
  have HB1 := hid (hb0.trans (hb1.mono hb0.size))
  clear hb0 hb1
  go_wp2_with fail
  generalize hW : World.alloc _ _ = W
  have hbW : Below w1.heap.size w1 W := by rw [← hW]; exact (Below.refl _ _).alloc (Nat.le_refl _) _
  have HR := hid (show RowAt W w1.heap.size [.int .i64 x.op, .int .i64 x.a, .int .i64 x.b, .int .i64 x.c, .int .i64 x.pos] by rw [← hW]; exact RowAt.new _ _ _ _ _ rfl rfl)
  have HBW := hid (HB1.out.trans (hbW.mono HB1.out.size))
  clear hW hbW
  refine (describe_calls _ W).mono ?_
  rintro e w2 ⟨rfl, hb2⟩
  have HB2 := hid (HBW.out.trans (hb2.mono HBW.out.size))
  have HR2 := hid (HR.out.below hb2)
  rw [hokv, hroles]
  have d0 := HR2.out.2 0 _ rfl
  have d1 := HR2.out.2 1 _ rfl
  have d2 := HR2.out.2 2 _ rfl
  have d3 := HR2.out.2 3 _ rfl
  have s0 := HR2.out.1
  clear hb2 hokv
  have j0 : ∀ w, (Instr.index 64 (.agg #[.int .i64 x.a, .int .i64 x.b, .int .i64 x.c]) (.int .i64 0)).run Tryz.prog w = .ok (.int .i64 x.a) w := fun _ => by kernel_rfl
  have j1 : ∀ w, (Instr.index 64 (.agg #[.int .i64 x.a, .int .i64 x.b, .int .i64 x.c]) (.int .i64 1)).run Tryz.prog w = .ok (.int .i64 x.b) w := fun _ => by kernel_rfl
  have j2 : ∀ w, (Instr.index 64 (.agg #[.int .i64 x.a, .int .i64 x.b, .int .i64 x.c]) (.int .i64 2)).run Tryz.prog w = .ok (.int .i64 x.c) w := fun _ => by kernel_rfl
  go_wp2_with fail
  generalize hW2 : World.alloc _ _ = W2
  have hbW2 : Below w2.heap.size w2 W2 := by rw [← hW2]; exact (Below.refl _ _).alloc (Nat.le_refl _) _
  have HRI := hid (show RowAt W2 w2.heap.size [.string (wordC x.op), .string ⟨#[r0, r1, r2]⟩] by rw [← hW2]; exact RowAt.new _ _ _ _ _ rfl rfl)
  have HBW2 := hid (HB2.out.trans (hbW2.mono HB2.out.size))
  have HRX := hid (HR2.out.below hbW2)
  clear hW2 hbW2 d0 d1 d2 d3 s0
  go_loopw [11, 50] (fun v i wr => ∃ k : Nat, k ≤ 3 ∧ i = .int .i64 k ∧ OwnE intE W2.heap.size 3 wr v (rawU x k) ∧ Below W2.heap.size W2 wr) (fun _ i _ => 3 - (intOf i).toNat)
  case atStart => exact ⟨0, by omega, rfl, OwnE.nil _ _ _ _, Below.refl _ _⟩
  case round =>
    obtain ⟨k, hk, rfl, hown, hb3⟩ := hrel
    obtain ⟨wo, hwo⟩ : ∃ wo, wo = wr := ⟨_, rfl⟩
    subst hwo
    have HOWN := hid hown
    have HB3 := hid hb3
    have R3 := HRI.out.below hb3
    have c1 := R3.2 1 _ rfl
    have s1 := R3.1
    have z3 := hb3.size
    clear hown hb3 R3
    rcases (show k = 0 ∨ k = 1 ∨ k = 2 ∨ k = 3 by omega) with rfl | rfl | rfl | rfl

    · have hsel : selU x 0 = if (r0.toNat : Int) = 115 ∨ ((r0.toNat : Int) = 83 ∧ 0 ≤ x.a) then [x.a] else [] := by unfold selU; rw [HQ.out.1]; rfl
      by_cases h1 : (r0.toNat : Int) = 115
      · have g1 : ((((⟨#[r0, r1, r2]⟩ : ByteArray)[0]'(by show 0 < 3; decide)).toNat : Int) == 115) = true := beq_iff_eq.2 h1
        have g1' : ((r0.toNat : Int) == 115) = true := beq_iff_eq.2 h1
        have HS := hid (show selU x 0 = [x.a] by rw [hsel, if_pos (.inl h1)])
        clear h1 hsel
        go_wp2_with (
          at_builtin
          go_loud (refine wpList_append_one intE (o := ⟨some 73, _, _, _, _, _⟩) rfl (.tmp 70) (.tmp 72) 39 rfl W2.heap.size wo.heap.size 3 _ 8 Tryz.underlying39 infoI2 rfl (rawU x 0) x.a (HOWN.out.alloc _) ((OwnE.lit intE wo wo.heap.size 3 [x.a] _ wo.heap.size 1 rfl (Nat.le_refl _) rfl rfl (by simp)).sl (Nat.le_refl _) (by simp)) (by have := rawU_len x 0; omega) (by have := rawU_len x 0; simp only [maxLen]; omega) (by simp; omega) ?_)
          intro g2 cap2 w3 ho2 hg2 hl2 hb4
          have HO2 := hid ho2
          have HB4 := hid hb4
          clear ho2 hb4)
        go_roundw
        case rel => exact ⟨1, by omega, by go_num, by rw [show rawU x 1 = rawU x 0 ++ [x.a] by rw [← HS.out]; rfl]; exact HO2.out, HB3.out.trans (((Below.refl _ _).alloc (by omega) _).trans HB4.out)⟩
        case measure => simp [intOf]
      · have g1 : ((((⟨#[r0, r1, r2]⟩ : ByteArray)[0]'(by show 0 < 3; decide)).toNat : Int) == 115) = false := beq_eq_false_iff_ne.2 h1
        have g1' : ((r0.toNat : Int) == 115) = false := beq_eq_false_iff_ne.2 h1
        by_cases h2 : (r0.toNat : Int) = 83
        · have g2 : ((((⟨#[r0, r1, r2]⟩ : ByteArray)[0]'(by show 0 < 3; decide)).toNat : Int) == 83) = true := beq_iff_eq.2 h2
          have g2' : ((r0.toNat : Int) == 83) = true := beq_iff_eq.2 h2
          by_cases h3 : 0 ≤ x.a
          · have g3 : decide (0 ≤ x.a) = true := decide_eq_true h3
            have HS := hid (show selU x 0 = [x.a] by rw [hsel, if_pos (.inr ⟨h2, h3⟩)])
            clear h1 h2 h3 hsel
            go_wp2_with (
              at_builtin
              go_loud (refine wpList_append_one intE (o := ⟨some 73, _, _, _, _, _⟩) rfl (.tmp 70) (.tmp 72) 39 rfl W2.heap.size wo.heap.size 3 _ 8 Tryz.underlying39 infoI2 rfl (rawU x 0) x.a (HOWN.out.alloc _) ((OwnE.lit intE wo wo.heap.size 3 [x.a] _ wo.heap.size 1 rfl (Nat.le_refl _) rfl rfl (by simp)).sl (Nat.le_refl _) (by simp)) (by have := rawU_len x 0; omega) (by have := rawU_len x 0; simp only [maxLen]; omega) (by simp; omega) ?_)
              intro g2 cap2 w3 ho2 hg2 hl2 hb4
              have HO2 := hid ho2
              have HB4 := hid hb4
              clear ho2 hb4)
            go_roundw
            case rel => exact ⟨1, by omega, by go_num, by rw [show rawU x 1 = rawU x 0 ++ [x.a] by rw [← HS.out]; rfl]; exact HO2.out, HB3.out.trans (((Below.refl _ _).alloc (by omega) _).trans HB4.out)⟩
            case measure => simp [intOf]
          · have g3 : decide (0 ≤ x.a) = false := decide_eq_false h3
            have HS := hid (show selU x 0 = [] by rw [hsel, if_neg (by rintro (h | h); exact h1 h; exact h3 h.2)])
            clear h1 h2 h3 hsel
            go_wp2_with fail
            go_roundw
            case rel => exact ⟨1, by omega, by go_num, by rw [show rawU x 1 = rawU x 0 ++ selU x 0 from rfl, HS.out, List.append_nil]; exact HOWN.out, HB3.out⟩
            case measure => simp [intOf]
        · have g2 : ((((⟨#[r0, r1, r2]⟩ : ByteArray)[0]'(by show 0 < 3; decide)).toNat : Int) == 83) = false := beq_eq_false_iff_ne.2 h2
          have g2' : ((r0.toNat : Int) == 83) = false := beq_eq_false_iff_ne.2 h2
          have HS := hid (show selU x 0 = [] by rw [hsel, if_neg (by rintro (h | h); exact h1 h; exact h2 h.1)])
          clear h1 h2 hsel
          go_wp2_with fail
          go_roundw
          case rel => exact ⟨1, by omega, by go_num, by rw [show rawU x 1 = rawU x 0 ++ selU x 0 from rfl, HS.out, List.append_nil]; exact HOWN.out, HB3.out⟩
          case measure => simp [intOf]
    · have hsel : selU x 1 = if (r1.toNat : Int) = 115 ∨ ((r1.toNat : Int) = 83 ∧ 0 ≤ x.b) then [x.b] else [] := by unfold selU; rw [HQ.out.2.1]; rfl
      by_cases h1 : (r1.toNat : Int) = 115
      · have g1 : ((((⟨#[r0, r1, r2]⟩ : ByteArray)[1]'(by show 1 < 3; decide)).toNat : Int) == 115) = true := beq_iff_eq.2 h1
        have g1' : ((r1.toNat : Int) == 115) = true := beq_iff_eq.2 h1
        have HS := hid (show selU x 1 = [x.b] by rw [hsel, if_pos (.inl h1)])
        clear h1 hsel
        go_wp2_with (
          at_builtin
          go_loud (refine wpList_append_one intE (o := ⟨some 73, _, _, _, _, _⟩) rfl (.tmp 70) (.tmp 72) 39 rfl W2.heap.size wo.heap.size 3 _ 8 Tryz.underlying39 infoI2 rfl (rawU x 1) x.b (HOWN.out.alloc _) ((OwnE.lit intE wo wo.heap.size 3 [x.b] _ wo.heap.size 1 rfl (Nat.le_refl _) rfl rfl (by simp)).sl (Nat.le_refl _) (by simp)) (by have := rawU_len x 1; omega) (by have := rawU_len x 1; simp only [maxLen]; omega) (by simp; omega) ?_)
          intro g2 cap2 w3 ho2 hg2 hl2 hb4
          have HO2 := hid ho2
          have HB4 := hid hb4
          clear ho2 hb4)
        go_roundw
        case rel => exact ⟨2, by omega, by go_num, by rw [show rawU x 2 = rawU x 1 ++ [x.b] by rw [← HS.out]; rfl]; exact HO2.out, HB3.out.trans (((Below.refl _ _).alloc (by omega) _).trans HB4.out)⟩
        case measure => simp [intOf]
      · have g1 : ((((⟨#[r0, r1, r2]⟩ : ByteArray)[1]'(by show 1 < 3; decide)).toNat : Int) == 115) = false := beq_eq_false_iff_ne.2 h1
        have g1' : ((r1.toNat : Int) == 115) = false := beq_eq_false_iff_ne.2 h1
        by_cases h2 : (r1.toNat : Int) = 83
        · have g2 : ((((⟨#[r0, r1, r2]⟩ : ByteArray)[1]'(by show 1 < 3; decide)).toNat : Int) == 83) = true := beq_iff_eq.2 h2
          have g2' : ((r1.toNat : Int) == 83) = true := beq_iff_eq.2 h2
          by_cases h3 : 0 ≤ x.b
          · have g3 : decide (0 ≤ x.b) = true := decide_eq_true h3
            have HS := hid (show selU x 1 = [x.b] by rw [hsel, if_pos (.inr ⟨h2, h3⟩)])
            clear h1 h2 h3 hsel
            go_wp2_with (
              at_builtin
              go_loud (refine wpList_append_one intE (o := ⟨some 73, _, _, _, _, _⟩) rfl (.tmp 70) (.tmp 72) 39 rfl W2.heap.size wo.heap.size 3 _ 8 Tryz.underlying39 infoI2 rfl (rawU x 1) x.b (HOWN.out.alloc _) ((OwnE.lit intE wo wo.heap.size 3 [x.b] _ wo.heap.size 1 rfl (Nat.le_refl _) rfl rfl (by simp)).sl (Nat.le_refl _) (by simp)) (by have := rawU_len x 1; omega) (by have := rawU_len x 1; simp only [maxLen]; omega) (by simp; omega) ?_)
              intro g2 cap2 w3 ho2 hg2 hl2 hb4
              have HO2 := hid ho2
              have HB4 := hid hb4
              clear ho2 hb4)
            go_roundw
            case rel => exact ⟨2, by omega, by go_num, by rw [show rawU x 2 = rawU x 1 ++ [x.b] by rw [← HS.out]; rfl]; exact HO2.out, HB3.out.trans (((Below.refl _ _).alloc (by omega) _).trans HB4.out)⟩
            case measure => simp [intOf]
          · have g3 : decide (0 ≤ x.b) = false := decide_eq_false h3
            have HS := hid (show selU x 1 = [] by rw [hsel, if_neg (by rintro (h | h); exact h1 h; exact h3 h.2)])
            clear h1 h2 h3 hsel
            go_wp2_with fail
            go_roundw
            case rel => exact ⟨2, by omega, by go_num, by rw [show rawU x 2 = rawU x 1 ++ selU x 1 from rfl, HS.out, List.append_nil]; exact HOWN.out, HB3.out⟩
            case measure => simp [intOf]
        · have g2 : ((((⟨#[r0, r1, r2]⟩ : ByteArray)[1]'(by show 1 < 3; decide)).toNat : Int) == 83) = false := beq_eq_false_iff_ne.2 h2
          have g2' : ((r1.toNat : Int) == 83) = false := beq_eq_false_iff_ne.2 h2
          have HS := hid (show selU x 1 = [] by rw [hsel, if_neg (by rintro (h | h); exact h1 h; exact h2 h.1)])
          clear h1 h2 hsel
          go_wp2_with fail
          go_roundw
          case rel => exact ⟨2, by omega, by go_num, by rw [show rawU x 2 = rawU x 1 ++ selU x 1 from rfl, HS.out, List.append_nil]; exact HOWN.out, HB3.out⟩
          case measure => simp [intOf]
    · have hsel : selU x 2 = if (r2.toNat : Int) = 115 ∨ ((r2.toNat : Int) = 83 ∧ 0 ≤ x.c) then [x.c] else [] := by unfold selU; rw [HQ.out.2.2]; rfl
      by_cases h1 : (r2.toNat : Int) = 115
      · have g1 : ((((⟨#[r0, r1, r2]⟩ : ByteArray)[2]'(by show 2 < 3; decide)).toNat : Int) == 115) = true := beq_iff_eq.2 h1
        have g1' : ((r2.toNat : Int) == 115) = true := beq_iff_eq.2 h1
        have HS := hid (show selU x 2 = [x.c] by rw [hsel, if_pos (.inl h1)])
        clear h1 hsel
        go_wp2_with (
          at_builtin
          go_loud (refine wpList_append_one intE (o := ⟨some 73, _, _, _, _, _⟩) rfl (.tmp 70) (.tmp 72) 39 rfl W2.heap.size wo.heap.size 3 _ 8 Tryz.underlying39 infoI2 rfl (rawU x 2) x.c (HOWN.out.alloc _) ((OwnE.lit intE wo wo.heap.size 3 [x.c] _ wo.heap.size 1 rfl (Nat.le_refl _) rfl rfl (by simp)).sl (Nat.le_refl _) (by simp)) (by have := rawU_len x 2; omega) (by have := rawU_len x 2; simp only [maxLen]; omega) (by simp; omega) ?_)
          intro g2 cap2 w3 ho2 hg2 hl2 hb4
          have HO2 := hid ho2
          have HB4 := hid hb4
          clear ho2 hb4)
        go_roundw
        case rel => exact ⟨3, by omega, by go_num, by rw [show rawU x 3 = rawU x 2 ++ [x.c] by rw [← HS.out]; rfl]; exact HO2.out, HB3.out.trans (((Below.refl _ _).alloc (by omega) _).trans HB4.out)⟩
        case measure => simp [intOf]
      · have g1 : ((((⟨#[r0, r1, r2]⟩ : ByteArray)[2]'(by show 2 < 3; decide)).toNat : Int) == 115) = false := beq_eq_false_iff_ne.2 h1
        have g1' : ((r2.toNat : Int) == 115) = false := beq_eq_false_iff_ne.2 h1
        by_cases h2 : (r2.toNat : Int) = 83
        · have g2 : ((((⟨#[r0, r1, r2]⟩ : ByteArray)[2]'(by show 2 < 3; decide)).toNat : Int) == 83) = true := beq_iff_eq.2 h2
          have g2' : ((r2.toNat : Int) == 83) = true := beq_iff_eq.2 h2
          by_cases h3 : 0 ≤ x.c
          · have g3 : decide (0 ≤ x.c) = true := decide_eq_true h3
            have HS := hid (show selU x 2 = [x.c] by rw [hsel, if_pos (.inr ⟨h2, h3⟩)])
            clear h1 h2 h3 hsel
            go_wp2_with (
              at_builtin
              go_loud (refine wpList_append_one intE (o := ⟨some 73, _, _, _, _, _⟩) rfl (.tmp 70) (.tmp 72) 39 rfl W2.heap.size wo.heap.size 3 _ 8 Tryz.underlying39 infoI2 rfl (rawU x 2) x.c (HOWN.out.alloc _) ((OwnE.lit intE wo wo.heap.size 3 [x.c] _ wo.heap.size 1 rfl (Nat.le_refl _) rfl rfl (by simp)).sl (Nat.le_refl _) (by simp)) (by have := rawU_len x 2; omega) (by have := rawU_len x 2; simp only [maxLen]; omega) (by simp; omega) ?_)
              intro g2 cap2 w3 ho2 hg2 hl2 hb4
              have HO2 := hid ho2
              have HB4 := hid hb4
              clear ho2 hb4)
            go_roundw
            case rel => exact ⟨3, by omega, by go_num, by rw [show rawU x 3 = rawU x 2 ++ [x.c] by rw [← HS.out]; rfl]; exact HO2.out, HB3.out.trans (((Below.refl _ _).alloc (by omega) _).trans HB4.out)⟩
            case measure => simp [intOf]
          · have g3 : decide (0 ≤ x.c) = false := decide_eq_false h3
            have HS := hid (show selU x 2 = [] by rw [hsel, if_neg (by rintro (h | h); exact h1 h; exact h3 h.2)])
            clear h1 h2 h3 hsel
            go_wp2_with fail
            go_roundw
            case rel => exact ⟨3, by omega, by go_num, by rw [show rawU x 3 = rawU x 2 ++ selU x 2 from rfl, HS.out, List.append_nil]; exact HOWN.out, HB3.out⟩
            case measure => simp [intOf]
        · have g2 : ((((⟨#[r0, r1, r2]⟩ : ByteArray)[2]'(by show 2 < 3; decide)).toNat : Int) == 83) = false := beq_eq_false_iff_ne.2 h2
          have g2' : ((r2.toNat : Int) == 83) = false := beq_eq_false_iff_ne.2 h2
          have HS := hid (show selU x 2 = [] by rw [hsel, if_neg (by rintro (h | h); exact h1 h; exact h2 h.1)])
          clear h1 h2 hsel
          go_wp2_with fail
          go_roundw
          case rel => exact ⟨3, by omega, by go_num, by rw [show rawU x 3 = rawU x 2 ++ selU x 2 from rfl, HS.out, List.append_nil]; exact HOWN.out, HB3.out⟩
          case measure => simp [intOf]
    · have er := HRX.out.below HB3.out
      have d0 := er.2 0 _ rfl
      have d7 := er.1
      obtain ⟨t1, t2, t3, t4, t5, t6, t7⟩ := hs
      clear er
      have hso := sorted9_calls HOWN.out (by have := rawU_len x 3; omega)
      have HSO := hid hso
      clear hso
      go_wp2_with fail
      refine HSO.out.mono ?_
      rintro e w4 ⟨v4, rfl, ho, hg⟩
      have hsl : (setL (rawU x 3)).length ≤ 140737488355328 := by
        have h1 := Lib.compact_length_le (sortI (rawU x 3))
        have h2 := rawU_len x 3
        rw [sortI_length] at h1
        unfold setL; omega
      have HI := hid (ho.sl (HBW2.out.size) hsl)
      have HB4 := hid (HBW2.out.trans ((Below.grownE HB3.out HOWN.out hg z3 (Nat.le_refl _)).mono HBW2.out.size))
      clear ho hg
      go_wp2_with fail
      go_ret
      exact ⟨_, rfl, HI.out, HB4.out⟩


end Go.Proofs.YtihcngjkflaelaaGreatDoor
