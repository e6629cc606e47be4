/-
  The registers that an instruction of a valid program reads, as package code lists them.
-/
import Derived.Test.YteiohnfmlabelaaGreatZOwnP
import Derived.Test.YteiohnfmlabelaaGreatZPrClone
import Derived.Test.YteiohnfmlabelaaGreatZCUses
import Derived.Test.YteiohnfmlabelaaGreatZJok
import Derived.Test.YteiohnfmlabelaaGreatZRNext
namespace Go.Proofs.YteiohnfmlabelaaGreat
set_option linter.unusedVariables false
set_option linter.unusedSimpArgs false
open Go.RowKit

/-- m numbers from a on. -/
def rng (a : Int) (m : Nat) : List Int := (List.range m).map fun i : Nat => a + i
theorem rng_succ (a : Int) (m : Nat) : rng a (m + 1) = rng a m ++ [a + m] := by simp [rng, List.range_succ]
theorem rng_len (a : Int) (m : Nat) : (rng a m).length = m := by simp [rng]
/-- The registers of a case. -/
def caseL (y : Ins) : List Int := if y.b = 1 then [y.a, y.c] else [y.a]
def casesL (c : List Ins) (pc : Nat) : Nat → List Int
  | 0 => []
  | m + 1 => casesL c pc m ++ caseL (nth c (pc + 1 + m))
theorem casesL_len (c : List Ins) (pc m : Nat) : (casesL c pc m).length ≤ 2 * m := by
  induction m with
  | zero => simp [casesL]
  | succ m ih =>
    rw [casesL, List.length_append]
    have : (caseL (nth c (pc + 1 + m))).length ≤ 2 := by unfold caseL; split <;> simp
    omega
def extraU (p : Prg) (fn pc : Int) (x : Ins) : List Int :=
  if x.op = 38 then [x.c + 1] else if x.op = 25 then [0] else if x.op = 24 then rng (x.a + 1) x.c.toNat
  else if x.op = 26 ∨ x.op = 28 ∨ x.op = 31 then rng x.c (nth p.funcs x.b.toNat).params.toNat
  else if x.op = 50 then casesL (nth p.funcs fn.toNat).code pc.toNat x.b.toNat else []
def usesC (p : Prg) (fn pc : Int) : List Int := match insAt p fn pc with
  | none => []
  | some x => if 0 < x.op ∧ x.op < 53 ∧ x.op ≠ 51 then setL (rawU x 3 ++ extraU p fn pc x) else []
theorem setL_le (l : List Int) (h : l.length ≤ 140737488355328) : (setL l).length ≤ 140737488355328 := by
  have h1 := Lib.compact_length_le (sortI l)
  rw [sortI_length] at h1
  unfold setL; omega

/-- What is known of an instruction that reads more registers. -/
def MoreU (p : Prg) (fn pc : Int) (x : Ins) : Prop :=
  (x.op = 38 ∧ 0 ≤ x.c ∧ x.c ≤ 64) ∨ x.op = 25 ∨ (x.op = 24 ∧ 0 ≤ x.a ∧ 0 ≤ x.c ∧ x.a + x.c ≤ 64) ∨
  ((x.op = 26 ∨ x.op = 28 ∨ x.op = 31) ∧ 0 ≤ x.b ∧ x.b < p.funcs.length ∧ 0 ≤ x.c ∧ x.c ≤ 64 ∧ 0 ≤ (nth p.funcs x.b.toNat).params ∧ (nth p.funcs x.b.toNat).params ≤ 64) ∨
  (x.op = 50 ∧ 0 ≤ fn ∧ fn < p.funcs.length ∧ 0 ≤ pc ∧ pc < (nth p.funcs fn.toNat).code.length ∧ (nth p.funcs fn.toNat).code.length ≤ 1000 ∧ 0 ≤ x.b ∧ x.b ≤ 8 ∧ pc + x.b < (nth p.funcs fn.toNat).code.length)

set_option maxRecDepth 100000 in
set_option maxHeartbeats 8000000 in
theorem cuses_more (lo : Nat) (vf vg vl : Value) (p : Prg) (fn pc : Int) (x : Ins) (w : World) (hp : ProgAt lo w vf vg vl p) (hi : insAt p fn pc = some x) (hop : 0 < x.op ∧ x.op < 53) (h51 : (x.op == 51) = false) (hs : MoreU p fn pc x) :
    Calls Tryz.prog 80 #[.agg #[vf, vg, vl, .int .i64 p.main], .int .i64 fn, .int .i64 pc] w fun e w' => ∃ v', e = .returned v' ∧ IntsAt w.heap.size w' v' (setL (rawU x 3 ++ extraU p fn pc x)) ∧ Below w.heap.size w w' := by
  have hat := fun w' (hb : Below w.heap.size w w') => at_calls lo vf vg vl p fn pc w' (hp.below hb)
  obtain ⟨fa, fc, fb, fo, S, rfl, hz1⟩ := hp.funcs.open
  obtain ⟨ga, gc, gb, go, rfl, hz2⟩ := hp.globs.open
  obtain ⟨la, lc, lb, lo', LS, rfl, hz3⟩ := hp.lays.open
  have HPZ := hid hz1
  clear hz1 hz2 hz3
  have HP := hid hp
  have HMORE := hid hs
  clear hs
  obtain ⟨r0, r1, r2, hroles, l0, l1, l2⟩ := rolesC_shape x.op hop
  have q0 : roleC x.op 0 = (r0.toNat : Int) := by unfold roleC; rw [hroles]; rfl
  have q1 : roleC x.op 1 = (r1.toNat : Int) := by unfold roleC; rw [hroles]; rfl
  have q2 : roleC x.op 2 = (r2.toNat : Int) := by unfold roleC; rw [hroles]; rfl
  have hokv : (decide (0 < x.op) && decide (x.op < 53)) = true := by simp [hop]
  rw [hi] at hat
  simp only [Option.getD_some, Option.isSome_some] at hat
  have HAT := hid hat
  clear hat hi
  have HQ := hid (And.intro q0 (And.intro q1 q2))
  clear q0 q1 q2 l0 l1 l2 hop
  go_enter Tryz.func80, Tryz.ntmps80
  go_wp2_with fail
  have hb0 : Below w.heap.size w (w.alloc (.cells #[.slice fa p.funcs.length fc, .slice ga p.globals.length gc, .slice la p.layouts.length lc, .int .i64 p.main] 26)) := (Below.refl _ _).alloc (Nat.le_refl _) _
  have hR0 : RowAt (w.alloc (.cells #[.slice fa p.funcs.length fc, .slice ga p.globals.length gc, .slice la p.layouts.length lc, .int .i64 p.main] 26)) w.heap.size [.slice fa p.funcs.length fc, .slice ga p.globals.length gc, .slice la p.layouts.length lc, .int .i64 p.main] := RowAt.new _ _ _ _ _ rfl rfl
  refine (HAT.out _ hb0).mono ?_
  rintro e w1 ⟨rfl, hb1⟩
  have HB1 := hid (hb0.trans (hb1.mono hb0.size))
  have HR0 := hid (hR0.below hb1)
  clear hb0 hb1 hR0
  go_wp2_with fail
  generalize hW : World.alloc _ _ = W
  have hbW : Below w1.heap.size w1 W := by rw [← hW]; exact (Below.refl _ _).alloc (Nat.le_refl _) _
  have HR := hid (show RowAt W w1.heap.size [.int .i64 x.op, .int .i64 x.a, .int .i64 x.b, .int .i64 x.c, .int .i64 x.pos] by rw [← hW]; exact RowAt.new _ _ _ _ _ rfl rfl)
  have HBW := hid (HB1.out.trans (hbW.mono HB1.out.size))
  have HR0W := hid (HR0.out.below hbW)
  clear hW hbW
  refine (describe_calls _ W).mono ?_
  rintro e w2 ⟨rfl, hb2⟩
  have HB2 := hid (HBW.out.trans (hb2.mono HBW.out.size))
  have HR2 := hid (HR.out.below hb2)
  have HR02 := hid (HR0W.out.below hb2)
  rw [hokv, hroles]
  have d0 := HR2.out.2 0 _ rfl
  have d1 := HR2.out.2 1 _ rfl
  have d2 := HR2.out.2 2 _ rfl
  have d3 := HR2.out.2 3 _ rfl
  have s0 := HR2.out.1
  clear hb2 hokv
  have j0 : ∀ w, (Instr.index 87 (.agg #[.int .i64 x.a, .int .i64 x.b, .int .i64 x.c]) (.int .i64 0)).run Tryz.prog w = .ok (.int .i64 x.a) w := fun _ => by kernel_rfl
  have j1 : ∀ w, (Instr.index 87 (.agg #[.int .i64 x.a, .int .i64 x.b, .int .i64 x.c]) (.int .i64 1)).run Tryz.prog w = .ok (.int .i64 x.b) w := fun _ => by kernel_rfl
  have j2 : ∀ w, (Instr.index 87 (.agg #[.int .i64 x.a, .int .i64 x.b, .int .i64 x.c]) (.int .i64 2)).run Tryz.prog w = .ok (.int .i64 x.c) w := fun _ => by kernel_rfl
  go_wp2_with fail
  generalize hW2 : World.alloc _ _ = W2
  have hbW2 : Below w2.heap.size w2 W2 := by rw [← hW2]; exact (Below.refl _ _).alloc (Nat.le_refl _) _
  have HRI := hid (show RowAt W2 w2.heap.size [.string (wordC x.op), .string ⟨#[r0, r1, r2]⟩] by rw [← hW2]; exact RowAt.new _ _ _ _ _ rfl rfl)
  have HBW2 := hid (HB2.out.trans (hbW2.mono HB2.out.size))
  have HRX := hid (HR2.out.below hbW2)
  have HRP := hid (HR02.out.below hbW2)
  clear hW2 hbW2 d0 d1 d2 d3 s0
  go_loopw [11, 50] (fun v i wr => ∃ k : Nat, k ≤ 3 ∧ i = .int .i64 k ∧ OwnE intE W2.heap.size 3 wr v (rawU x k) ∧ Below W2.heap.size W2 wr) (fun _ i _ => 3 - (intOf i).toNat)
  case atStart => exact ⟨0, by omega, rfl, OwnE.nil _ _ _ _, Below.refl _ _⟩
  case round =>
    obtain ⟨k, hk, rfl, hown, hb3⟩ := hrel
    obtain ⟨wo, hwo⟩ : ∃ wo, wo = wr := ⟨_, rfl⟩
    subst hwo
    have HOWN := hid hown
    have HB3 := hid hb3
    have R3 := HRI.out.below hb3
    have c1 := R3.2 1 _ rfl
    have s1 := R3.1
    have z3 := hb3.size
    clear hown hb3 R3
    rcases (show k = 0 ∨ k = 1 ∨ k = 2 ∨ k = 3 by omega) with rfl | rfl | rfl | rfl

    · have hsel : selU x 0 = if (r0.toNat : Int) = 115 ∨ ((r0.toNat : Int) = 83 ∧ 0 ≤ x.a) then [x.a] else [] := by unfold selU; rw [HQ.out.1]; rfl
      by_cases h1 : (r0.toNat : Int) = 115
      · have g1 : ((((⟨#[r0, r1, r2]⟩ : ByteArray)[0]'(by show 0 < 3; decide)).toNat : Int) == 115) = true := beq_iff_eq.2 h1
        have g1' : ((r0.toNat : Int) == 115) = true := beq_iff_eq.2 h1
        have HS := hid (show selU x 0 = [x.a] by rw [hsel, if_pos (.inl h1)])
        clear h1 hsel
        go_wp2_with (
          at_builtin
          go_loud (refine wpList_append_one intE (o := ⟨some 73, _, _, _, _, _⟩) rfl (.tmp 70) (.tmp 72) 36 rfl W2.heap.size wo.heap.size 3 _ 8 Tryz.underlying36 infoI2 rfl (rawU x 0) x.a (HOWN.out.alloc _) ((OwnE.lit intE wo wo.heap.size 3 [x.a] _ wo.heap.size 1 rfl (Nat.le_refl _) rfl rfl (by simp)).sl (Nat.le_refl _) (by simp)) (by have := rawU_len x 0; omega) (by have := rawU_len x 0; simp only [maxLen]; omega) (by simp; omega) ?_)
          intro g2 cap2 w3 ho2 hg2 hl2 hb4
          have HO2 := hid ho2
          have HB4 := hid hb4
          clear ho2 hb4)
        go_roundw
        case rel => exact ⟨1, by omega, by go_num, by rw [show rawU x 1 = rawU x 0 ++ [x.a] by rw [← HS.out]; rfl]; exact HO2.out, HB3.out.trans (((Below.refl _ _).alloc (by omega) _).trans HB4.out)⟩
        case measure => simp [intOf]
      · have g1 : ((((⟨#[r0, r1, r2]⟩ : ByteArray)[0]'(by show 0 < 3; decide)).toNat : Int) == 115) = false := beq_eq_false_iff_ne.2 h1
        have g1' : ((r0.toNat : Int) == 115) = false := beq_eq_false_iff_ne.2 h1
        by_cases h2 : (r0.toNat : Int) = 83
        · have g2 : ((((⟨#[r0, r1, r2]⟩ : ByteArray)[0]'(by show 0 < 3; decide)).toNat : Int) == 83) = true := beq_iff_eq.2 h2
          have g2' : ((r0.toNat : Int) == 83) = true := beq_iff_eq.2 h2
          by_cases h3 : 0 ≤ x.a
          · have g3 : decide (0 ≤ x.a) = true := decide_eq_true h3
            have HS := hid (show selU x 0 = [x.a] by rw [hsel, if_pos (.inr ⟨h2, h3⟩)])
            clear h1 h2 h3 hsel
            go_wp2_with (
              at_builtin
              go_loud (refine wpList_append_one intE (o := ⟨some 73, _, _, _, _, _⟩) rfl (.tmp 70) (.tmp 72) 36 rfl W2.heap.size wo.heap.size 3 _ 8 Tryz.underlying36 infoI2 rfl (rawU x 0) x.a (HOWN.out.alloc _) ((OwnE.lit intE wo wo.heap.size 3 [x.a] _ wo.heap.size 1 rfl (Nat.le_refl _) rfl rfl (by simp)).sl (Nat.le_refl _) (by simp)) (by have := rawU_len x 0; omega) (by have := rawU_len x 0; simp only [maxLen]; omega) (by simp; omega) ?_)
              intro g2 cap2 w3 ho2 hg2 hl2 hb4
              have HO2 := hid ho2
              have HB4 := hid hb4
              clear ho2 hb4)
            go_roundw
            case rel => exact ⟨1, by omega, by go_num, by rw [show rawU x 1 = rawU x 0 ++ [x.a] by rw [← HS.out]; rfl]; exact HO2.out, HB3.out.trans (((Below.refl _ _).alloc (by omega) _).trans HB4.out)⟩
            case measure => simp [intOf]
          · have g3 : decide (0 ≤ x.a) = false := decide_eq_false h3
            have HS := hid (show selU x 0 = [] by rw [hsel, if_neg (by rintro (h | h); exact h1 h; exact h3 h.2)])
            clear h1 h2 h3 hsel
            go_wp2_with fail
            go_roundw
            case rel => exact ⟨1, by omega, by go_num, by rw [show rawU x 1 = rawU x 0 ++ selU x 0 from rfl, HS.out, List.append_nil]; exact HOWN.out, HB3.out⟩
            case measure => simp [intOf]
        · have g2 : ((((⟨#[r0, r1, r2]⟩ : ByteArray)[0]'(by show 0 < 3; decide)).toNat : Int) == 83) = false := beq_eq_false_iff_ne.2 h2
          have g2' : ((r0.toNat : Int) == 83) = false := beq_eq_false_iff_ne.2 h2
          have HS := hid (show selU x 0 = [] by rw [hsel, if_neg (by rintro (h | h); exact h1 h; exact h2 h.1)])
          clear h1 h2 hsel
          go_wp2_with fail
          go_roundw
          case rel => exact ⟨1, by omega, by go_num, by rw [show rawU x 1 = rawU x 0 ++ selU x 0 from rfl, HS.out, List.append_nil]; exact HOWN.out, HB3.out⟩
          case measure => simp [intOf]
    · have hsel : selU x 1 = if (r1.toNat : Int) = 115 ∨ ((r1.toNat : Int) = 83 ∧ 0 ≤ x.b) then [x.b] else [] := by unfold selU; rw [HQ.out.2.1]; rfl
      by_cases h1 : (r1.toNat : Int) = 115
      · have g1 : ((((⟨#[r0, r1, r2]⟩ : ByteArray)[1]'(by show 1 < 3; decide)).toNat : Int) == 115) = true := beq_iff_eq.2 h1
        have g1' : ((r1.toNat : Int) == 115) = true := beq_iff_eq.2 h1
        have HS := hid (show selU x 1 = [x.b] by rw [hsel, if_pos (.inl h1)])
        clear h1 hsel
        go_wp2_with (
          at_builtin
          go_loud (refine wpList_append_one intE (o := ⟨some 73, _, _, _, _, _⟩) rfl (.tmp 70) (.tmp 72) 36 rfl W2.heap.size wo.heap.size 3 _ 8 Tryz.underlying36 infoI2 rfl (rawU x 1) x.b (HOWN.out.alloc _) ((OwnE.lit intE wo wo.heap.size 3 [x.b] _ wo.heap.size 1 rfl (Nat.le_refl _) rfl rfl (by simp)).sl (Nat.le_refl _) (by simp)) (by have := rawU_len x 1; omega) (by have := rawU_len x 1; simp only [maxLen]; omega) (by simp; omega) ?_)
          intro g2 cap2 w3 ho2 hg2 hl2 hb4
          have HO2 := hid ho2
          have HB4 := hid hb4
          clear ho2 hb4)
        go_roundw
        case rel => exact ⟨2, by omega, by go_num, by rw [show rawU x 2 = rawU x 1 ++ [x.b] by rw [← HS.out]; rfl]; exact HO2.out, HB3.out.trans (((Below.refl _ _).alloc (by omega) _).trans HB4.out)⟩
        case measure => simp [intOf]
      · have g1 : ((((⟨#[r0, r1, r2]⟩ : ByteArray)[1]'(by show 1 < 3; decide)).toNat : Int) == 115) = false := beq_eq_false_iff_ne.2 h1
        have g1' : ((r1.toNat : Int) == 115) = false := beq_eq_false_iff_ne.2 h1
        by_cases h2 : (r1.toNat : Int) = 83
        · have g2 : ((((⟨#[r0, r1, r2]⟩ : ByteArray)[1]'(by show 1 < 3; decide)).toNat : Int) == 83) = true := beq_iff_eq.2 h2
          have g2' : ((r1.toNat : Int) == 83) = true := beq_iff_eq.2 h2
          by_cases h3 : 0 ≤ x.b
          · have g3 : decide (0 ≤ x.b) = true := decide_eq_true h3
            have HS := hid (show selU x 1 = [x.b] by rw [hsel, if_pos (.inr ⟨h2, h3⟩)])
            clear h1 h2 h3 hsel
            go_wp2_with (
              at_builtin
              go_loud (refine wpList_append_one intE (o := ⟨some 73, _, _, _, _, _⟩) rfl (.tmp 70) (.tmp 72) 36 rfl W2.heap.size wo.heap.size 3 _ 8 Tryz.underlying36 infoI2 rfl (rawU x 1) x.b (HOWN.out.alloc _) ((OwnE.lit intE wo wo.heap.size 3 [x.b] _ wo.heap.size 1 rfl (Nat.le_refl _) rfl rfl (by simp)).sl (Nat.le_refl _) (by simp)) (by have := rawU_len x 1; omega) (by have := rawU_len x 1; simp only [maxLen]; omega) (by simp; omega) ?_)
              intro g2 cap2 w3 ho2 hg2 hl2 hb4
              have HO2 := hid ho2
              have HB4 := hid hb4
              clear ho2 hb4)
            go_roundw
            case rel => exact ⟨2, by omega, by go_num, by rw [show rawU x 2 = rawU x 1 ++ [x.b] by rw [← HS.out]; rfl]; exact HO2.out, HB3.out.trans (((Below.refl _ _).alloc (by omega) _).trans HB4.out)⟩
            case measure => simp [intOf]
          · have g3 : decide (0 ≤ x.b) = false := decide_eq_false h3
            have HS := hid (show selU x 1 = [] by rw [hsel, if_neg (by rintro (h | h); exact h1 h; exact h3 h.2)])
            clear h1 h2 h3 hsel
            go_wp2_with fail
            go_roundw
            case rel => exact ⟨2, by omega, by go_num, by rw [show rawU x 2 = rawU x 1 ++ selU x 1 from rfl, HS.out, List.append_nil]; exact HOWN.out, HB3.out⟩
            case measure => simp [intOf]
        · have g2 : ((((⟨#[r0, r1, r2]⟩ : ByteArray)[1]'(by show 1 < 3; decide)).toNat : Int) == 83) = false := beq_eq_false_iff_ne.2 h2
          have g2' : ((r1.toNat : Int) == 83) = false := beq_eq_false_iff_ne.2 h2
          have HS := hid (show selU x 1 = [] by rw [hsel, if_neg (by rintro (h | h); exact h1 h; exact h2 h.1)])
          clear h1 h2 hsel
          go_wp2_with fail
          go_roundw
          case rel => exact ⟨2, by omega, by go_num, by rw [show rawU x 2 = rawU x 1 ++ selU x 1 from rfl, HS.out, List.append_nil]; exact HOWN.out, HB3.out⟩
          case measure => simp [intOf]
    · have hsel : selU x 2 = if (r2.toNat : Int) = 115 ∨ ((r2.toNat : Int) = 83 ∧ 0 ≤ x.c) then [x.c] else [] := by unfold selU; rw [HQ.out.2.2]; rfl
      by_cases h1 : (r2.toNat : Int) = 115
      · have g1 : ((((⟨#[r0, r1, r2]⟩ : ByteArray)[2]'(by show 2 < 3; decide)).toNat : Int) == 115) = true := beq_iff_eq.2 h1
        have g1' : ((r2.toNat : Int) == 115) = true := beq_iff_eq.2 h1
        have HS := hid (show selU x 2 = [x.c] by rw [hsel, if_pos (.inl h1)])
        clear h1 hsel
        go_wp2_with (
          at_builtin
          go_loud (refine wpList_append_one intE (o := ⟨some 73, _, _, _, _, _⟩) rfl (.tmp 70) (.tmp 72) 36 rfl W2.heap.size wo.heap.size 3 _ 8 Tryz.underlying36 infoI2 rfl (rawU x 2) x.c (HOWN.out.alloc _) ((OwnE.lit intE wo wo.heap.size 3 [x.c] _ wo.heap.size 1 rfl (Nat.le_refl _) rfl rfl (by simp)).sl (Nat.le_refl _) (by simp)) (by have := rawU_len x 2; omega) (by have := rawU_len x 2; simp only [maxLen]; omega) (by simp; omega) ?_)
          intro g2 cap2 w3 ho2 hg2 hl2 hb4
          have HO2 := hid ho2
          have HB4 := hid hb4
          clear ho2 hb4)
        go_roundw
        case rel => exact ⟨3, by omega, by go_num, by rw [show rawU x 3 = rawU x 2 ++ [x.c] by rw [← HS.out]; rfl]; exact HO2.out, HB3.out.trans (((Below.refl _ _).alloc (by omega) _).trans HB4.out)⟩
        case measure => simp [intOf]
      · have g1 : ((((⟨#[r0, r1, r2]⟩ : ByteArray)[2]'(by show 2 < 3; decide)).toNat : Int) == 115) = false := beq_eq_false_iff_ne.2 h1
        have g1' : ((r2.toNat : Int) == 115) = false := beq_eq_false_iff_ne.2 h1
        by_cases h2 : (r2.toNat : Int) = 83
        · have g2 : ((((⟨#[r0, r1, r2]⟩ : ByteArray)[2]'(by show 2 < 3; decide)).toNat : Int) == 83) = true := beq_iff_eq.2 h2
          have g2' : ((r2.toNat : Int) == 83) = true := beq_iff_eq.2 h2
          by_cases h3 : 0 ≤ x.c
          · have g3 : decide (0 ≤ x.c) = true := decide_eq_true h3
            have HS := hid (show selU x 2 = [x.c] by rw [hsel, if_pos (.inr ⟨h2, h3⟩)])
            clear h1 h2 h3 hsel
            go_wp2_with (
              at_builtin
              go_loud (refine wpList_append_one intE (o := ⟨some 73, _, _, _, _, _⟩) rfl (.tmp 70) (.tmp 72) 36 rfl W2.heap.size wo.heap.size 3 _ 8 Tryz.underlying36 infoI2 rfl (rawU x 2) x.c (HOWN.out.alloc _) ((OwnE.lit intE wo wo.heap.size 3 [x.c] _ wo.heap.size 1 rfl (Nat.le_refl _) rfl rfl (by simp)).sl (Nat.le_refl _) (by simp)) (by have := rawU_len x 2; omega) (by have := rawU_len x 2; simp only [maxLen]; omega) (by simp; omega) ?_)
              intro g2 cap2 w3 ho2 hg2 hl2 hb4
              have HO2 := hid ho2
              have HB4 := hid hb4
              clear ho2 hb4)
            go_roundw
            case rel => exact ⟨3, by omega, by go_num, by rw [show rawU x 3 = rawU x 2 ++ [x.c] by rw [← HS.out]; rfl]; exact HO2.out, HB3.out.trans (((Below.refl _ _).alloc (by omega) _).trans HB4.out)⟩
            case measure => simp [intOf]
          · have g3 : decide (0 ≤ x.c) = false := decide_eq_false h3
            have HS := hid (show selU x 2 = [] by rw [hsel, if_neg (by rintro (h | h); exact h1 h; exact h3 h.2)])
            clear h1 h2 h3 hsel
            go_wp2_with fail
            go_roundw
            case rel => exact ⟨3, by omega, by go_num, by rw [show rawU x 3 = rawU x 2 ++ selU x 2 from rfl, HS.out, List.append_nil]; exact HOWN.out, HB3.out⟩
            case measure => simp [intOf]
        · have g2 : ((((⟨#[r0, r1, r2]⟩ : ByteArray)[2]'(by show 2 < 3; decide)).toNat : Int) == 83) = false := beq_eq_false_iff_ne.2 h2
          have g2' : ((r2.toNat : Int) == 83) = false := beq_eq_false_iff_ne.2 h2
          have HS := hid (show selU x 2 = [] by rw [hsel, if_neg (by rintro (h | h); exact h1 h; exact h2 h.1)])
          clear h1 h2 hsel
          go_wp2_with fail
          go_roundw
          case rel => exact ⟨3, by omega, by go_num, by rw [show rawU x 3 = rawU x 2 ++ selU x 2 from rfl, HS.out, List.append_nil]; exact HOWN.out, HB3.out⟩
          case measure => simp [intOf]
    · rw [show ((3 : Nat) : Int) = 3 from rfl]
      have er := HRX.out.below HB3.out
      have d0 := er.2 0 _ rfl
      have d3 := er.2 3 _ rfl
      have d7 := er.1
      clear er
      rcases HMORE.out with ⟨h0, h1, h2⟩ | h0 | ⟨h0, h1, h2, h3⟩ | ⟨h0, h1, h2, h3, h4, h5, h6⟩ | ⟨h0, h1, h2, h3, h4, h5, h6, h7, h8⟩
      · have t38 : (x.op == 38) = true := by rw [h0]; decide
        have HEX := hid (show extraU p fn pc x = [x.c + 1] by unfold extraU; simp [h0])
        clear h0
        have HLEN := hid (show (rawU x 3).length + 1 ≤ 1000 by have := rawU_len x 3; omega)
        have HLEN2 := hid (show (rawU x 3 ++ [x.c + 1]).length ≤ 1000 by rw [List.length_append]; have := rawU_len x 3; simp; omega)
        have HSZ := hid z3
        go_wp2_with (
          at_builtin
          go_loud (refine wpList_append_one intE (o := ⟨some 84, _, _, _, _, _⟩) rfl (.tmp 79) (.tmp 83) 36 rfl W2.heap.size wo.heap.size 3 _ 8 Tryz.underlying36 infoI2 rfl (rawU x 3) (x.c + 1) (HOWN.out.alloc _) ((OwnE.lit intE wo wo.heap.size 3 [x.c + 1] _ wo.heap.size 1 rfl (Nat.le_refl _) rfl rfl (by simp)).sl (Nat.le_refl _) (by simp)) (by have := HLEN.out; omega) (by have := HLEN.out; simp only [maxLen]; omega) (by simp; have := HSZ.out; omega) ?_)
          intro g2 cap2 w3 ho2 hg2 hl2 hb4
          have HO2 := hid ho2
          have HB4 := hid hb4
          clear ho2 hb4)
        have hso := sorted9_calls HO2.out (by have := HLEN2.out; omega)
        have HSO := hid hso
        clear hso
        go_wp2_with fail
        refine HSO.out.mono ?_
        rintro e w4 ⟨v4, rfl, ho, hg⟩
        have hsl := setL_le (rawU x 3 ++ [x.c + 1]) (by have := HLEN2.out; omega)
        have HI := hid (ho.sl (HBW2.out.size) hsl)
        have HB5 := hid (HBW2.out.trans ((Below.grownE (HB3.out.trans (((Below.refl _ _).alloc (by have := HSZ.out; omega) _).trans HB4.out)) HO2.out hg (HB3.out.trans (((Below.refl _ _).alloc (by have := HSZ.out; omega) _).trans HB4.out)).size (Nat.le_refl _)).mono HBW2.out.size))
        clear ho hg
        go_wp2_with fail
        go_ret
        exact ⟨_, rfl, by rw [HEX.out]; exact HI.out, HB5.out⟩
      · have t38 : (x.op == 38) = false := by rw [h0]; decide
        have t25 : (x.op == 25) = true := by rw [h0]; decide
        have HEX := hid (show extraU p fn pc x = [0] by unfold extraU; simp [h0])
        clear h0
        have HLEN := hid (show (rawU x 3).length + 1 ≤ 1000 by have := rawU_len x 3; omega)
        have HLEN2 := hid (show (rawU x 3 ++ [0]).length ≤ 1000 by rw [List.length_append]; have := rawU_len x 3; simp; omega)
        have HSZ := hid z3
        go_wp2_with (
          at_builtin
          go_loud (refine wpList_append_one intE (o := ⟨some 89, _, _, _, _, _⟩) rfl (.tmp 87) (.tmp 88) 36 rfl W2.heap.size wo.heap.size 3 _ 8 Tryz.underlying36 infoI2 rfl (rawU x 3) (0) (HOWN.out.alloc _) ((OwnE.lit intE wo wo.heap.size 3 [0] _ wo.heap.size 1 rfl (Nat.le_refl _) rfl rfl (by simp)).sl (Nat.le_refl _) (by simp)) (by have := HLEN.out; omega) (by have := HLEN.out; simp only [maxLen]; omega) (by simp; have := HSZ.out; omega) ?_)
          intro g2 cap2 w3 ho2 hg2 hl2 hb4
          have HO2 := hid ho2
          have HB4 := hid hb4
          clear ho2 hb4)
        have hso := sorted9_calls HO2.out (by have := HLEN2.out; omega)
        have HSO := hid hso
        clear hso
        go_wp2_with fail
        refine HSO.out.mono ?_
        rintro e w4 ⟨v4, rfl, ho, hg⟩
        have hsl := setL_le (rawU x 3 ++ [0]) (by have := HLEN2.out; omega)
        have HI := hid (ho.sl (HBW2.out.size) hsl)
        have HB5 := hid (HBW2.out.trans ((Below.grownE (HB3.out.trans (((Below.refl _ _).alloc (by have := HSZ.out; omega) _).trans HB4.out)) HO2.out hg (HB3.out.trans (((Below.refl _ _).alloc (by have := HSZ.out; omega) _).trans HB4.out)).size (Nat.le_refl _)).mono HBW2.out.size))
        clear ho hg
        go_wp2_with fail
        go_ret
        exact ⟨_, rfl, by rw [HEX.out]; exact HI.out, HB5.out⟩
      · have t38 : (x.op == 38) = false := by rw [h0]; decide
        have t25 : (x.op == 25) = false := by rw [h0]; decide
        have t24 : (x.op == 24) = true := by rw [h0]; decide
        have HEX := hid (show extraU p fn pc x = rng (x.a + 1) x.c.toNat by unfold extraU; simp [h0])
        clear h0
        obtain ⟨N, hN⟩ := Int.eq_ofNat_of_zero_le h2
        rw [hN, Int.toNat_natCast] at HEX
        have HN := hid hN
        have HRL := hid (show ∀ m : Nat, m ≤ N → (rng (x.a + 1) m).length ≤ 64 from fun m hm => by rw [rng_len]; omega)
        have HSUCC := hid (show ∀ m : Nat, rng (x.a + 1) (m + 1) = rng (x.a + 1) m ++ [x.a + 1 + m] from fun m => rng_succ _ m)
        have h4 : N ≤ 64 := by omega
        clear hN
        go_wp2_with fail
        go_loopw [11, 14] (fun v i wr => ∃ m : Nat, m ≤ N ∧ i = .int .i64 (1 + m) ∧ OwnE intE W2.heap.size 3 wr v (rawU x 3 ++ rng (x.a + 1) m) ∧ Below W2.heap.size W2 wr) (fun _ i _ => (1 + N - intOf i).toNat)
        case atStart => exact ⟨0, Nat.zero_le _, rfl, by rw [show rng (x.a + 1) 0 = [] from rfl, List.append_nil]; exact HOWN.out, HB3.out⟩
        case round =>
          obtain ⟨m, hm, rfl, hown, hb6⟩ := hrel
          obtain ⟨wi, hwi⟩ : ∃ wi, wi = wr := ⟨_, rfl⟩
          subst hwi
          obtain ⟨L6, hL6⟩ : ∃ L6, rawU x 3 ++ rng (x.a + 1) m = L6 := ⟨_, rfl⟩
          rw [hL6] at hown
          have HL6 := hid hL6
          clear hL6
          have HOWN6 := hid hown
          have HB6 := hid hb6
          have HSZ := hid hb6.size
          have er := HRX.out.below hb6
          have f1 := er.2 1 _ rfl
          have f2 := er.2 2 _ rfl
          have f3 := er.2 3 _ rfl
          have f7 := er.1
          clear er d0 d3 d7
          rw [HN.out] at f3
          clear hown hb6
          by_cases hml : m < N
          · have HLEN := hid (show L6.length + 2 ≤ 1000 by rw [← HL6.out, List.length_append]; have := rawU_len x 3; have := HRL.out m hm; omega)
            have q1 : (1 : Int) + m ≤ N := by omega
            go_wp2_with (
              at_builtin
              go_loud (refine wpList_append_one intE (o := ⟨some 104, _, _, _, _, _⟩) rfl (.tmp 98) (.tmp 103) 36 rfl W2.heap.size wi.heap.size 3 _ 8 Tryz.underlying36 infoI2 rfl (L6) (x.a + (1 + m)) (HOWN6.out.alloc _) ((OwnE.lit intE wi wi.heap.size 3 [x.a + (1 + m)] _ wi.heap.size 1 rfl (Nat.le_refl _) rfl rfl (by simp)).sl (Nat.le_refl _) (by simp)) (by have := HLEN.out; omega) (by have := HLEN.out; simp only [maxLen]; omega) (by simp; have := HSZ.out; omega) ?_)
              intro g2 cap2 w3 ho2 hg2 hl2 hb4
              have HO2 := hid ho2
              have HB4 := hid hb4
              clear ho2 hb4)
            go_roundw
            case rel => exact ⟨m + 1, by omega, by go_num, by rw [HSUCC.out m, ← List.append_assoc, HL6.out, show x.a + 1 + (m : Int) = x.a + (1 + m) by omega]; exact HO2.out, HB6.out.trans (((Below.refl _ _).alloc (by have := HSZ.out; omega) _).trans HB4.out)⟩
            case measure => simp [intOf] <;> omega
          · have HEQ := hid (show m = N by omega)
            have HLEN2 := hid (show L6.length ≤ 1000 by rw [← HL6.out, List.length_append]; have := rawU_len x 3; have := HRL.out m hm; omega)
            rw [← HEQ.out] at HEX
            have hso := sorted9_calls HOWN6.out (by have := HLEN2.out; omega)
            have HSO := hid hso
            clear hso
            go_wp2_with fail
            refine HSO.out.mono ?_
            rintro e w4 ⟨v4, rfl, ho, hg⟩
            have hsl := setL_le (L6) (by have := HLEN2.out; omega)
            have HI := hid (ho.sl (HBW2.out.size) hsl)
            have HB5 := hid (HBW2.out.trans ((Below.grownE (HB6.out) HOWN6.out hg (HB6.out).size (Nat.le_refl _)).mono HBW2.out.size))
            clear ho hg
            go_wp2_with fail
            go_ret
            exact ⟨_, rfl, by rw [HEX.out, HL6.out]; exact HI.out, HB5.out⟩
      · rcases h0 with h0 | h0 | h0
        · have t38 : (x.op == 38) = false := by rw [h0]; decide
          have t25 : (x.op == 25) = false := by rw [h0]; decide
          have t24 : (x.op == 24) = false := by rw [h0]; decide
          have t26 : (x.op == 26) = true := by rw [h0]; decide
          have HEX := hid (show extraU p fn pc x = rng x.c (nth p.funcs x.b.toNat).params.toNat by unfold extraU; simp [h0])
          clear h0
          obtain ⟨B, hB⟩ := Int.eq_ofNat_of_zero_le h1
          have hB' := hid hB
          rw [hB] at h2
          rw [hB, Int.toNat_natCast] at h5 h6
          obtain ⟨N, hN⟩ := Int.eq_ofNat_of_zero_le h5
          rw [hB, Int.toNat_natCast, hN, Int.toNat_natCast] at HEX
          have HRL := hid (show ∀ m : Nat, m ≤ N → (rng x.c m).length ≤ 64 from fun m hm => by rw [rng_len]; omega)
          have HSUCC := hid (show ∀ m : Nat, rng x.c (m + 1) = rng x.c m ++ [x.c + m] from fun m => rng_succ _ m)
          have hNl : N ≤ 64 := by omega
          have hBl : B < p.funcs.length := by omega
          have hBl2 : (B : Int) < p.funcs.length := by omega
          obtain ⟨p1, _, x1, _, _, _, k1, _, _, hpn⟩ := HPZ.out
          have e1 := p1 (by omega)
          subst e1
          have z1 := k1 (by omega)
          have g1 := x1 B hBl
          rw [hN] at g1
          have HG1 := hid (And.intro z1 g1)
          have t0 : decide ((B : Int) ≤ (p.funcs.length : Int) - 1) = true := by simp; omega
          have er := HRX.out.below HB3.out
          have d2 := er.2 2 _ rfl
          rw [hB] at d2
          have er2 := HRP.out.below HB3.out
          have c0 := er2.2 0 _ rfl
          have c7 := er2.1
          clear er er2 h5 h6 h1 hB p1 x1 k1 z1 g1 hN
          go_wp2_with fail
          refine (between_calls _ _ _ _).mono ?_
          rintro e w' ⟨rfl, rfl⟩
          go_wp2_with fail
          clear d2 c0 c7 t0
          go_loopw [11, 15] (fun v i wr => ∃ m : Nat, m ≤ N ∧ i = .int .i64 (m) ∧ OwnE intE W2.heap.size 3 wr v (rawU x 3 ++ rng x.c m) ∧ Below W2.heap.size W2 wr) (fun _ i _ => (N - intOf i).toNat)
          case atStart => exact ⟨0, Nat.zero_le _, rfl, by rw [show rng x.c 0 = [] from rfl, List.append_nil]; exact HOWN.out, HB3.out⟩
          case round =>
            obtain ⟨m, hm, rfl, hown, hb6⟩ := hrel
            obtain ⟨wi, hwi⟩ : ∃ wi, wi = wr := ⟨_, rfl⟩
            subst hwi
            obtain ⟨L6, hL6⟩ : ∃ L6, rawU x 3 ++ rng x.c m = L6 := ⟨_, rfl⟩
            rw [hL6] at hown
            have HL6 := hid hL6
            clear hL6
            have HOWN6 := hid hown
            have HB6 := hid hb6
            have HSZ := hid hb6.size
            have er := HRX.out.below hb6
            have f1 := er.2 1 _ rfl
            have f2 := er.2 2 _ rfl
            have f3 := er.2 3 _ rfl
            have f7 := er.1
            clear er d0 d3 d7
            rw [hB'.out] at f2
            have hbw := bvia HBW2.out hb6
            have g1 := (hbw.cell (p := ⟨fb, _, none⟩) HG1.out.1).trans HG1.out.2
            have z2 : fb < wi.heap.size := by have := hbw.size; have := HG1.out.1; omega
            have er2 := HRP.out.below hb6
            have c0 := er2.2 0 _ rfl
            have c7 := er2.1
            clear hbw er2
            clear hown hb6
            by_cases hml : m < N
            · have HLEN := hid (show L6.length + 2 ≤ 1000 by rw [← HL6.out, List.length_append]; have := rawU_len x 3; have := HRL.out m hm; omega)
              have q1 : (m : Int) < N := by omega
              go_wp2_with (
                at_builtin
                go_loud (refine wpList_append_one intE (o := ⟨some 133, _, _, _, _, _⟩) rfl (.tmp 127) (.tmp 132) 36 rfl W2.heap.size wi.heap.size 3 _ 8 Tryz.underlying36 infoI2 rfl (L6) (x.c + m) (HOWN6.out.alloc _) ((OwnE.lit intE wi wi.heap.size 3 [x.c + m] _ wi.heap.size 1 rfl (Nat.le_refl _) rfl rfl (by simp)).sl (Nat.le_refl _) (by simp)) (by have := HLEN.out; omega) (by have := HLEN.out; simp only [maxLen]; omega) (by simp; have := HSZ.out; omega) ?_)
                intro g2 cap2 w3 ho2 hg2 hl2 hb4
                have HO2 := hid ho2
                have HB4 := hid hb4
                clear ho2 hb4)
              go_roundw
              case rel => exact ⟨m + 1, by omega, by go_num, by rw [HSUCC.out m, ← List.append_assoc, HL6.out]; exact HO2.out, HB6.out.trans (((Below.refl _ _).alloc (by have := HSZ.out; omega) _).trans HB4.out)⟩
              case measure => simp [intOf] <;> omega
            · have HEQ := hid (show m = N by omega)
              have HLEN2 := hid (show L6.length ≤ 1000 by rw [← HL6.out, List.length_append]; have := rawU_len x 3; have := HRL.out m hm; omega)
              rw [← HEQ.out] at HEX
              have hso := sorted9_calls HOWN6.out (by have := HLEN2.out; omega)
              have HSO := hid hso
              clear hso
              go_wp2_with fail
              refine HSO.out.mono ?_
              rintro e w4 ⟨v4, rfl, ho, hg⟩
              have hsl := setL_le (L6) (by have := HLEN2.out; omega)
              have HI := hid (ho.sl (HBW2.out.size) hsl)
              have HB5 := hid (HBW2.out.trans ((Below.grownE (HB6.out) HOWN6.out hg (HB6.out).size (Nat.le_refl _)).mono HBW2.out.size))
              clear ho hg
              go_wp2_with fail
              go_ret
              exact ⟨_, rfl, by rw [HEX.out, HL6.out]; exact HI.out, HB5.out⟩
        · have t38 : (x.op == 38) = false := by rw [h0]; decide
          have t25 : (x.op == 25) = false := by rw [h0]; decide
          have t24 : (x.op == 24) = false := by rw [h0]; decide
          have t26 : (x.op == 26) = false := by rw [h0]; decide
          have t28 : (x.op == 28) = true := by rw [h0]; decide
          have HEX := hid (show extraU p fn pc x = rng x.c (nth p.funcs x.b.toNat).params.toNat by unfold extraU; simp [h0])
          clear h0
          obtain ⟨B, hB⟩ := Int.eq_ofNat_of_zero_le h1
          have hB' := hid hB
          rw [hB] at h2
          rw [hB, Int.toNat_natCast] at h5 h6
          obtain ⟨N, hN⟩ := Int.eq_ofNat_of_zero_le h5
          rw [hB, Int.toNat_natCast, hN, Int.toNat_natCast] at HEX
          have HRL := hid (show ∀ m : Nat, m ≤ N → (rng x.c m).length ≤ 64 from fun m hm => by rw [rng_len]; omega)
          have HSUCC := hid (show ∀ m : Nat, rng x.c (m + 1) = rng x.c m ++ [x.c + m] from fun m => rng_succ _ m)
          have hNl : N ≤ 64 := by omega
          have hBl : B < p.funcs.length := by omega
          have hBl2 : (B : Int) < p.funcs.length := by omega
          obtain ⟨p1, _, x1, _, _, _, k1, _, _, hpn⟩ := HPZ.out
          have e1 := p1 (by omega)
          subst e1
          have z1 := k1 (by omega)
          have g1 := x1 B hBl
          rw [hN] at g1
          have HG1 := hid (And.intro z1 g1)
          have t0 : decide ((B : Int) ≤ (p.funcs.length : Int) - 1) = true := by simp; omega
          have er := HRX.out.below HB3.out
          have d2 := er.2 2 _ rfl
          rw [hB] at d2
          have er2 := HRP.out.below HB3.out
          have c0 := er2.2 0 _ rfl
          have c7 := er2.1
          clear er er2 h5 h6 h1 hB p1 x1 k1 z1 g1 hN
          go_wp2_with fail
          refine (between_calls _ _ _ _).mono ?_
          rintro e w' ⟨rfl, rfl⟩
          go_wp2_with fail
          clear d2 c0 c7 t0
          go_loopw [11, 15] (fun v i wr => ∃ m : Nat, m ≤ N ∧ i = .int .i64 (m) ∧ OwnE intE W2.heap.size 3 wr v (rawU x 3 ++ rng x.c m) ∧ Below W2.heap.size W2 wr) (fun _ i _ => (N - intOf i).toNat)
          case atStart => exact ⟨0, Nat.zero_le _, rfl, by rw [show rng x.c 0 = [] from rfl, List.append_nil]; exact HOWN.out, HB3.out⟩
          case round =>
            obtain ⟨m, hm, rfl, hown, hb6⟩ := hrel
            obtain ⟨wi, hwi⟩ : ∃ wi, wi = wr := ⟨_, rfl⟩
            subst hwi
            obtain ⟨L6, hL6⟩ : ∃ L6, rawU x 3 ++ rng x.c m = L6 := ⟨_, rfl⟩
            rw [hL6] at hown
            have HL6 := hid hL6
            clear hL6
            have HOWN6 := hid hown
            have HB6 := hid hb6
            have HSZ := hid hb6.size
            have er := HRX.out.below hb6
            have f1 := er.2 1 _ rfl
            have f2 := er.2 2 _ rfl
            have f3 := er.2 3 _ rfl
            have f7 := er.1
            clear er d0 d3 d7
            rw [hB'.out] at f2
            have hbw := bvia HBW2.out hb6
            have g1 := (hbw.cell (p := ⟨fb, _, none⟩) HG1.out.1).trans HG1.out.2
            have z2 : fb < wi.heap.size := by have := hbw.size; have := HG1.out.1; omega
            have er2 := HRP.out.below hb6
            have c0 := er2.2 0 _ rfl
            have c7 := er2.1
            clear hbw er2
            clear hown hb6
            by_cases hml : m < N
            · have HLEN := hid (show L6.length + 2 ≤ 1000 by rw [← HL6.out, List.length_append]; have := rawU_len x 3; have := HRL.out m hm; omega)
              have q1 : (m : Int) < N := by omega
              go_wp2_with (
                at_builtin
                go_loud (refine wpList_append_one intE (o := ⟨some 133, _, _, _, _, _⟩) rfl (.tmp 127) (.tmp 132) 36 rfl W2.heap.size wi.heap.size 3 _ 8 Tryz.underlying36 infoI2 rfl (L6) (x.c + m) (HOWN6.out.alloc _) ((OwnE.lit intE wi wi.heap.size 3 [x.c + m] _ wi.heap.size 1 rfl (Nat.le_refl _) rfl rfl (by simp)).sl (Nat.le_refl _) (by simp)) (by have := HLEN.out; omega) (by have := HLEN.out; simp only [maxLen]; omega) (by simp; have := HSZ.out; omega) ?_)
                intro g2 cap2 w3 ho2 hg2 hl2 hb4
                have HO2 := hid ho2
                have HB4 := hid hb4
                clear ho2 hb4)
              go_roundw
              case rel => exact ⟨m + 1, by omega, by go_num, by rw [HSUCC.out m, ← List.append_assoc, HL6.out]; exact HO2.out, HB6.out.trans (((Below.refl _ _).alloc (by have := HSZ.out; omega) _).trans HB4.out)⟩
              case measure => simp [intOf] <;> omega
            · have HEQ := hid (show m = N by omega)
              have HLEN2 := hid (show L6.length ≤ 1000 by rw [← HL6.out, List.length_append]; have := rawU_len x 3; have := HRL.out m hm; omega)
              rw [← HEQ.out] at HEX
              have hso := sorted9_calls HOWN6.out (by have := HLEN2.out; omega)
              have HSO := hid hso
              clear hso
              go_wp2_with fail
              refine HSO.out.mono ?_
              rintro e w4 ⟨v4, rfl, ho, hg⟩
              have hsl := setL_le (L6) (by have := HLEN2.out; omega)
              have HI := hid (ho.sl (HBW2.out.size) hsl)
              have HB5 := hid (HBW2.out.trans ((Below.grownE (HB6.out) HOWN6.out hg (HB6.out).size (Nat.le_refl _)).mono HBW2.out.size))
              clear ho hg
              go_wp2_with fail
              go_ret
              exact ⟨_, rfl, by rw [HEX.out, HL6.out]; exact HI.out, HB5.out⟩
        · have t38 : (x.op == 38) = false := by rw [h0]; decide
          have t25 : (x.op == 25) = false := by rw [h0]; decide
          have t24 : (x.op == 24) = false := by rw [h0]; decide
          have t26 : (x.op == 26) = false := by rw [h0]; decide
          have t28 : (x.op == 28) = false := by rw [h0]; decide
          have t31 : (x.op == 31) = true := by rw [h0]; decide
          have HEX := hid (show extraU p fn pc x = rng x.c (nth p.funcs x.b.toNat).params.toNat by unfold extraU; simp [h0])
          clear h0
          obtain ⟨B, hB⟩ := Int.eq_ofNat_of_zero_le h1
          have hB' := hid hB
          rw [hB] at h2
          rw [hB, Int.toNat_natCast] at h5 h6
          obtain ⟨N, hN⟩ := Int.eq_ofNat_of_zero_le h5
          rw [hB, Int.toNat_natCast, hN, Int.toNat_natCast] at HEX
          have HRL := hid (show ∀ m : Nat, m ≤ N → (rng x.c m).length ≤ 64 from fun m hm => by rw [rng_len]; omega)
          have HSUCC := hid (show ∀ m : Nat, rng x.c (m + 1) = rng x.c m ++ [x.c + m] from fun m => rng_succ _ m)
          have hNl : N ≤ 64 := by omega
          have hBl : B < p.funcs.length := by omega
          have hBl2 : (B : Int) < p.funcs.length := by omega
          obtain ⟨p1, _, x1, _, _, _, k1, _, _, hpn⟩ := HPZ.out
          have e1 := p1 (by omega)
          subst e1
          have z1 := k1 (by omega)
          have g1 := x1 B hBl
          rw [hN] at g1
          have HG1 := hid (And.intro z1 g1)
          have t0 : decide ((B : Int) ≤ (p.funcs.length : Int) - 1) = true := by simp; omega
          have er := HRX.out.below HB3.out
          have d2 := er.2 2 _ rfl
          rw [hB] at d2
          have er2 := HRP.out.below HB3.out
          have c0 := er2.2 0 _ rfl
          have c7 := er2.1
          clear er er2 h5 h6 h1 hB p1 x1 k1 z1 g1 hN
          go_wp2_with fail
          refine (between_calls _ _ _ _).mono ?_
          rintro e w' ⟨rfl, rfl⟩
          go_wp2_with fail
          clear d2 c0 c7 t0
          go_loopw [11, 15] (fun v i wr => ∃ m : Nat, m ≤ N ∧ i = .int .i64 (m) ∧ OwnE intE W2.heap.size 3 wr v (rawU x 3 ++ rng x.c m) ∧ Below W2.heap.size W2 wr) (fun _ i _ => (N - intOf i).toNat)
          case atStart => exact ⟨0, Nat.zero_le _, rfl, by rw [show rng x.c 0 = [] from rfl, List.append_nil]; exact HOWN.out, HB3.out⟩
          case round =>
            obtain ⟨m, hm, rfl, hown, hb6⟩ := hrel
            obtain ⟨wi, hwi⟩ : ∃ wi, wi = wr := ⟨_, rfl⟩
            subst hwi
            obtain ⟨L6, hL6⟩ : ∃ L6, rawU x 3 ++ rng x.c m = L6 := ⟨_, rfl⟩
            rw [hL6] at hown
            have HL6 := hid hL6
            clear hL6
            have HOWN6 := hid hown
            have HB6 := hid hb6
            have HSZ := hid hb6.size
            have er := HRX.out.below hb6
            have f1 := er.2 1 _ rfl
            have f2 := er.2 2 _ rfl
            have f3 := er.2 3 _ rfl
            have f7 := er.1
            clear er d0 d3 d7
            rw [hB'.out] at f2
            have hbw := bvia HBW2.out hb6
            have g1 := (hbw.cell (p := ⟨fb, _, none⟩) HG1.out.1).trans HG1.out.2
            have z2 : fb < wi.heap.size := by have := hbw.size; have := HG1.out.1; omega
            have er2 := HRP.out.below hb6
            have c0 := er2.2 0 _ rfl
            have c7 := er2.1
            clear hbw er2
            clear hown hb6
            by_cases hml : m < N
            · have HLEN := hid (show L6.length + 2 ≤ 1000 by rw [← HL6.out, List.length_append]; have := rawU_len x 3; have := HRL.out m hm; omega)
              have q1 : (m : Int) < N := by omega
              go_wp2_with (
                at_builtin
                go_loud (refine wpList_append_one intE (o := ⟨some 133, _, _, _, _, _⟩) rfl (.tmp 127) (.tmp 132) 36 rfl W2.heap.size wi.heap.size 3 _ 8 Tryz.underlying36 infoI2 rfl (L6) (x.c + m) (HOWN6.out.alloc _) ((OwnE.lit intE wi wi.heap.size 3 [x.c + m] _ wi.heap.size 1 rfl (Nat.le_refl _) rfl rfl (by simp)).sl (Nat.le_refl _) (by simp)) (by have := HLEN.out; omega) (by have := HLEN.out; simp only [maxLen]; omega) (by simp; have := HSZ.out; omega) ?_)
                intro g2 cap2 w3 ho2 hg2 hl2 hb4
                have HO2 := hid ho2
                have HB4 := hid hb4
                clear ho2 hb4)
              go_roundw
              case rel => exact ⟨m + 1, by omega, by go_num, by rw [HSUCC.out m, ← List.append_assoc, HL6.out]; exact HO2.out, HB6.out.trans (((Below.refl _ _).alloc (by have := HSZ.out; omega) _).trans HB4.out)⟩
              case measure => simp [intOf] <;> omega
            · have HEQ := hid (show m = N by omega)
              have HLEN2 := hid (show L6.length ≤ 1000 by rw [← HL6.out, List.length_append]; have := rawU_len x 3; have := HRL.out m hm; omega)
              rw [← HEQ.out] at HEX
              have hso := sorted9_calls HOWN6.out (by have := HLEN2.out; omega)
              have HSO := hid hso
              clear hso
              go_wp2_with fail
              refine HSO.out.mono ?_
              rintro e w4 ⟨v4, rfl, ho, hg⟩
              have hsl := setL_le (L6) (by have := HLEN2.out; omega)
              have HI := hid (ho.sl (HBW2.out.size) hsl)
              have HB5 := hid (HBW2.out.trans ((Below.grownE (HB6.out) HOWN6.out hg (HB6.out).size (Nat.le_refl _)).mono HBW2.out.size))
              clear ho hg
              go_wp2_with fail
              go_ret
              exact ⟨_, rfl, by rw [HEX.out, HL6.out]; exact HI.out, HB5.out⟩
      · have t38 : (x.op == 38) = false := by rw [h0]; decide
        have t25 : (x.op == 25) = false := by rw [h0]; decide
        have t24 : (x.op == 24) = false := by rw [h0]; decide
        have t26 : (x.op == 26) = false := by rw [h0]; decide
        have t28 : (x.op == 28) = false := by rw [h0]; decide
        have t31 : (x.op == 31) = false := by rw [h0]; decide
        have t50 : (x.op == 50) = true := by rw [h0]; decide
        have HEX := hid (show extraU p fn pc x = casesL (nth p.funcs fn.toNat).code pc.toNat x.b.toNat by unfold extraU; simp [h0])
        clear h0
        obtain ⟨N, hN⟩ := Int.eq_ofNat_of_zero_le h6
        obtain ⟨K, hK⟩ := Int.eq_ofNat_of_zero_le h3
        subst hK
        rw [hN] at h7 h8
        rw [hN, Int.toNat_natCast, Int.toNat_natCast] at HEX
        have HN := hid hN
        have HIA := hid (show ∀ m : Nat, m < N → insAt p fn ((K : Int) + 1 + m) = some (nth (nth p.funcs fn.toNat).code (K + 1 + m)) from fun m hm => by
          unfold insAt
          rw [if_pos ⟨h1, h2⟩, if_pos ⟨by omega, by omega⟩]
          rw [show ((K : Int) + 1 + m).toNat = K + 1 + m by omega])
        generalize hC : (nth p.funcs fn.toNat).code = C at *
        have hHC := hid hC
        have HRL := hid (show ∀ m : Nat, m ≤ N → (casesL C K m).length ≤ 16 from fun m hm => by have := casesL_len C K m; omega)
        have HSUCC := hid (show ∀ m : Nat, casesL C K (m + 1) = casesL C K m ++ caseL (nth C (K + 1 + m)) from fun m => rfl)
        clear hN hC
        go_wp2_with fail
        go_loopw [11, 16] (fun v i wr => ∃ m : Nat, m ≤ N ∧ i = .int .i64 ((K : Int) + 1 + m) ∧ OwnE intE W2.heap.size 3 wr v (rawU x 3 ++ casesL C K m) ∧ Below W2.heap.size W2 wr) (fun _ i _ => (K + 1 + N - intOf i).toNat)
        case atStart => exact ⟨0, Nat.zero_le _, rfl, by rw [show casesL C K 0 = [] from rfl, List.append_nil]; exact HOWN.out, HB3.out⟩
        case round =>
          obtain ⟨m, hm, rfl, hown, hb6⟩ := hrel
          obtain ⟨wi, hwi⟩ : ∃ wi, wi = wr := ⟨_, rfl⟩
          subst hwi
          obtain ⟨L6, hL6⟩ : ∃ L6, rawU x 3 ++ casesL C K m = L6 := ⟨_, rfl⟩
          rw [hL6] at hown
          have HL6 := hid hL6
          clear hL6
          have HOWN6 := hid hown
          have HB6 := hid hb6
          have HSZ := hid hb6.size
          have er := HRX.out.below hb6
          have f1 := er.2 1 _ rfl
          have f2 := er.2 2 _ rfl
          have f3 := er.2 3 _ rfl
          have f7 := er.1
          clear er d0 d3 d7
          rw [HN.out] at f2
          have hbw := bvia HBW2.out hb6
          have er2 := HRP.out.below hb6
          have c0 := er2.2 0 _ rfl
          have c1' := er2.2 1 _ rfl
          have c2' := er2.2 2 _ rfl
          have c3' := er2.2 3 _ rfl
          have c7 := er2.1
          have hat := at_calls lo _ _ _ p fn ((K : Int) + 1 + m) wi (HP.out.below hbw)
          have HAT2 := hid hat
          clear er2 hat hbw
          clear hown hb6
          by_cases hml : m < N
          · have HLEN := hid (show L6.length + 2 ≤ 1000 by rw [← HL6.out, List.length_append]; have := rawU_len x 3; have := HRL.out m hm; omega)
            have hia := HIA.out m hml
            have HY := hid (rfl : nth C (K + 1 + m) = nth C (K + 1 + m))
            have q1 : (K : Int) + 1 + m ≤ K + N := by omega
            have q2 : (K : Int) ≤ 1000 := by omega
            rw [hia] at HAT2
            simp only [Option.getD_some, Option.isSome_some] at HAT2
            have HSM := hid (HSUCC.out m)
            generalize nth C (K + 1 + m) = y at *
            clear hia HY
            go_wp2_with fail
            refine HAT2.out.mono ?_
            rintro e w5 ⟨rfl, hb7⟩
            have HB7 := hid hb7
            have HSZ5 := hid hb7.size
            have HBW7 := hid ((HB6.out.trans (hb7.mono HSZ.out)))
            clear hb7 c0 c1' c2' c3' c7 f1 f2 f3 f7
            by_cases hyb : y.b = 1
            · have g5 : (y.b == 1) = true := beq_iff_eq.2 hyb
              have HCL := hid (show caseL y = [y.a, y.c] by unfold caseL; rw [if_pos hyb])
              clear hyb
              go_wp2_with (
                at_builtin
                first
                | (go_loud (refine wpList_append_E intE (o := ⟨some 159, _, _, _, _, _⟩) rfl (.tmp 155) (.tmp 158) 36 rfl W2.heap.size W2.heap.size 3 _ 8 Tryz.underlying36 infoI2 rfl (L6) [y.a] (OwnE.alloc (OwnE.alloc (OwnE.fresh HOWN6.out (Only.below HB7.out _)) _) _) ((OwnE.lit intE _ W2.heap.size 3 [y.a] _ (w5.heap.size + 1) 1 (by simp) (by have := HSZ.out; have := HSZ5.out; omega) rfl rfl (by simp)).sl (Nat.le_refl _) (by simp)) (by have := HLEN.out; simp; omega) (by have := HLEN.out; simp only [maxLen]; simp; omega) (by simp; have := HSZ.out; have := HSZ5.out; omega) ?_)
                   intro v3 w3 ho3 hg3
                   have hown3 := ((OwnE.fresh HOWN6.out (Only.below HB7.out _)).alloc (.cells #[.int .i64 y.op, .int .i64 y.a, .int .i64 y.b, .int .i64 y.c, .int .i64 y.pos] 39)).alloc (.cells #[.int .i64 y.a] 3)
                   have hbox : BoxAt ((w5.alloc (.cells #[.int .i64 y.op, .int .i64 y.a, .int .i64 y.b, .int .i64 y.c, .int .i64 y.pos] 39)).alloc (.cells #[.int .i64 y.a] 3)) w5.heap.size 39 [.int .i64 y.op, .int .i64 y.a, .int .i64 y.b, .int .i64 y.c, .int .i64 y.pos] := (BoxAt.new w5 _ _ _ _ rfl rfl).alloc _
                   have hbox3 := hbox.only (Only.grown hg3) (hbox.neRow hown3 (by decide))
                   have y2 := hbox3.cell 2 _ rfl
                   have y3 := hbox3.cell 3 _ rfl
                   have y7 := hbox3.lt
                   have HO3 := hid ho3
                   have HB8 := hid (Below.grownE ((HBW7.out.alloc (by have := HSZ.out; have := HSZ5.out; omega) _).alloc (by simp; have := HSZ.out; have := HSZ5.out; omega) _) hown3 hg3 (by simp; have := HSZ.out; have := HSZ5.out; omega) (Nat.le_refl _))
                   have HSZ8 := hid HB8.out.size
                   clear hown3 hbox hbox3 ho3 hg3)
                | (go_loud (refine wpList_append_E intE (o := ⟨some 167, _, _, _, _, _⟩) rfl (.tmp 163) (.tmp 166) 36 rfl W2.heap.size W2.heap.size 3 _ 8 Tryz.underlying36 infoI2 rfl (L6 ++ [y.a]) [y.c] (OwnE.alloc HO3.out _) ((OwnE.lit intE _ W2.heap.size 3 [y.c] _ (w3.heap.size) 1 (by simp) (by have := HSZ.out; have := HSZ5.out; have := HSZ8.out; omega) rfl rfl (by simp)).sl (Nat.le_refl _) (by simp)) (by have := HLEN.out; simp; omega) (by have := HLEN.out; simp only [maxLen]; simp; omega) (by simp; have := HSZ.out; have := HSZ5.out; have := HSZ8.out; omega) ?_)
                   intro v4 w4 ho4 hg4
                   have HO4 := hid ho4
                   have HB9 := hid (Below.grownE (HB8.out.alloc (by have := HSZ8.out; omega) _) (OwnE.alloc HO3.out _) hg4 (by simp; have := HSZ8.out; omega) (Nat.le_refl _))
                   clear ho4 hg4))
              go_roundw
              case rel => exact ⟨m + 1, by omega, by go_num, by rw [HSM.out, HCL.out, ← List.append_assoc, HL6.out, show [y.a, y.c] = [y.a] ++ [y.c] from rfl, ← List.append_assoc]; exact HO4.out, HB9.out⟩
              case measure => simp [intOf] <;> omega
            · have g5 : (y.b == 1) = false := beq_eq_false_iff_ne.2 hyb
              have HCL := hid (show caseL y = [y.a] by unfold caseL; rw [if_neg hyb])
              clear hyb
              go_wp2_with (
                at_builtin
                go_loud (refine wpList_append_E intE (o := ⟨some 159, _, _, _, _, _⟩) rfl (.tmp 155) (.tmp 158) 36 rfl W2.heap.size W2.heap.size 3 _ 8 Tryz.underlying36 infoI2 rfl (L6) [y.a] (OwnE.alloc (OwnE.alloc (OwnE.fresh HOWN6.out (Only.below HB7.out _)) _) _) ((OwnE.lit intE _ W2.heap.size 3 [y.a] _ (w5.heap.size + 1) 1 (by simp) (by have := HSZ.out; have := HSZ5.out; omega) rfl rfl (by simp)).sl (Nat.le_refl _) (by simp)) (by have := HLEN.out; simp; omega) (by have := HLEN.out; simp only [maxLen]; simp; omega) (by simp; have := HSZ.out; have := HSZ5.out; omega) ?_)
                intro v3 w3 ho3 hg3
                have hown3 := ((OwnE.fresh HOWN6.out (Only.below HB7.out _)).alloc (.cells #[.int .i64 y.op, .int .i64 y.a, .int .i64 y.b, .int .i64 y.c, .int .i64 y.pos] 39)).alloc (.cells #[.int .i64 y.a] 3)
                have hbox : BoxAt ((w5.alloc (.cells #[.int .i64 y.op, .int .i64 y.a, .int .i64 y.b, .int .i64 y.c, .int .i64 y.pos] 39)).alloc (.cells #[.int .i64 y.a] 3)) w5.heap.size 39 [.int .i64 y.op, .int .i64 y.a, .int .i64 y.b, .int .i64 y.c, .int .i64 y.pos] := (BoxAt.new w5 _ _ _ _ rfl rfl).alloc _
                have hbox3 := hbox.only (Only.grown hg3) (hbox.neRow hown3 (by decide))
                have y2 := hbox3.cell 2 _ rfl
                have y7 := hbox3.lt
                have HO3 := hid ho3
                have HB8 := hid (Below.grownE ((HBW7.out.alloc (by have := HSZ.out; have := HSZ5.out; omega) _).alloc (by simp; have := HSZ.out; have := HSZ5.out; omega) _) hown3 hg3 (by simp; have := HSZ.out; have := HSZ5.out; omega) (Nat.le_refl _))
                clear hown3 hbox hbox3 ho3 hg3)
              go_roundw
              case rel => exact ⟨m + 1, by omega, by go_num, by rw [HSM.out, HCL.out, ← List.append_assoc, HL6.out]; exact HO3.out, HB8.out⟩
              case measure => simp [intOf] <;> omega
          · have HEQ := hid (show m = N by omega)
            have HLEN2 := hid (show L6.length ≤ 1000 by rw [← HL6.out, List.length_append]; have := rawU_len x 3; have := HRL.out m hm; omega)
            rw [← HEQ.out] at HEX
            have hso := sorted9_calls HOWN6.out (by have := HLEN2.out; omega)
            have HSO := hid hso
            clear hso
            go_wp2_with fail
            refine HSO.out.mono ?_
            rintro e w4 ⟨v4, rfl, ho, hg⟩
            have hsl := setL_le (L6) (by have := HLEN2.out; omega)
            have HI := hid (ho.sl (HBW2.out.size) hsl)
            have HB5 := hid (HBW2.out.trans ((Below.grownE (HB6.out) HOWN6.out hg (HB6.out).size (Nat.le_refl _)).mono HBW2.out.size))
            clear ho hg
            go_wp2_with fail
            go_ret
            exact ⟨_, rfl, by rw [HEX.out, HL6.out]; exact HI.out, HB5.out⟩

end Go.Proofs.YteiohnfmlabelaaGreat
