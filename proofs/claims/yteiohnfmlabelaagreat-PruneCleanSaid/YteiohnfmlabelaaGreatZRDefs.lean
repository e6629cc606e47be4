/-
  The registers that an instruction of a valid program always writes, as the document's answer lists them.
-/
import Derived.Test.YteiohnfmlabelaaGreatZCDefs
import Derived.Test.YteiohnfmlabelaaGreatZRUses
namespace Go.Proofs.YteiohnfmlabelaaGreat
set_option linter.unusedVariables false
set_option linter.unusedSimpArgs false
open Go.RowKit

theorem role_dst (op : Int) (h0 : 0 < op ∧ op < 53) : (∀ k : Fin 3, (roleN op k.val = 100 ↔ roleC op k.val = 100) ∧ (roleN op k.val = 68 ↔ roleC op k.val = 68)) :=
  op_fin (P := fun op => ∀ k : Fin 3, (roleN op k.val = 100 ↔ roleC op k.val = 100) ∧ (roleN op k.val = 68 ↔ roleC op k.val = 68)) (by decide +kernel) op h0

set_option maxRecDepth 100000 in
set_option maxHeartbeats 16000000 in
theorem rdefs_some (lo : Nat) (vf vg vl : Value) (p : Prg) (fn pc : Int) (x : Ins) (w : World) (hp : ProgAt lo w vf vg vl p) (hi : insAt p fn pc = some x) (hop : 0 < x.op ∧ x.op < 53) (h51 : (x.op == 51) = false) (hd : ∀ k, k < 3 → roleC x.op k = 100 → 0 ≤ opAt x k) :
    Calls Tryz.prog 57 #[.agg #[vf, vg, vl, .int .i64 p.main], .int .i64 fn, .int .i64 pc] w fun e w' => ∃ v', e = .returned v' ∧ IntsAt w.heap.size w' v' (setL (rawD x 3)) ∧ Below w.heap.size w w' := by
  have HP := hid hp
  obtain ⟨fa, fc, fb, fo, S, rfl, fp, f0, f1, f2, f3, fcode, fbl, _, _, hnf⟩ := hp.funcs.open
  obtain ⟨ga, gc, gb, go, rfl, hz2⟩ := hp.globs.open
  obtain ⟨la, lc, lb, lo', LS, rfl, hz3⟩ := hp.lays.open
  clear hz2 hz3 hp
  have hin : ∃ F K : Nat, fn = F ∧ pc = K ∧ F < p.funcs.length ∧ K < (nth p.funcs F).code.length ∧ nth (nth p.funcs F).code K = x := by
    unfold insAt at hi
    split at hi
    · rename_i h1
      split at hi
      · rename_i h2
        refine ⟨fn.toNat, pc.toNat, by omega, by omega, by omega, by omega, by simpa using hi⟩
      · cases hi
    · cases hi
  obtain ⟨F, K, rfl, rfl, hF, hK, hx⟩ := hin
  have hF2 : (F : Int) < p.funcs.length := by omega
  have hK2 : (K : Int) < (nth p.funcs F).code.length := by omega
  have tF : decide ((p.funcs.length : Int) ≤ F) = false := by simp; omega
  have tK : decide (((nth p.funcs F).code.length : Int) ≤ K) = false := by simp; omega
  have e1 := fp (by omega)
  subst e1
  have z1 := fbl (by omega)
  have d0 := f0 F hF
  have d1 := f1 F hF
  have d2 := f2 F hF
  have d3 := f3 F hF
  have hcode := fcode F hF
  obtain ⟨ca', cc', cb, co, hce, cp, c0, c1, c2, c3, c4, cbl, _, _, _, hcn⟩ := hcode.open
  obtain ⟨ea, _, ec⟩ := Value.slice.inj hce
  subst ea ec
  have e2 := cp (by omega)
  rw [e2] at d3
  have z2 := cbl (by omega)
  have i0 := c0 K hK
  have i1 := c1 K hK
  have i2 := c2 K hK
  have i3 := c3 K hK
  have i4 := c4 K hK
  rw [hx] at i0 i1 i2 i3 i4
  have HPAR := hid f1
  have HCC := hid (And.intro c0 (And.intro c1 (And.intro c2 (And.intro c3 z2))))
  have hres := roles_shape x.op
  have hsz := roles_three x.op hop
  have hroles : ∃ r0 r1 r2 : UInt8, roles x.op = ⟨#[r0, r1, r2]⟩ := by
    rcases hres with h | ⟨r0, r1, r2, h, _⟩
    · rw [h] at hsz; simp at hsz
    · exact ⟨r0, r1, r2, h⟩
  obtain ⟨r0, r1, r2, hroles⟩ := hroles
  have hsrc := role_dst x.op hop
  have q0 : roleN x.op 0 = (r0.toNat : Int) := by unfold roleN; rw [hroles]; rfl
  have q1 : roleN x.op 1 = (r1.toNat : Int) := by unfold roleN; rw [hroles]; rfl
  have q2 : roleN x.op 2 = (r2.toNat : Int) := by unfold roleN; rw [hroles]; rfl
  have s0 := hsrc 0
  have s1 := hsrc 1
  have s2 := hsrc 2
  simp only [Fin.val_zero, Fin.val_one, Fin.val_two, q0, q1, q2] at s0 s1 s2
  have HQ := hid (And.intro s0 (And.intro s1 s2))
  have HX := hid hx
  have HD := hid hd
  have HROLES := hid hroles
  have Hz1 := hid z1
  clear s0 s1 s2 q0 q1 q2 hsrc hsz hres f0 f1 f2 f3 c0 c1 c2 c3 c4 fp fbl fcode cp cbl hce hi hx hd hroles hcode e2
  generalize (nth p.funcs F).name = fname at *
  generalize (nth p.funcs F).params = fpar at *
  generalize (nth p.funcs F).regs = fregs at *
  obtain ⟨C, hC⟩ : ∃ C, (nth p.funcs F).code = C := ⟨_, rfl⟩
  rw [hC] at hK hK2 tK d3 HCC HX
  have HC := hid hC
  clear hC
  go_enter Tryz.func57, Tryz.ntmps57
  go_wp2_with fail
  generalize hW : World.alloc _ _ = W
  have hbW : Below w.heap.size w W := by rw [← hW]; exact ((Below.refl _ _).alloc (Nat.le_refl _) _).alloc (by simp) _
  have RX := hid (show RowAt W (w.heap.size + 1) [.int .i64 x.op, .int .i64 x.a, .int .i64 x.b, .int .i64 x.c, .int .i64 x.pos] by rw [← hW]; exact RowAt.new _ _ _ _ _ (by simp) rfl)
  have HBW := hid hbW
  clear hW hbW
  refine (roles_calls _ _).mono ?_
  rintro e w2 ⟨rfl, rfl⟩
  rw [HROLES.out]
  have er := RX.out
  have d0 := er.2 0 _ rfl
  have d1 := er.2 1 _ rfl
  have d2 := er.2 2 _ rfl
  have d3 := er.2 3 _ rfl
  have d7 := er.1
  clear er
  go_wp2_with fail
  generalize hW2 : World.alloc _ _ = W9
  have hbW2 : Below W.heap.size W W9 := by rw [← hW2]; exact (Below.refl _ _).alloc (Nat.le_refl _) _
  have RA := hid (show RowAt W9 W.heap.size [.int .i64 x.a, .int .i64 x.b, .int .i64 x.c] by rw [← hW2]; exact RowAt.new _ _ _ _ _ rfl rfl)
  have HBW9 := hid (bvia HBW.out hbW2)
  clear hW2 hbW2 d0 d1 d2 d3 d7
  go_loopw [7, 11] (fun v i wr => ∃ k : Nat, k ≤ 3 ∧ i = .int .i64 k ∧ IntsAt w.heap.size wr v (setL (rawD x k)) ∧ Below W9.heap.size W9 wr) (fun _ i _ => 3 - (intOf i).toNat)
  case atStart => exact ⟨0, by omega, rfl, by rw [show rawD x 0 = [] from rfl, setL_nil]; exact SlE.nil _ _ _, Below.refl _ _⟩
  case round =>
    obtain ⟨k, hk, rfl, hown, hb3⟩ := hrel
    obtain ⟨wo, hwo⟩ : ∃ wo, wo = wr := ⟨_, rfl⟩
    subst hwo
    have HI := hid hown
    have HB3 := hid hb3
    have HLO := hid (Nat.le_trans HBW9.out.size hb3.size)
    have R3 := RA.out.below hb3
    have a0 := R3.2 0 _ rfl
    have a1 := R3.2 1 _ rfl
    have a2 := R3.2 2 _ rfl
    have a7 := R3.1
    have HLN := hid (Nat.le_trans (setL_len (rawD x k)) (rawD_len x k))
    clear hown hb3 R3
    rcases (show k = 0 ∨ k = 1 ∨ k = 2 ∨ k = 3 by omega) with rfl | rfl | rfl | rfl
    · have hq := HQ.out.1
      have hsel : selD x 0 = if roleC x.op 0 = 100 ∨ (roleC x.op 0 = 68 ∧ 0 ≤ x.a) then [x.a] else [] := rfl
      by_cases h1 : (r0.toNat : Int) = 100
      · have h3 : 0 ≤ x.a := HD.out 0 (by omega) (hq.1.1 h1)
        have HSE := hid (show selD x 0 = [x.a] by rw [hsel, if_pos (.inl (hq.1.1 h1))])
        have g3 : decide (0 ≤ x.a) = true := decide_eq_true h3
        have g1 : ((((⟨#[r0, r1, r2]⟩ : ByteArray)[0]'(by show 0 < 3; decide)).toNat : Int) == 100) = true := beq_iff_eq.2 h1
        have g1' : ((r0.toNat : Int) == 100) = true := beq_iff_eq.2 h1
        clear h1 h3 hsel hq
        go_wp2_with fail
        refine (with_calls w.heap.size _ _ x.a wo HI.out HLO.out (by have := HLN.out; omega)).mono ?_
        rintro e w3 ⟨v3, rfl, hi3, hb4, _⟩
        have HI3 := hid hi3
        have HB4 := hid (bvia HB3.out hb4)
        clear hi3 hb4
        go_wp2_with fail
        go_roundw
        case rel => exact ⟨1, by omega, by go_num, by rw [show rawD x 1 = rawD x 0 ++ [x.a] by rw [← HSE.out]; rfl, setL_snoc]; exact HI3.out, HB4.out⟩
        case measure => simp [intOf]
      · by_cases h2 : (r0.toNat : Int) = 68
        · by_cases h3 : 0 ≤ x.a
          · have g3 : decide (0 ≤ x.a) = true := decide_eq_true h3
            have HSE := hid (show selD x 0 = [x.a] by rw [hsel, if_pos (.inr ⟨hq.2.1 h2, h3⟩)])
            have g1 : ((((⟨#[r0, r1, r2]⟩ : ByteArray)[0]'(by show 0 < 3; decide)).toNat : Int) == 100) = false := beq_eq_false_iff_ne.2 h1
            have g1' : ((r0.toNat : Int) == 100) = false := beq_eq_false_iff_ne.2 h1
            have g2 : ((((⟨#[r0, r1, r2]⟩ : ByteArray)[0]'(by show 0 < 3; decide)).toNat : Int) == 68) = true := beq_iff_eq.2 h2
            have g2' : ((r0.toNat : Int) == 68) = true := beq_iff_eq.2 h2
            clear h1 h2 h3 hsel hq
            go_wp2_with fail
            refine (with_calls w.heap.size _ _ x.a wo HI.out HLO.out (by have := HLN.out; omega)).mono ?_
            rintro e w3 ⟨v3, rfl, hi3, hb4, _⟩
            have HI3 := hid hi3
            have HB4 := hid (bvia HB3.out hb4)
            clear hi3 hb4
            go_wp2_with fail
            go_roundw
            case rel => exact ⟨1, by omega, by go_num, by rw [show rawD x 1 = rawD x 0 ++ [x.a] by rw [← HSE.out]; rfl, setL_snoc]; exact HI3.out, HB4.out⟩
            case measure => simp [intOf]
          · have g3 : decide (0 ≤ x.a) = false := decide_eq_false h3
            have HSE := hid (show selD x 0 = [] by rw [hsel, if_neg (by rintro (h | h); exact h1 (hq.1.2 h); exact h3 h.2)])
            have g1 : ((((⟨#[r0, r1, r2]⟩ : ByteArray)[0]'(by show 0 < 3; decide)).toNat : Int) == 100) = false := beq_eq_false_iff_ne.2 h1
            have g1' : ((r0.toNat : Int) == 100) = false := beq_eq_false_iff_ne.2 h1
            have g2 : ((((⟨#[r0, r1, r2]⟩ : ByteArray)[0]'(by show 0 < 3; decide)).toNat : Int) == 68) = true := beq_iff_eq.2 h2
            have g2' : ((r0.toNat : Int) == 68) = true := beq_iff_eq.2 h2
            clear h1 h2 h3 hsel hq
            go_wp2_with fail
            go_roundw
            case rel => exact ⟨1, by omega, by go_num, by rw [show rawD x 1 = rawD x 0 ++ selD x 0 from rfl, HSE.out, List.append_nil]; exact HI.out, HB3.out⟩
            case measure => simp [intOf]
        · have HSE := hid (show selD x 0 = [] by rw [hsel, if_neg (by rintro (h | h); exact h1 (hq.1.2 h); exact h2 (hq.2.2 h.1))])
          have g1 : ((((⟨#[r0, r1, r2]⟩ : ByteArray)[0]'(by show 0 < 3; decide)).toNat : Int) == 100) = false := beq_eq_false_iff_ne.2 h1
          have g1' : ((r0.toNat : Int) == 100) = false := beq_eq_false_iff_ne.2 h1
          have g2 : ((((⟨#[r0, r1, r2]⟩ : ByteArray)[0]'(by show 0 < 3; decide)).toNat : Int) == 68) = false := beq_eq_false_iff_ne.2 h2
          have g2' : ((r0.toNat : Int) == 68) = false := beq_eq_false_iff_ne.2 h2
          clear h1 h2 hsel hq
          go_wp2_with fail
          go_roundw
          case rel => exact ⟨1, by omega, by go_num, by rw [show rawD x 1 = rawD x 0 ++ selD x 0 from rfl, HSE.out, List.append_nil]; exact HI.out, HB3.out⟩
          case measure => simp [intOf]
    · have hq := HQ.out.2.1
      have hsel : selD x 1 = if roleC x.op 1 = 100 ∨ (roleC x.op 1 = 68 ∧ 0 ≤ x.b) then [x.b] else [] := rfl
      by_cases h1 : (r1.toNat : Int) = 100
      · have h3 : 0 ≤ x.b := HD.out 1 (by omega) (hq.1.1 h1)
        have HSE := hid (show selD x 1 = [x.b] by rw [hsel, if_pos (.inl (hq.1.1 h1))])
        have g3 : decide (0 ≤ x.b) = true := decide_eq_true h3
        have g1 : ((((⟨#[r0, r1, r2]⟩ : ByteArray)[1]'(by show 1 < 3; decide)).toNat : Int) == 100) = true := beq_iff_eq.2 h1
        have g1' : ((r1.toNat : Int) == 100) = true := beq_iff_eq.2 h1
        clear h1 h3 hsel hq
        go_wp2_with fail
        refine (with_calls w.heap.size _ _ x.b wo HI.out HLO.out (by have := HLN.out; omega)).mono ?_
        rintro e w3 ⟨v3, rfl, hi3, hb4, _⟩
        have HI3 := hid hi3
        have HB4 := hid (bvia HB3.out hb4)
        clear hi3 hb4
        go_wp2_with fail
        go_roundw
        case rel => exact ⟨2, by omega, by go_num, by rw [show rawD x 2 = rawD x 1 ++ [x.b] by rw [← HSE.out]; rfl, setL_snoc]; exact HI3.out, HB4.out⟩
        case measure => simp [intOf]
      · by_cases h2 : (r1.toNat : Int) = 68
        · by_cases h3 : 0 ≤ x.b
          · have g3 : decide (0 ≤ x.b) = true := decide_eq_true h3
            have HSE := hid (show selD x 1 = [x.b] by rw [hsel, if_pos (.inr ⟨hq.2.1 h2, h3⟩)])
            have g1 : ((((⟨#[r0, r1, r2]⟩ : ByteArray)[1]'(by show 1 < 3; decide)).toNat : Int) == 100) = false := beq_eq_false_iff_ne.2 h1
            have g1' : ((r1.toNat : Int) == 100) = false := beq_eq_false_iff_ne.2 h1
            have g2 : ((((⟨#[r0, r1, r2]⟩ : ByteArray)[1]'(by show 1 < 3; decide)).toNat : Int) == 68) = true := beq_iff_eq.2 h2
            have g2' : ((r1.toNat : Int) == 68) = true := beq_iff_eq.2 h2
            clear h1 h2 h3 hsel hq
            go_wp2_with fail
            refine (with_calls w.heap.size _ _ x.b wo HI.out HLO.out (by have := HLN.out; omega)).mono ?_
            rintro e w3 ⟨v3, rfl, hi3, hb4, _⟩
            have HI3 := hid hi3
            have HB4 := hid (bvia HB3.out hb4)
            clear hi3 hb4
            go_wp2_with fail
            go_roundw
            case rel => exact ⟨2, by omega, by go_num, by rw [show rawD x 2 = rawD x 1 ++ [x.b] by rw [← HSE.out]; rfl, setL_snoc]; exact HI3.out, HB4.out⟩
            case measure => simp [intOf]
          · have g3 : decide (0 ≤ x.b) = false := decide_eq_false h3
            have HSE := hid (show selD x 1 = [] by rw [hsel, if_neg (by rintro (h | h); exact h1 (hq.1.2 h); exact h3 h.2)])
            have g1 : ((((⟨#[r0, r1, r2]⟩ : ByteArray)[1]'(by show 1 < 3; decide)).toNat : Int) == 100) = false := beq_eq_false_iff_ne.2 h1
            have g1' : ((r1.toNat : Int) == 100) = false := beq_eq_false_iff_ne.2 h1
            have g2 : ((((⟨#[r0, r1, r2]⟩ : ByteArray)[1]'(by show 1 < 3; decide)).toNat : Int) == 68) = true := beq_iff_eq.2 h2
            have g2' : ((r1.toNat : Int) == 68) = true := beq_iff_eq.2 h2
            clear h1 h2 h3 hsel hq
            go_wp2_with fail
            go_roundw
            case rel => exact ⟨2, by omega, by go_num, by rw [show rawD x 2 = rawD x 1 ++ selD x 1 from rfl, HSE.out, List.append_nil]; exact HI.out, HB3.out⟩
            case measure => simp [intOf]
        · have HSE := hid (show selD x 1 = [] by rw [hsel, if_neg (by rintro (h | h); exact h1 (hq.1.2 h); exact h2 (hq.2.2 h.1))])
          have g1 : ((((⟨#[r0, r1, r2]⟩ : ByteArray)[1]'(by show 1 < 3; decide)).toNat : Int) == 100) = false := beq_eq_false_iff_ne.2 h1
          have g1' : ((r1.toNat : Int) == 100) = false := beq_eq_false_iff_ne.2 h1
          have g2 : ((((⟨#[r0, r1, r2]⟩ : ByteArray)[1]'(by show 1 < 3; decide)).toNat : Int) == 68) = false := beq_eq_false_iff_ne.2 h2
          have g2' : ((r1.toNat : Int) == 68) = false := beq_eq_false_iff_ne.2 h2
          clear h1 h2 hsel hq
          go_wp2_with fail
          go_roundw
          case rel => exact ⟨2, by omega, by go_num, by rw [show rawD x 2 = rawD x 1 ++ selD x 1 from rfl, HSE.out, List.append_nil]; exact HI.out, HB3.out⟩
          case measure => simp [intOf]
    · have hq := HQ.out.2.2
      have hsel : selD x 2 = if roleC x.op 2 = 100 ∨ (roleC x.op 2 = 68 ∧ 0 ≤ x.c) then [x.c] else [] := rfl
      by_cases h1 : (r2.toNat : Int) = 100
      · have h3 : 0 ≤ x.c := HD.out 2 (by omega) (hq.1.1 h1)
        have HSE := hid (show selD x 2 = [x.c] by rw [hsel, if_pos (.inl (hq.1.1 h1))])
        have g3 : decide (0 ≤ x.c) = true := decide_eq_true h3
        have g1 : ((((⟨#[r0, r1, r2]⟩ : ByteArray)[2]'(by show 2 < 3; decide)).toNat : Int) == 100) = true := beq_iff_eq.2 h1
        have g1' : ((r2.toNat : Int) == 100) = true := beq_iff_eq.2 h1
        clear h1 h3 hsel hq
        go_wp2_with fail
        refine (with_calls w.heap.size _ _ x.c wo HI.out HLO.out (by have := HLN.out; omega)).mono ?_
        rintro e w3 ⟨v3, rfl, hi3, hb4, _⟩
        have HI3 := hid hi3
        have HB4 := hid (bvia HB3.out hb4)
        clear hi3 hb4
        go_wp2_with fail
        go_roundw
        case rel => exact ⟨3, by omega, by go_num, by rw [show rawD x 3 = rawD x 2 ++ [x.c] by rw [← HSE.out]; rfl, setL_snoc]; exact HI3.out, HB4.out⟩
        case measure => simp [intOf]
      · by_cases h2 : (r2.toNat : Int) = 68
        · by_cases h3 : 0 ≤ x.c
          · have g3 : decide (0 ≤ x.c) = true := decide_eq_true h3
            have HSE := hid (show selD x 2 = [x.c] by rw [hsel, if_pos (.inr ⟨hq.2.1 h2, h3⟩)])
            have g1 : ((((⟨#[r0, r1, r2]⟩ : ByteArray)[2]'(by show 2 < 3; decide)).toNat : Int) == 100) = false := beq_eq_false_iff_ne.2 h1
            have g1' : ((r2.toNat : Int) == 100) = false := beq_eq_false_iff_ne.2 h1
            have g2 : ((((⟨#[r0, r1, r2]⟩ : ByteArray)[2]'(by show 2 < 3; decide)).toNat : Int) == 68) = true := beq_iff_eq.2 h2
            have g2' : ((r2.toNat : Int) == 68) = true := beq_iff_eq.2 h2
            clear h1 h2 h3 hsel hq
            go_wp2_with fail
            refine (with_calls w.heap.size _ _ x.c wo HI.out HLO.out (by have := HLN.out; omega)).mono ?_
            rintro e w3 ⟨v3, rfl, hi3, hb4, _⟩
            have HI3 := hid hi3
            have HB4 := hid (bvia HB3.out hb4)
            clear hi3 hb4
            go_wp2_with fail
            go_roundw
            case rel => exact ⟨3, by omega, by go_num, by rw [show rawD x 3 = rawD x 2 ++ [x.c] by rw [← HSE.out]; rfl, setL_snoc]; exact HI3.out, HB4.out⟩
            case measure => simp [intOf]
          · have g3 : decide (0 ≤ x.c) = false := decide_eq_false h3
            have HSE := hid (show selD x 2 = [] by rw [hsel, if_neg (by rintro (h | h); exact h1 (hq.1.2 h); exact h3 h.2)])
            have g1 : ((((⟨#[r0, r1, r2]⟩ : ByteArray)[2]'(by show 2 < 3; decide)).toNat : Int) == 100) = false := beq_eq_false_iff_ne.2 h1
            have g1' : ((r2.toNat : Int) == 100) = false := beq_eq_false_iff_ne.2 h1
            have g2 : ((((⟨#[r0, r1, r2]⟩ : ByteArray)[2]'(by show 2 < 3; decide)).toNat : Int) == 68) = true := beq_iff_eq.2 h2
            have g2' : ((r2.toNat : Int) == 68) = true := beq_iff_eq.2 h2
            clear h1 h2 h3 hsel hq
            go_wp2_with fail
            go_roundw
            case rel => exact ⟨3, by omega, by go_num, by rw [show rawD x 3 = rawD x 2 ++ selD x 2 from rfl, HSE.out, List.append_nil]; exact HI.out, HB3.out⟩
            case measure => simp [intOf]
        · have HSE := hid (show selD x 2 = [] by rw [hsel, if_neg (by rintro (h | h); exact h1 (hq.1.2 h); exact h2 (hq.2.2 h.1))])
          have g1 : ((((⟨#[r0, r1, r2]⟩ : ByteArray)[2]'(by show 2 < 3; decide)).toNat : Int) == 100) = false := beq_eq_false_iff_ne.2 h1
          have g1' : ((r2.toNat : Int) == 100) = false := beq_eq_false_iff_ne.2 h1
          have g2 : ((((⟨#[r0, r1, r2]⟩ : ByteArray)[2]'(by show 2 < 3; decide)).toNat : Int) == 68) = false := beq_eq_false_iff_ne.2 h2
          have g2' : ((r2.toNat : Int) == 68) = false := beq_eq_false_iff_ne.2 h2
          clear h1 h2 hsel hq
          go_wp2_with fail
          go_roundw
          case rel => exact ⟨3, by omega, by go_num, by rw [show rawD x 3 = rawD x 2 ++ selD x 2 from rfl, HSE.out, List.append_nil]; exact HI.out, HB3.out⟩
          case measure => simp [intOf]
    · rw [show ((3 : Nat) : Int) = 3 from rfl]
      go_wp2_with fail
      go_ret
      exact ⟨_, rfl, HI.out, bvia HBW9.out HB3.out⟩

end Go.Proofs.YteiohnfmlabelaaGreat
