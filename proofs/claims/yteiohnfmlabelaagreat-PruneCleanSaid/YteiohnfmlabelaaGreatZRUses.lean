/-
  The registers that an instruction of a valid program reads, as the document's answer lists them.
-/
import Derived.Test.YteiohnfmlabelaaGreatZInstr
import Derived.Test.YteiohnfmlabelaaGreatZCUses2
namespace Go.Proofs.YteiohnfmlabelaaGreat
set_option linter.unusedVariables false
set_option linter.unusedSimpArgs false
open Go.RowKit

theorem setL_snoc (l : List Int) (n : Int) : setL (l ++ [n]) = withL (setL l) n := by rw [← foldl_setL, ← foldl_setL, List.foldl_append]; rfl
theorem setL_len (l : List Int) : (setL l).length ≤ l.length := by
  have h1 := Lib.compact_length_le (sortI l)
  rw [sortI_length] at h1
  exact h1
theorem op_fin {P : Int → Prop} (h : ∀ n : Fin 53, 0 < n.val → P (n.val : Int)) (op : Int) (h0 : 0 < op ∧ op < 53) : P op := by
  obtain ⟨n, rfl⟩ := Int.eq_ofNat_of_zero_le (by omega : 0 ≤ op)
  exact h ⟨n, by omega⟩ (by show 0 < n; omega)
theorem setL_nil : setL [] = [] := by rw [← foldl_setL]; rfl
theorem role_src (op : Int) (h0 : 0 < op ∧ op < 53) : (∀ k : Fin 3, (roleN op k.val = 114 ↔ roleC op k.val = 115) ∧ (roleN op k.val = 82 ↔ roleC op k.val = 83)) :=
  op_fin (P := fun op => ∀ k : Fin 3, (roleN op k.val = 114 ↔ roleC op k.val = 115) ∧ (roleN op k.val = 82 ↔ roleC op k.val = 83)) (by decide +kernel) op h0
theorem roles_three (op : Int) (h0 : 0 < op ∧ op < 53) : (roles op).data.size = 3 :=
  op_fin (P := fun op => (roles op).data.size = 3) (by decide +kernel) op h0

/-- The plain operations read nothing further. -/
def PlainU (x : Ins) : Prop := x.op ≠ 38 ∧ x.op ≠ 25 ∧ x.op ≠ 24 ∧ x.op ≠ 26 ∧ x.op ≠ 28 ∧ x.op ≠ 31 ∧ x.op ≠ 50

set_option maxRecDepth 100000 in
set_option maxHeartbeats 16000000 in
theorem ruses_some (lo : Nat) (vf vg vl : Value) (p : Prg) (fn pc : Int) (x : Ins) (w : World) (hp : ProgAt lo w vf vg vl p) (hi : insAt p fn pc = some x) (hop : 0 < x.op ∧ x.op < 53) (h51 : (x.op == 51) = false) (hs : MoreU p fn pc x ∨ PlainU x) :
    Calls Tryz.prog 56 #[.agg #[vf, vg, vl, .int .i64 p.main], .int .i64 fn, .int .i64 pc] w fun e w' => ∃ v', e = .returned v' ∧ IntsAt w.heap.size w' v' (setL (rawU x 3 ++ extraU p fn pc x)) ∧ Below w.heap.size w w' := by
  have HP := hid hp
  obtain ⟨fa, fc, fb, fo, S, rfl, fp, f0, f1, f2, f3, fcode, fbl, _, _, hnf⟩ := hp.funcs.open
  obtain ⟨ga, gc, gb, go, rfl, hz2⟩ := hp.globs.open
  obtain ⟨la, lc, lb, lo', LS, rfl, hz3⟩ := hp.lays.open
  clear hz2 hz3 hp
  have hin : ∃ F K : Nat, fn = F ∧ pc = K ∧ F < p.funcs.length ∧ K < (nth p.funcs F).code.length ∧ nth (nth p.funcs F).code K = x := by
    unfold insAt at hi
    split at hi
    · rename_i h1
      split at hi
      · rename_i h2
        refine ⟨fn.toNat, pc.toNat, by omega, by omega, by omega, by omega, by simpa using hi⟩
      · cases hi
    · cases hi
  obtain ⟨F, K, rfl, rfl, hF, hK, hx⟩ := hin
  have hF2 : (F : Int) < p.funcs.length := by omega
  have hK2 : (K : Int) < (nth p.funcs F).code.length := by omega
  have tF : decide ((p.funcs.length : Int) ≤ F) = false := by simp; omega
  have tK : decide (((nth p.funcs F).code.length : Int) ≤ K) = false := by simp; omega
  have e1 := fp (by omega)
  subst e1
  have z1 := fbl (by omega)
  have d0 := f0 F hF
  have d1 := f1 F hF
  have d2 := f2 F hF
  have d3 := f3 F hF
  have hcode := fcode F hF
  obtain ⟨ca', cc', cb, co, hce, cp, c0, c1, c2, c3, c4, cbl, _, _, _, hcn⟩ := hcode.open
  obtain ⟨ea, _, ec⟩ := Value.slice.inj hce
  subst ea ec
  have e2 := cp (by omega)
  rw [e2] at d3
  have z2 := cbl (by omega)
  have i0 := c0 K hK
  have i1 := c1 K hK
  have i2 := c2 K hK
  have i3 := c3 K hK
  have i4 := c4 K hK
  rw [hx] at i0 i1 i2 i3 i4
  have HPAR := hid f1
  have HCC := hid (And.intro c0 (And.intro c1 (And.intro c2 (And.intro c3 z2))))
  have hres := roles_shape x.op
  have hsz := roles_three x.op hop
  have hroles : ∃ r0 r1 r2 : UInt8, roles x.op = ⟨#[r0, r1, r2]⟩ := by
    rcases hres with h | ⟨r0, r1, r2, h, _⟩
    · rw [h] at hsz; simp at hsz
    · exact ⟨r0, r1, r2, h⟩
  obtain ⟨r0, r1, r2, hroles⟩ := hroles
  have hsrc := role_src x.op hop
  have q0 : roleN x.op 0 = (r0.toNat : Int) := by unfold roleN; rw [hroles]; rfl
  have q1 : roleN x.op 1 = (r1.toNat : Int) := by unfold roleN; rw [hroles]; rfl
  have q2 : roleN x.op 2 = (r2.toNat : Int) := by unfold roleN; rw [hroles]; rfl
  have s0 := hsrc 0
  have s1 := hsrc 1
  have s2 := hsrc 2
  simp only [Fin.val_zero, Fin.val_one, Fin.val_two, q0, q1, q2] at s0 s1 s2
  have HQ := hid (And.intro s0 (And.intro s1 s2))
  have HX := hid hx
  have HS := hid hs
  have HROLES := hid hroles
  have Hz1 := hid z1
  clear s0 s1 s2 q0 q1 q2 hsrc hsz hres f0 f1 f2 f3 c0 c1 c2 c3 c4 fp fbl fcode cp cbl hce hi hx hs hroles hcode e2
  generalize (nth p.funcs F).name = fname at *
  generalize (nth p.funcs F).params = fpar at *
  generalize (nth p.funcs F).regs = fregs at *
  obtain ⟨C, hC⟩ : ∃ C, (nth p.funcs F).code = C := ⟨_, rfl⟩
  rw [hC] at hK hK2 tK d3 HCC HX
  have HC := hid hC
  clear hC
  go_enter Tryz.func56, Tryz.ntmps56
  go_wp2_with fail
  generalize hW : World.alloc _ _ = W
  have hbW : Below w.heap.size w W := by rw [← hW]; exact (((Below.refl _ _).alloc (Nat.le_refl _) _).alloc (by simp) _).alloc (by simp; omega) _
  have RP := hid (show RowAt W w.heap.size [.slice (some ⟨fb, fo, none⟩) p.funcs.length fc, .slice ga p.globals.length gc, .slice la p.layouts.length lc, .int .i64 p.main] by rw [← hW]; exact ((RowAt.new w _ _ _ _ rfl rfl).below ((Below.refl _ _).alloc (Nat.le_refl _) _)).below ((Below.refl _ _).alloc (Nat.le_refl _) _))
  have RF := hid (show RowAt W (w.heap.size + 1) [.string fname, .int .i64 fpar, .int .i64 fregs, .slice (some ⟨cb, co, none⟩) C.length (S F).c] by rw [← hW]; exact (RowAt.new _ _ _ _ _ (by simp) rfl).below ((Below.refl _ _).alloc (Nat.le_refl _) _))
  have RX := hid (show RowAt W (w.heap.size + 1 + 1) [.int .i64 x.op, .int .i64 x.a, .int .i64 x.b, .int .i64 x.c, .int .i64 x.pos] by rw [← hW]; exact RowAt.new _ _ _ _ _ (by simp) rfl)
  have HBW := hid hbW
  clear hW hbW
  refine (roles_calls _ _).mono ?_
  rintro e w2 ⟨rfl, rfl⟩
  rw [HROLES.out]
  have er := RX.out
  have d0 := er.2 0 _ rfl
  have d1 := er.2 1 _ rfl
  have d2 := er.2 2 _ rfl
  have d3 := er.2 3 _ rfl
  have d7 := er.1
  clear er
  go_wp2_with fail
  generalize hW2 : World.alloc _ _ = W9
  have hbW2 : Below W.heap.size W W9 := by rw [← hW2]; exact (Below.refl _ _).alloc (Nat.le_refl _) _
  have RA := hid (show RowAt W9 W.heap.size [.int .i64 x.a, .int .i64 x.b, .int .i64 x.c] by rw [← hW2]; exact RowAt.new _ _ _ _ _ rfl rfl)
  have RX9 := hid (RX.out.below hbW2)
  have RF9 := hid (RF.out.below hbW2)
  have RP9 := hid (RP.out.below hbW2)
  have HBW9 := hid (bvia HBW.out hbW2)
  clear hW2 hbW2 d0 d1 d2 d3 d7
  go_loopw [7, 12] (fun v i wr => ∃ k : Nat, k ≤ 3 ∧ i = .int .i64 k ∧ IntsAt w.heap.size wr v (setL (rawU x k)) ∧ Below W9.heap.size W9 wr) (fun _ i _ => 3 - (intOf i).toNat)
  case atStart => exact ⟨0, by omega, rfl, by rw [show rawU x 0 = [] from rfl, setL_nil]; exact SlE.nil _ _ _, Below.refl _ _⟩
  case round =>
    obtain ⟨k, hk, rfl, hown, hb3⟩ := hrel
    obtain ⟨wo, hwo⟩ : ∃ wo, wo = wr := ⟨_, rfl⟩
    subst hwo
    have HI := hid hown
    have HB3 := hid hb3
    have HLO := hid (Nat.le_trans HBW9.out.size hb3.size)
    have R3 := RA.out.below hb3
    have a0 := R3.2 0 _ rfl
    have a1 := R3.2 1 _ rfl
    have a2 := R3.2 2 _ rfl
    have a7 := R3.1
    have HLN := hid (Nat.le_trans (setL_len (rawU x k)) (rawU_len x k))
    clear hown hb3 R3
    rcases (show k = 0 ∨ k = 1 ∨ k = 2 ∨ k = 3 by omega) with rfl | rfl | rfl | rfl
    · have hsel : selU x 0 = if (r0.toNat : Int) = 114 ∨ ((r0.toNat : Int) = 82 ∧ 0 ≤ x.a) then [x.a] else [] := by
        unfold selU
        have hq := HQ.out.1
        by_cases h1 : (r0.toNat : Int) = 114
        · rw [if_pos (.inl (hq.1.1 h1)), if_pos (.inl h1)]; rfl
        · by_cases h2 : (r0.toNat : Int) = 82
          · by_cases h3 : 0 ≤ x.a
            · rw [if_pos (.inr ⟨hq.2.1 h2, h3⟩), if_pos (.inr ⟨h2, h3⟩)]; rfl
            · rw [if_neg, if_neg]
              · rintro (h | h); exact h1 h; exact h3 h.2
              · rintro (h | h); exact h1 (hq.1.2 h); exact h3 h.2
          · rw [if_neg, if_neg]
            · rintro (h | h); exact h1 h; exact h2 h.1
            · rintro (h | h); exact h1 (hq.1.2 h); exact h2 (hq.2.2 h.1)
      by_cases h1 : (r0.toNat : Int) = 114
      · have g1 : ((((⟨#[r0, r1, r2]⟩ : ByteArray)[0]'(by show 0 < 3; decide)).toNat : Int) == 114) = true := beq_iff_eq.2 h1
        have g1' : ((r0.toNat : Int) == 114) = true := beq_iff_eq.2 h1
        have HSE := hid (show selU x 0 = [x.a] by rw [hsel, if_pos (.inl h1)])
        clear h1 hsel
        go_wp2_with fail
        refine (with_calls w.heap.size _ _ x.a wo HI.out HLO.out (by have := HLN.out; omega)).mono ?_
        rintro e w3 ⟨v3, rfl, hi3, hb4, _⟩
        have HI3 := hid hi3
        have HB4 := hid (bvia HB3.out hb4)
        clear hi3 hb4
        go_wp2_with fail
        go_roundw
        case rel => exact ⟨1, by omega, by go_num, by rw [show rawU x 1 = rawU x 0 ++ [x.a] by rw [← HSE.out]; rfl, setL_snoc]; exact HI3.out, HB4.out⟩
        case measure => simp [intOf]
      · have g1 : ((((⟨#[r0, r1, r2]⟩ : ByteArray)[0]'(by show 0 < 3; decide)).toNat : Int) == 114) = false := beq_eq_false_iff_ne.2 h1
        have g1' : ((r0.toNat : Int) == 114) = false := beq_eq_false_iff_ne.2 h1
        by_cases h2 : (r0.toNat : Int) = 82
        · have g2 : ((((⟨#[r0, r1, r2]⟩ : ByteArray)[0]'(by show 0 < 3; decide)).toNat : Int) == 82) = true := beq_iff_eq.2 h2
          have g2' : ((r0.toNat : Int) == 82) = true := beq_iff_eq.2 h2
          by_cases h3 : 0 ≤ x.a
          · have g3 : decide (0 ≤ x.a) = true := decide_eq_true h3
            have HSE := hid (show selU x 0 = [x.a] by rw [hsel, if_pos (.inr ⟨h2, h3⟩)])
            clear h1 h2 h3 hsel
            go_wp2_with fail
            refine (with_calls w.heap.size _ _ x.a wo HI.out HLO.out (by have := HLN.out; omega)).mono ?_
            rintro e w3 ⟨v3, rfl, hi3, hb4, _⟩
            have HI3 := hid hi3
            have HB4 := hid (bvia HB3.out hb4)
            clear hi3 hb4
            go_wp2_with fail
            go_roundw
            case rel => exact ⟨1, by omega, by go_num, by rw [show rawU x 1 = rawU x 0 ++ [x.a] by rw [← HSE.out]; rfl, setL_snoc]; exact HI3.out, HB4.out⟩
            case measure => simp [intOf]
          · have g3 : decide (0 ≤ x.a) = false := decide_eq_false h3
            have HSE := hid (show selU x 0 = [] by rw [hsel, if_neg (by rintro (h | h); exact h1 h; exact h3 h.2)])
            clear h1 h2 h3 hsel
            go_wp2_with fail
            go_roundw
            case rel => exact ⟨1, by omega, by go_num, by rw [show rawU x 1 = rawU x 0 ++ selU x 0 from rfl, HSE.out, List.append_nil]; exact HI.out, HB3.out⟩
            case measure => simp [intOf]
        · have g2 : ((((⟨#[r0, r1, r2]⟩ : ByteArray)[0]'(by show 0 < 3; decide)).toNat : Int) == 82) = false := beq_eq_false_iff_ne.2 h2
          have g2' : ((r0.toNat : Int) == 82) = false := beq_eq_false_iff_ne.2 h2
          have HSE := hid (show selU x 0 = [] by rw [hsel, if_neg (by rintro (h | h); exact h1 h; exact h2 h.1)])
          clear h1 h2 hsel
          go_wp2_with fail
          go_roundw
          case rel => exact ⟨1, by omega, by go_num, by rw [show rawU x 1 = rawU x 0 ++ selU x 0 from rfl, HSE.out, List.append_nil]; exact HI.out, HB3.out⟩
          case measure => simp [intOf]
    · have hsel : selU x 1 = if (r1.toNat : Int) = 114 ∨ ((r1.toNat : Int) = 82 ∧ 0 ≤ x.b) then [x.b] else [] := by
        unfold selU
        have hq := HQ.out.2.1
        by_cases h1 : (r1.toNat : Int) = 114
        · rw [if_pos (.inl (hq.1.1 h1)), if_pos (.inl h1)]; rfl
        · by_cases h2 : (r1.toNat : Int) = 82
          · by_cases h3 : 0 ≤ x.b
            · rw [if_pos (.inr ⟨hq.2.1 h2, h3⟩), if_pos (.inr ⟨h2, h3⟩)]; rfl
            · rw [if_neg, if_neg]
              · rintro (h | h); exact h1 h; exact h3 h.2
              · rintro (h | h); exact h1 (hq.1.2 h); exact h3 h.2
          · rw [if_neg, if_neg]
            · rintro (h | h); exact h1 h; exact h2 h.1
            · rintro (h | h); exact h1 (hq.1.2 h); exact h2 (hq.2.2 h.1)
      by_cases h1 : (r1.toNat : Int) = 114
      · have g1 : ((((⟨#[r0, r1, r2]⟩ : ByteArray)[1]'(by show 1 < 3; decide)).toNat : Int) == 114) = true := beq_iff_eq.2 h1
        have g1' : ((r1.toNat : Int) == 114) = true := beq_iff_eq.2 h1
        have HSE := hid (show selU x 1 = [x.b] by rw [hsel, if_pos (.inl h1)])
        clear h1 hsel
        go_wp2_with fail
        refine (with_calls w.heap.size _ _ x.b wo HI.out HLO.out (by have := HLN.out; omega)).mono ?_
        rintro e w3 ⟨v3, rfl, hi3, hb4, _⟩
        have HI3 := hid hi3
        have HB4 := hid (bvia HB3.out hb4)
        clear hi3 hb4
        go_wp2_with fail
        go_roundw
        case rel => exact ⟨2, by omega, by go_num, by rw [show rawU x 2 = rawU x 1 ++ [x.b] by rw [← HSE.out]; rfl, setL_snoc]; exact HI3.out, HB4.out⟩
        case measure => simp [intOf]
      · have g1 : ((((⟨#[r0, r1, r2]⟩ : ByteArray)[1]'(by show 1 < 3; decide)).toNat : Int) == 114) = false := beq_eq_false_iff_ne.2 h1
        have g1' : ((r1.toNat : Int) == 114) = false := beq_eq_false_iff_ne.2 h1
        by_cases h2 : (r1.toNat : Int) = 82
        · have g2 : ((((⟨#[r0, r1, r2]⟩ : ByteArray)[1]'(by show 1 < 3; decide)).toNat : Int) == 82) = true := beq_iff_eq.2 h2
          have g2' : ((r1.toNat : Int) == 82) = true := beq_iff_eq.2 h2
          by_cases h3 : 0 ≤ x.b
          · have g3 : decide (0 ≤ x.b) = true := decide_eq_true h3
            have HSE := hid (show selU x 1 = [x.b] by rw [hsel, if_pos (.inr ⟨h2, h3⟩)])
            clear h1 h2 h3 hsel
            go_wp2_with fail
            refine (with_calls w.heap.size _ _ x.b wo HI.out HLO.out (by have := HLN.out; omega)).mono ?_
            rintro e w3 ⟨v3, rfl, hi3, hb4, _⟩
            have HI3 := hid hi3
            have HB4 := hid (bvia HB3.out hb4)
            clear hi3 hb4
            go_wp2_with fail
            go_roundw
            case rel => exact ⟨2, by omega, by go_num, by rw [show rawU x 2 = rawU x 1 ++ [x.b] by rw [← HSE.out]; rfl, setL_snoc]; exact HI3.out, HB4.out⟩
            case measure => simp [intOf]
          · have g3 : decide (0 ≤ x.b) = false := decide_eq_false h3
            have HSE := hid (show selU x 1 = [] by rw [hsel, if_neg (by rintro (h | h); exact h1 h; exact h3 h.2)])
            clear h1 h2 h3 hsel
            go_wp2_with fail
            go_roundw
            case rel => exact ⟨2, by omega, by go_num, by rw [show rawU x 2 = rawU x 1 ++ selU x 1 from rfl, HSE.out, List.append_nil]; exact HI.out, HB3.out⟩
            case measure => simp [intOf]
        · have g2 : ((((⟨#[r0, r1, r2]⟩ : ByteArray)[1]'(by show 1 < 3; decide)).toNat : Int) == 82) = false := beq_eq_false_iff_ne.2 h2
          have g2' : ((r1.toNat : Int) == 82) = false := beq_eq_false_iff_ne.2 h2
          have HSE := hid (show selU x 1 = [] by rw [hsel, if_neg (by rintro (h | h); exact h1 h; exact h2 h.1)])
          clear h1 h2 hsel
          go_wp2_with fail
          go_roundw
          case rel => exact ⟨2, by omega, by go_num, by rw [show rawU x 2 = rawU x 1 ++ selU x 1 from rfl, HSE.out, List.append_nil]; exact HI.out, HB3.out⟩
          case measure => simp [intOf]
    · have hsel : selU x 2 = if (r2.toNat : Int) = 114 ∨ ((r2.toNat : Int) = 82 ∧ 0 ≤ x.c) then [x.c] else [] := by
        unfold selU
        have hq := HQ.out.2.2
        by_cases h1 : (r2.toNat : Int) = 114
        · rw [if_pos (.inl (hq.1.1 h1)), if_pos (.inl h1)]; rfl
        · by_cases h2 : (r2.toNat : Int) = 82
          · by_cases h3 : 0 ≤ x.c
            · rw [if_pos (.inr ⟨hq.2.1 h2, h3⟩), if_pos (.inr ⟨h2, h3⟩)]; rfl
            · rw [if_neg, if_neg]
              · rintro (h | h); exact h1 h; exact h3 h.2
              · rintro (h | h); exact h1 (hq.1.2 h); exact h3 h.2
          · rw [if_neg, if_neg]
            · rintro (h | h); exact h1 h; exact h2 h.1
            · rintro (h | h); exact h1 (hq.1.2 h); exact h2 (hq.2.2 h.1)
      by_cases h1 : (r2.toNat : Int) = 114
      · have g1 : ((((⟨#[r0, r1, r2]⟩ : ByteArray)[2]'(by show 2 < 3; decide)).toNat : Int) == 114) = true := beq_iff_eq.2 h1
        have g1' : ((r2.toNat : Int) == 114) = true := beq_iff_eq.2 h1
        have HSE := hid (show selU x 2 = [x.c] by rw [hsel, if_pos (.inl h1)])
        clear h1 hsel
        go_wp2_with fail
        refine (with_calls w.heap.size _ _ x.c wo HI.out HLO.out (by have := HLN.out; omega)).mono ?_
        rintro e w3 ⟨v3, rfl, hi3, hb4, _⟩
        have HI3 := hid hi3
        have HB4 := hid (bvia HB3.out hb4)
        clear hi3 hb4
        go_wp2_with fail
        go_roundw
        case rel => exact ⟨3, by omega, by go_num, by rw [show rawU x 3 = rawU x 2 ++ [x.c] by rw [← HSE.out]; rfl, setL_snoc]; exact HI3.out, HB4.out⟩
        case measure => simp [intOf]
      · have g1 : ((((⟨#[r0, r1, r2]⟩ : ByteArray)[2]'(by show 2 < 3; decide)).toNat : Int) == 114) = false := beq_eq_false_iff_ne.2 h1
        have g1' : ((r2.toNat : Int) == 114) = false := beq_eq_false_iff_ne.2 h1
        by_cases h2 : (r2.toNat : Int) = 82
        · have g2 : ((((⟨#[r0, r1, r2]⟩ : ByteArray)[2]'(by show 2 < 3; decide)).toNat : Int) == 82) = true := beq_iff_eq.2 h2
          have g2' : ((r2.toNat : Int) == 82) = true := beq_iff_eq.2 h2
          by_cases h3 : 0 ≤ x.c
          · have g3 : decide (0 ≤ x.c) = true := decide_eq_true h3
            have HSE := hid (show selU x 2 = [x.c] by rw [hsel, if_pos (.inr ⟨h2, h3⟩)])
            clear h1 h2 h3 hsel
            go_wp2_with fail
            refine (with_calls w.heap.size _ _ x.c wo HI.out HLO.out (by have := HLN.out; omega)).mono ?_
            rintro e w3 ⟨v3, rfl, hi3, hb4, _⟩
            have HI3 := hid hi3
            have HB4 := hid (bvia HB3.out hb4)
            clear hi3 hb4
            go_wp2_with fail
            go_roundw
            case rel => exact ⟨3, by omega, by go_num, by rw [show rawU x 3 = rawU x 2 ++ [x.c] by rw [← HSE.out]; rfl, setL_snoc]; exact HI3.out, HB4.out⟩
            case measure => simp [intOf]
          · have g3 : decide (0 ≤ x.c) = false := decide_eq_false h3
            have HSE := hid (show selU x 2 = [] by rw [hsel, if_neg (by rintro (h | h); exact h1 h; exact h3 h.2)])
            clear h1 h2 h3 hsel
            go_wp2_with fail
            go_roundw
            case rel => exact ⟨3, by omega, by go_num, by rw [show rawU x 3 = rawU x 2 ++ selU x 2 from rfl, HSE.out, List.append_nil]; exact HI.out, HB3.out⟩
            case measure => simp [intOf]
        · have g2 : ((((⟨#[r0, r1, r2]⟩ : ByteArray)[2]'(by show 2 < 3; decide)).toNat : Int) == 82) = false := beq_eq_false_iff_ne.2 h2
          have g2' : ((r2.toNat : Int) == 82) = false := beq_eq_false_iff_ne.2 h2
          have HSE := hid (show selU x 2 = [] by rw [hsel, if_neg (by rintro (h | h); exact h1 h; exact h2 h.1)])
          clear h1 h2 hsel
          go_wp2_with fail
          go_roundw
          case rel => exact ⟨3, by omega, by go_num, by rw [show rawU x 3 = rawU x 2 ++ selU x 2 from rfl, HSE.out, List.append_nil]; exact HI.out, HB3.out⟩
          case measure => simp [intOf]
    · rw [show ((3 : Nat) : Int) = 3 from rfl]
      have er := RX9.out.below HB3.out
      have d0 := er.2 0 _ rfl
      have d3 := er.2 3 _ rfl
      have d7 := er.1
      clear er a0 a1 a2 a7
      rcases HS.out with hs | hs
      rotate_left
      · obtain ⟨h38, h25, h24, h26, h28, h31, h50⟩ := hs
        have t38 : (x.op == 38) = false := beq_eq_false_iff_ne.2 h38
        have t25 : (x.op == 25) = false := beq_eq_false_iff_ne.2 h25
        have t24 : (x.op == 24) = false := beq_eq_false_iff_ne.2 h24
        have t26 : (x.op == 26) = false := beq_eq_false_iff_ne.2 h26
        have t28 : (x.op == 28) = false := beq_eq_false_iff_ne.2 h28
        have t31 : (x.op == 31) = false := beq_eq_false_iff_ne.2 h31
        have t50 : (x.op == 50) = false := beq_eq_false_iff_ne.2 h50
        have HEX := hid (show extraU p F K x = [] by unfold extraU; simp [*])
        clear h38 h25 h24 h26 h28 h31 h50
        go_wp2_with fail
        go_ret
        exact ⟨_, rfl, by rw [HEX.out, List.append_nil]; exact HI.out, bvia HBW9.out HB3.out⟩
      rcases hs with ⟨h0, h1, h2⟩ | h0 | ⟨h0, h1, h2, h3⟩ | ⟨h0, h1, h2, h3, h4, h5, h6⟩ | ⟨h0, h1, h2, h3, h4, h5, h6, h7, h8⟩
      · have t26 : (x.op == 26) = false := by rw [h0]; decide
        have t28 : (x.op == 28) = false := by rw [h0]; decide
        have t31 : (x.op == 31) = false := by rw [h0]; decide
        have t24 : (x.op == 24) = false := by rw [h0]; decide
        have t25 : (x.op == 25) = false := by rw [h0]; decide
        have t38 : (x.op == 38) = true := by rw [h0]; decide
        have HEX := hid (show extraU p F K x = [x.c + 1] by unfold extraU; simp [h0])
        clear h0
        go_wp2_with fail
        refine (with_calls w.heap.size _ _ (x.c + 1) wo HI.out HLO.out (by have := HLN.out; omega)).mono ?_
        rintro e w3 ⟨v3, rfl, hi3, hb4, _⟩
        have HI3 := hid hi3
        have HB4 := hid (bvia HB3.out hb4)
        clear hi3 hb4
        go_wp2_with fail
        go_ret
        exact ⟨_, rfl, by rw [HEX.out, setL_snoc]; exact HI3.out, bvia HBW9.out HB4.out⟩
      · have t26 : (x.op == 26) = false := by rw [h0]; decide
        have t28 : (x.op == 28) = false := by rw [h0]; decide
        have t31 : (x.op == 31) = false := by rw [h0]; decide
        have t24 : (x.op == 24) = false := by rw [h0]; decide
        have t25 : (x.op == 25) = true := by rw [h0]; decide
        have HEX := hid (show extraU p F K x = [0] by unfold extraU; simp [h0])
        clear h0
        go_wp2_with fail
        refine (with_calls w.heap.size _ _ (0) wo HI.out HLO.out (by have := HLN.out; omega)).mono ?_
        rintro e w3 ⟨v3, rfl, hi3, hb4, _⟩
        have HI3 := hid hi3
        have HB4 := hid (bvia HB3.out hb4)
        clear hi3 hb4
        go_wp2_with fail
        go_ret
        exact ⟨_, rfl, by rw [HEX.out, setL_snoc]; exact HI3.out, bvia HBW9.out HB4.out⟩
      · have t26 : (x.op == 26) = false := by rw [h0]; decide
        have t28 : (x.op == 28) = false := by rw [h0]; decide
        have t31 : (x.op == 31) = false := by rw [h0]; decide
        have t24 : (x.op == 24) = true := by rw [h0]; decide
        have HEX := hid (show extraU p F K x = rng (x.a + 1) x.c.toNat by unfold extraU; simp [h0])
        clear h0
        obtain ⟨N, hN⟩ := Int.eq_ofNat_of_zero_le h2
        rw [hN, Int.toNat_natCast] at HEX
        have HN := hid hN
        have HRL := hid (show ∀ m : Nat, m ≤ N → (rng (x.a + 1) m).length ≤ 64 from fun m hm => by rw [rng_len]; omega)
        have HSUCC := hid (show ∀ m : Nat, rng (x.a + 1) (m + 1) = rng (x.a + 1) m ++ [x.a + 1 + m] from fun m => rng_succ _ m)
        have h4 : N ≤ 64 := by omega
        clear hN
        go_wp2_with fail
        go_loopw [7, 14] (fun v i wr => ∃ m J : Nat, m ≤ N ∧ J = 1 + m ∧ i = .int .i64 J ∧ IntsAt w.heap.size wr v (setL (rawU x 3 ++ rng (x.a + 1) m)) ∧ Below W9.heap.size W9 wr) (fun _ i _ => (1 + N - intOf i).toNat)
        case atStart => exact ⟨0, 1, Nat.zero_le _, rfl, rfl, by rw [show rng (x.a + 1) 0 = [] from rfl, List.append_nil]; exact HI.out, HB3.out⟩
        case round =>
          obtain ⟨m, J, hm, hJ, rfl, hown, hb6⟩ := hrel
          obtain ⟨wi, hwi⟩ : ∃ wi, wi = wr := ⟨_, rfl⟩
          subst hwi
          have HI6 := hid hown
          have HB6 := hid hb6
          have HJ := hid hJ
          have HLO6 := hid (Nat.le_trans HBW9.out.size hb6.size)
          have HLN6 := hid (show (setL (rawU x 3 ++ rng (x.a + 1) m)).length ≤ 1000 by have := setL_len (rawU x 3 ++ rng (x.a + 1) m); rw [List.length_append] at this; have := rawU_len x 3; have := HRL.out m hm; omega)
          have er := RX9.out.below hb6
          have f1 := er.2 1 _ rfl
          have f2 := er.2 2 _ rfl
          have f3 := er.2 3 _ rfl
          have f7 := er.1
          clear er d0 d3 d7
          rw [HN.out] at f3
          have hJ1 : 1 ≤ J := by omega
          have hJ2 : J ≤ 65 := by omega
          clear hown hb6
          by_cases hml : m < N
          · have q1 : (J : Int) ≤ N := by omega
            have HA := hid (show x.a + 1 + (m : Int) = x.a + J by omega)
            clear hJ
            go_wp2_with fail
            refine (with_calls w.heap.size _ _ (x.a + J) wi HI6.out HLO6.out (by have := HLN6.out; omega)).mono ?_
            rintro e w3 ⟨v3, rfl, hi3, hb4, _⟩
            have HI3 := hid hi3
            have HB4 := hid (bvia HB6.out hb4)
            clear hi3 hb4
            go_wp2_with fail
            go_roundw
            case rel => exact ⟨m + 1, J + 1, by omega, by have := HJ.out; omega, by go_num, by rw [HSUCC.out m, HA.out, ← List.append_assoc, setL_snoc]; exact HI3.out, HB4.out⟩
            case measure => simp [intOf] <;> omega
          · have HEQ := hid (show m = N by omega)
            rw [← HEQ.out] at HEX
            have q1 : (N : Int) < J := by omega
            clear hJ
            go_wp2_with fail
            go_ret
            exact ⟨_, rfl, by rw [HEX.out]; exact HI6.out, bvia HBW9.out HB6.out⟩
      · rcases h0 with h0 | h0 | h0
        · have t26 : (x.op == 26) = true := by rw [h0]; decide
          obtain ⟨B, hB⟩ := Int.eq_ofNat_of_zero_le h1
          have HEX := hid (show extraU p F K x = rng x.c (nth p.funcs x.b.toNat).params.toNat by unfold extraU; simp [h0])
          clear h0
          have HB' := hid hB
          rw [hB] at h2
          rw [hB, Int.toNat_natCast] at h5 h6
          obtain ⟨N, hN⟩ := Int.eq_ofNat_of_zero_le h5
          rw [hB, Int.toNat_natCast, hN, Int.toNat_natCast] at HEX
          have HRL := hid (show ∀ m : Nat, m ≤ N → (rng x.c m).length ≤ 64 from fun m hm => by rw [rng_len]; omega)
          have HSUCC := hid (show ∀ m : Nat, rng x.c (m + 1) = rng x.c m ++ [x.c + m] from fun m => rng_succ _ m)
          have hNl : N ≤ 64 := by omega
          have hBl : B < p.funcs.length := by omega
          have hBl2 : (B : Int) < p.funcs.length := by omega
          have g1 := HPAR.out B hBl
          rw [hN] at g1
          have HG1 := hid g1
          clear h5 h6 h1 hB g1 hN
          go_wp2_with fail
          go_loopw [7, 13] (fun v i wr => ∃ m J : Nat, m ≤ N ∧ J = m ∧ i = .int .i64 J ∧ IntsAt w.heap.size wr v (setL (rawU x 3 ++ rng x.c m)) ∧ Below W9.heap.size W9 wr) (fun _ i _ => (N - intOf i).toNat)
          case atStart => exact ⟨0, 0, Nat.zero_le _, rfl, rfl, by rw [show rng x.c 0 = [] from rfl, List.append_nil]; exact HI.out, HB3.out⟩
          case round =>
            obtain ⟨m, J, hm, hJ, rfl, hown, hb6⟩ := hrel
            obtain ⟨wi, hwi⟩ : ∃ wi, wi = wr := ⟨_, rfl⟩
            subst hwi
            have HI6 := hid hown
            have HB6 := hid hb6
            have HJ := hid hJ
            have HLO6 := hid (Nat.le_trans HBW9.out.size hb6.size)
            have HLN6 := hid (show (setL (rawU x 3 ++ rng x.c m)).length ≤ 1000 by have := setL_len (rawU x 3 ++ rng x.c m); rw [List.length_append] at this; have := rawU_len x 3; have := HRL.out m hm; omega)
            have er := RX9.out.below hb6
            have f1 := er.2 1 _ rfl
            have f2 := er.2 2 _ rfl
            have f3 := er.2 3 _ rfl
            have f7 := er.1
            clear er d0 d3 d7
            rw [HB'.out] at f2
            have hbw := bvia HBW9.out hb6
            have g1 := (hbw.cell (p := ⟨fb, _, none⟩) Hz1.out).trans HG1.out
            have z2 : fb < wi.heap.size := by have := hbw.size; have := Hz1.out; omega
            have er2 := RP9.out.below hb6
            have c0 := er2.2 0 _ rfl
            have c7 := er2.1
            clear hbw er2
            have hJ2 : J ≤ 65 := by omega
            clear hown hb6
            by_cases hml : m < N
            · have q1 : decide ((J : Int) < N) = true := by simp; omega
              have q1' : decide (J < N) = true := by simp; omega
              have q2' : decide (B < p.funcs.length) = true := by simp; omega
              have q3 : decide ((B : Int) < p.funcs.length) = true := by simp; omega
              have hJN : J < N := by omega
              have HA := hid (show x.c + (m : Int) = x.c + J by omega)
              clear hJ
              go_wp2_with fail
              refine (with_calls w.heap.size _ _ (x.c + J) wi HI6.out HLO6.out (by have := HLN6.out; omega)).mono ?_
              rintro e w3 ⟨v3, rfl, hi3, hb4, _⟩
              have HI3 := hid hi3
              have HB4 := hid (bvia HB6.out hb4)
              clear hi3 hb4
              go_wp2_with fail
              go_roundw
              case rel => exact ⟨m + 1, J + 1, by omega, by have := HJ.out; omega, by go_num, by rw [HSUCC.out m, HA.out, ← List.append_assoc, setL_snoc]; exact HI3.out, HB4.out⟩
              case measure => simp [intOf] <;> omega
            · have HEQ := hid (show m = N by omega)
              rw [← HEQ.out] at HEX
              have q1 : decide ((J : Int) < N) = false := by simp; omega
              have q1' : decide (J < N) = false := by simp; omega
              have q2' : decide (B < p.funcs.length) = true := by simp; omega
              have q3 : decide ((B : Int) < p.funcs.length) = true := by simp; omega
              clear hJ
              go_wp2_with fail
              go_ret
              exact ⟨_, rfl, by rw [HEX.out]; exact HI6.out, bvia HBW9.out HB6.out⟩
        · have t26 : (x.op == 26) = false := by rw [h0]; decide
          have t28 : (x.op == 28) = true := by rw [h0]; decide
          obtain ⟨B, hB⟩ := Int.eq_ofNat_of_zero_le h1
          have HEX := hid (show extraU p F K x = rng x.c (nth p.funcs x.b.toNat).params.toNat by unfold extraU; simp [h0])
          clear h0
          have HB' := hid hB
          rw [hB] at h2
          rw [hB, Int.toNat_natCast] at h5 h6
          obtain ⟨N, hN⟩ := Int.eq_ofNat_of_zero_le h5
          rw [hB, Int.toNat_natCast, hN, Int.toNat_natCast] at HEX
          have HRL := hid (show ∀ m : Nat, m ≤ N → (rng x.c m).length ≤ 64 from fun m hm => by rw [rng_len]; omega)
          have HSUCC := hid (show ∀ m : Nat, rng x.c (m + 1) = rng x.c m ++ [x.c + m] from fun m => rng_succ _ m)
          have hNl : N ≤ 64 := by omega
          have hBl : B < p.funcs.length := by omega
          have hBl2 : (B : Int) < p.funcs.length := by omega
          have g1 := HPAR.out B hBl
          rw [hN] at g1
          have HG1 := hid g1
          clear h5 h6 h1 hB g1 hN
          go_wp2_with fail
          go_loopw [7, 13] (fun v i wr => ∃ m J : Nat, m ≤ N ∧ J = m ∧ i = .int .i64 J ∧ IntsAt w.heap.size wr v (setL (rawU x 3 ++ rng x.c m)) ∧ Below W9.heap.size W9 wr) (fun _ i _ => (N - intOf i).toNat)
          case atStart => exact ⟨0, 0, Nat.zero_le _, rfl, rfl, by rw [show rng x.c 0 = [] from rfl, List.append_nil]; exact HI.out, HB3.out⟩
          case round =>
            obtain ⟨m, J, hm, hJ, rfl, hown, hb6⟩ := hrel
            obtain ⟨wi, hwi⟩ : ∃ wi, wi = wr := ⟨_, rfl⟩
            subst hwi
            have HI6 := hid hown
            have HB6 := hid hb6
            have HJ := hid hJ
            have HLO6 := hid (Nat.le_trans HBW9.out.size hb6.size)
            have HLN6 := hid (show (setL (rawU x 3 ++ rng x.c m)).length ≤ 1000 by have := setL_len (rawU x 3 ++ rng x.c m); rw [List.length_append] at this; have := rawU_len x 3; have := HRL.out m hm; omega)
            have er := RX9.out.below hb6
            have f1 := er.2 1 _ rfl
            have f2 := er.2 2 _ rfl
            have f3 := er.2 3 _ rfl
            have f7 := er.1
            clear er d0 d3 d7
            rw [HB'.out] at f2
            have hbw := bvia HBW9.out hb6
            have g1 := (hbw.cell (p := ⟨fb, _, none⟩) Hz1.out).trans HG1.out
            have z2 : fb < wi.heap.size := by have := hbw.size; have := Hz1.out; omega
            have er2 := RP9.out.below hb6
            have c0 := er2.2 0 _ rfl
            have c7 := er2.1
            clear hbw er2
            have hJ2 : J ≤ 65 := by omega
            clear hown hb6
            by_cases hml : m < N
            · have q1 : decide ((J : Int) < N) = true := by simp; omega
              have q1' : decide (J < N) = true := by simp; omega
              have q2' : decide (B < p.funcs.length) = true := by simp; omega
              have q3 : decide ((B : Int) < p.funcs.length) = true := by simp; omega
              have hJN : J < N := by omega
              have HA := hid (show x.c + (m : Int) = x.c + J by omega)
              clear hJ
              go_wp2_with fail
              refine (with_calls w.heap.size _ _ (x.c + J) wi HI6.out HLO6.out (by have := HLN6.out; omega)).mono ?_
              rintro e w3 ⟨v3, rfl, hi3, hb4, _⟩
              have HI3 := hid hi3
              have HB4 := hid (bvia HB6.out hb4)
              clear hi3 hb4
              go_wp2_with fail
              go_roundw
              case rel => exact ⟨m + 1, J + 1, by omega, by have := HJ.out; omega, by go_num, by rw [HSUCC.out m, HA.out, ← List.append_assoc, setL_snoc]; exact HI3.out, HB4.out⟩
              case measure => simp [intOf] <;> omega
            · have HEQ := hid (show m = N by omega)
              rw [← HEQ.out] at HEX
              have q1 : decide ((J : Int) < N) = false := by simp; omega
              have q1' : decide (J < N) = false := by simp; omega
              have q2' : decide (B < p.funcs.length) = true := by simp; omega
              have q3 : decide ((B : Int) < p.funcs.length) = true := by simp; omega
              clear hJ
              go_wp2_with fail
              go_ret
              exact ⟨_, rfl, by rw [HEX.out]; exact HI6.out, bvia HBW9.out HB6.out⟩
        · have t26 : (x.op == 26) = false := by rw [h0]; decide
          have t28 : (x.op == 28) = false := by rw [h0]; decide
          have t31 : (x.op == 31) = true := by rw [h0]; decide
          obtain ⟨B, hB⟩ := Int.eq_ofNat_of_zero_le h1
          have HEX := hid (show extraU p F K x = rng x.c (nth p.funcs x.b.toNat).params.toNat by unfold extraU; simp [h0])
          clear h0
          have HB' := hid hB
          rw [hB] at h2
          rw [hB, Int.toNat_natCast] at h5 h6
          obtain ⟨N, hN⟩ := Int.eq_ofNat_of_zero_le h5
          rw [hB, Int.toNat_natCast, hN, Int.toNat_natCast] at HEX
          have HRL := hid (show ∀ m : Nat, m ≤ N → (rng x.c m).length ≤ 64 from fun m hm => by rw [rng_len]; omega)
          have HSUCC := hid (show ∀ m : Nat, rng x.c (m + 1) = rng x.c m ++ [x.c + m] from fun m => rng_succ _ m)
          have hNl : N ≤ 64 := by omega
          have hBl : B < p.funcs.length := by omega
          have hBl2 : (B : Int) < p.funcs.length := by omega
          have g1 := HPAR.out B hBl
          rw [hN] at g1
          have HG1 := hid g1
          clear h5 h6 h1 hB g1 hN
          go_wp2_with fail
          go_loopw [7, 13] (fun v i wr => ∃ m J : Nat, m ≤ N ∧ J = m ∧ i = .int .i64 J ∧ IntsAt w.heap.size wr v (setL (rawU x 3 ++ rng x.c m)) ∧ Below W9.heap.size W9 wr) (fun _ i _ => (N - intOf i).toNat)
          case atStart => exact ⟨0, 0, Nat.zero_le _, rfl, rfl, by rw [show rng x.c 0 = [] from rfl, List.append_nil]; exact HI.out, HB3.out⟩
          case round =>
            obtain ⟨m, J, hm, hJ, rfl, hown, hb6⟩ := hrel
            obtain ⟨wi, hwi⟩ : ∃ wi, wi = wr := ⟨_, rfl⟩
            subst hwi
            have HI6 := hid hown
            have HB6 := hid hb6
            have HJ := hid hJ
            have HLO6 := hid (Nat.le_trans HBW9.out.size hb6.size)
            have HLN6 := hid (show (setL (rawU x 3 ++ rng x.c m)).length ≤ 1000 by have := setL_len (rawU x 3 ++ rng x.c m); rw [List.length_append] at this; have := rawU_len x 3; have := HRL.out m hm; omega)
            have er := RX9.out.below hb6
            have f1 := er.2 1 _ rfl
            have f2 := er.2 2 _ rfl
            have f3 := er.2 3 _ rfl
            have f7 := er.1
            clear er d0 d3 d7
            rw [HB'.out] at f2
            have hbw := bvia HBW9.out hb6
            have g1 := (hbw.cell (p := ⟨fb, _, none⟩) Hz1.out).trans HG1.out
            have z2 : fb < wi.heap.size := by have := hbw.size; have := Hz1.out; omega
            have er2 := RP9.out.below hb6
            have c0 := er2.2 0 _ rfl
            have c7 := er2.1
            clear hbw er2
            have hJ2 : J ≤ 65 := by omega
            clear hown hb6
            by_cases hml : m < N
            · have q1 : decide ((J : Int) < N) = true := by simp; omega
              have q1' : decide (J < N) = true := by simp; omega
              have q2' : decide (B < p.funcs.length) = true := by simp; omega
              have q3 : decide ((B : Int) < p.funcs.length) = true := by simp; omega
              have hJN : J < N := by omega
              have HA := hid (show x.c + (m : Int) = x.c + J by omega)
              clear hJ
              go_wp2_with fail
              refine (with_calls w.heap.size _ _ (x.c + J) wi HI6.out HLO6.out (by have := HLN6.out; omega)).mono ?_
              rintro e w3 ⟨v3, rfl, hi3, hb4, _⟩
              have HI3 := hid hi3
              have HB4 := hid (bvia HB6.out hb4)
              clear hi3 hb4
              go_wp2_with fail
              go_roundw
              case rel => exact ⟨m + 1, J + 1, by omega, by have := HJ.out; omega, by go_num, by rw [HSUCC.out m, HA.out, ← List.append_assoc, setL_snoc]; exact HI3.out, HB4.out⟩
              case measure => simp [intOf] <;> omega
            · have HEQ := hid (show m = N by omega)
              rw [← HEQ.out] at HEX
              have q1 : decide ((J : Int) < N) = false := by simp; omega
              have q1' : decide (J < N) = false := by simp; omega
              have q2' : decide (B < p.funcs.length) = true := by simp; omega
              have q3 : decide ((B : Int) < p.funcs.length) = true := by simp; omega
              clear hJ
              go_wp2_with fail
              go_ret
              exact ⟨_, rfl, by rw [HEX.out]; exact HI6.out, bvia HBW9.out HB6.out⟩
      · have t26 : (x.op == 26) = false := by rw [h0]; decide
        have t28 : (x.op == 28) = false := by rw [h0]; decide
        have t31 : (x.op == 31) = false := by rw [h0]; decide
        have t24 : (x.op == 24) = false := by rw [h0]; decide
        have t25 : (x.op == 25) = false := by rw [h0]; decide
        have t38 : (x.op == 38) = false := by rw [h0]; decide
        have t50 : (x.op == 50) = true := by rw [h0]; decide
        have HEX := hid (show extraU p F K x = casesL (nth p.funcs F).code K x.b.toNat by unfold extraU; simp [h0])
        clear h0
        rw [Int.toNat_natCast] at h4 h5 h8
        rw [HC.out] at h4 h5 h8 HEX
        obtain ⟨N, hN⟩ := Int.eq_ofNat_of_zero_le h6
        rw [hN] at h7 h8
        rw [hN, Int.toNat_natCast] at HEX
        have HN := hid hN
        have HRL := hid (show ∀ m : Nat, m ≤ N → (casesL C K m).length ≤ 16 from fun m hm => by have := casesL_len C K m; omega)
        have HSUCC := hid (show ∀ m : Nat, casesL C K (m + 1) = casesL C K m ++ caseL (nth C (K + 1 + m)) from fun m => rfl)
        clear hN
        go_wp2_with fail
        go_loopw [7, 15] (fun v i wr => ∃ m J : Nat, m ≤ N ∧ J = K + 1 + m ∧ i = .int .i64 J ∧ IntsAt w.heap.size wr v (setL (rawU x 3 ++ casesL C K m)) ∧ Below W9.heap.size W9 wr) (fun _ i _ => (K + 1 + N - intOf i).toNat)
        case atStart => exact ⟨0, K + 1, Nat.zero_le _, rfl, rfl, by rw [show casesL C K 0 = [] from rfl, List.append_nil]; exact HI.out, HB3.out⟩
        case round =>
          obtain ⟨m, J, hm, hJ, rfl, hown, hb6⟩ := hrel
          obtain ⟨wi, hwi⟩ : ∃ wi, wi = wr := ⟨_, rfl⟩
          subst hwi
          have HI6 := hid hown
          have HB6 := hid hb6
          have HJ := hid hJ
          have HLO6 := hid (Nat.le_trans HBW9.out.size hb6.size)
          have HLN6 := hid (show (setL (rawU x 3 ++ casesL C K m)).length ≤ 1000 by have := setL_len (rawU x 3 ++ casesL C K m); rw [List.length_append] at this; have := rawU_len x 3; have := HRL.out m hm; omega)
          have er := RX9.out.below hb6
          have f1 := er.2 1 _ rfl
          have f2 := er.2 2 _ rfl
          have f3 := er.2 3 _ rfl
          have f7 := er.1
          clear er d0 d3 d7
          rw [HN.out] at f2
          have er2 := RF9.out.below hb6
          have c3 := er2.2 3 _ rfl
          have c7 := er2.1
          clear er2
          have hJ2 : J ≤ 1010 := by omega
          have hK3 : K ≤ 1000 := by omega
          clear hown hb6
          by_cases hml : m < N
          · have hia : J < C.length := by omega
            have hia2 : (J : Int) < C.length := by omega
            have q1 : decide ((J : Int) ≤ K + N) = true := by simp; omega
            have hJN : J ≤ K + N := by omega
            have hbw := bvia HBW9.out HB6.out
            obtain ⟨_, c1f, c2f, c3f, z2⟩ := HCC.out
            have y1 := (hbw.cell (p := ⟨cb, _, none⟩) z2).trans (c1f J hia)
            have y2 := (hbw.cell (p := ⟨cb, _, none⟩) z2).trans (c2f J hia)
            have y7 : cb < wi.heap.size := by have := hbw.size; omega
            have HSM := hid (HSUCC.out m)
            rw [← hJ] at HSM
            have HY3 := hid (c3f J hia)
            obtain ⟨y, hy⟩ : ∃ y, nth C J = y := ⟨_, rfl⟩
            rw [hy] at y1 y2 HSM HY3
            clear c1f c2f c3f hbw hJ hy
            by_cases hyb : y.b = 1
            · have g5 : (y.b == 1) = true := beq_iff_eq.2 hyb
              have HCL := hid (show caseL y = [y.a, y.c] by unfold caseL; rw [if_pos hyb])
              clear hyb
              go_wp2_with fail
              refine (with_calls w.heap.size _ _ y.a wi HI6.out HLO6.out (by have := HLN6.out; omega)).mono ?_
              rintro e w3 ⟨v3, rfl, hi3, hb4, _⟩
              have HI3 := hid hi3
              have HB4 := hid (bvia HB6.out hb4)
              have hbw := bvia HBW9.out HB4.out
              have y2' := (bcell hb4).1 cb (co + J * 5 + 2) y7
              rw [y2] at y2'
              have y3' := (hbw.cell (p := ⟨cb, _, none⟩) z2).trans HY3.out
              have y7' : cb < w3.heap.size := by have := hbw.size; omega
              have er2 := RF9.out.below HB4.out
              have c3' := er2.2 3 _ rfl
              have c7' := er2.1
              have HLO3 := hid (Nat.le_trans HLO6.out hb4.size)
              clear hi3 hb4 hbw y1 y2 y7 c3 c7 f1 f2 f3 f7 er2
              go_wp2_with fail
              refine (with_calls w.heap.size _ _ y.c w3 HI3.out HLO3.out (by rw [← setL_snoc]; have := setL_len (rawU x 3 ++ casesL C K m ++ [y.a]); rw [List.length_append, List.length_append] at this; have := rawU_len x 3; have := HRL.out m hm; simp at *; omega)).mono ?_
              rintro e w4 ⟨v4, rfl, hi4, hb5, _⟩
              have HI4 := hid hi4
              have HB5 := hid (bvia HB4.out hb5)
              clear hi4 hb5
              go_wp2_with fail
              go_roundw
              case rel => exact ⟨m + 1, J + 1, by omega, by have := HJ.out; omega, by go_num, by rw [HSM.out, HCL.out, ← List.append_assoc, show [y.a, y.c] = [y.a] ++ [y.c] from rfl, ← List.append_assoc, setL_snoc, setL_snoc]; exact HI4.out, HB5.out⟩
              case measure => simp [intOf] <;> omega
            · have g5 : (y.b == 1) = false := beq_eq_false_iff_ne.2 hyb
              have HCL := hid (show caseL y = [y.a] by unfold caseL; rw [if_neg hyb])
              clear hyb
              go_wp2_with fail
              refine (with_calls w.heap.size _ _ y.a wi HI6.out HLO6.out (by have := HLN6.out; omega)).mono ?_
              rintro e w3 ⟨v3, rfl, hi3, hb4, _⟩
              have HI3 := hid hi3
              have HB4 := hid (bvia HB6.out hb4)
              have y2' := (bcell hb4).1 cb (co + J * 5 + 2) y7
              rw [y2] at y2'
              have y7' : cb < w3.heap.size := by have := hb4.size; omega
              have er2 := RF9.out.below HB4.out
              have c3' := er2.2 3 _ rfl
              have c7' := er2.1
              clear hi3 hb4 y1 y2 y7 c3 c7 f1 f2 f3 f7 er2
              go_wp2_with fail
              go_roundw
              case rel => exact ⟨m + 1, J + 1, by omega, by have := HJ.out; omega, by go_num, by rw [HSM.out, HCL.out, ← List.append_assoc, setL_snoc]; exact HI3.out, HB4.out⟩
              case measure => simp [intOf] <;> omega
          · have HEQ := hid (show m = N by omega)
            rw [← HEQ.out] at HEX
            have q1 : decide ((J : Int) ≤ K + N) = false := by simp; omega
            clear hJ
            go_wp2_with fail
            go_ret
            exact ⟨_, rfl, by rw [HEX.out]; exact HI6.out, bvia HBW9.out HB6.out⟩

end Go.Proofs.YteiohnfmlabelaaGreat
