/-
  Whether a program is valid, as package code checks it: the loops.
-/
import Derived.Test.YtealeofgfgbheaaZCValid
import Derived.Test.YtealeofgfgbheaaZRow
namespace Go.Proofs.Ytealeofgfgbheaa
set_option linter.unusedVariables false
set_option linter.unusedSimpArgs false
open Go.RowKit

theorem infoStr : (Try.prog.info? 9).map (fun i => (i.zero, i.size, i.bytes)) = some (some (.string ⟨#[]⟩), strE.sz, 16) := by kernel_rfl
def gNames (p : Prg) : List ByteArray := p.globals.map (·.name)
def fNames (p : Prg) : List ByteArray := p.funcs.map (·.name)
/-- What is left to check behind the early answers. -/
def restC (p : Prg) : Bool := p.layouts.all rowB && (p.globals.all (fun g => kindB g.kind) && (p.funcs.all (funcC p) && (uniqueB (fNames p) && uniqueB (gNames p))))
theorem take_snocV {α : Type} [Inhabited α] (l : List α) (k : Nat) (h : k < l.length) : l.take (k + 1) = l.take k ++ [nth l k] := by
  rw [List.take_add_one, List.getElem?_eq_getElem h, nth_eq _ _ h]; rfl
theorem rest_lay {p : Prg} (k : Nat) (hk : k < p.layouts.length) (h : rowB (nth p.layouts k) = false) : restC p = false := by
  simp [restC, all_false p.layouts rowB k hk h]
theorem rest_glob {p : Prg} (k : Nat) (hk : k < p.globals.length) (h : kindB (nth p.globals k).kind = false) : restC p = false := by
  simp [restC, all_false p.globals (fun g => kindB g.kind) k hk h]
theorem rest_fun {p : Prg} (k : Nat) (hk : k < p.funcs.length) (h : funcC p (nth p.funcs k) = false) : restC p = false := by
  simp [restC, all_false p.funcs (funcC p) k hk h]
theorem rest_end {p : Prg} (h1 : ∀ j, j < p.layouts.length → rowB (nth p.layouts j) = true) (h2 : ∀ j, j < p.globals.length → kindB (nth p.globals j).kind = true) (h3 : ∀ j, j < p.funcs.length → funcC p (nth p.funcs j) = true) : restC p = (uniqueB (fNames p) && uniqueB (gNames p)) := by
  unfold restC
  rw [all_true p.layouts rowB h1, all_true p.globals (fun g => kindB g.kind) h2, all_true p.funcs (funcC p) h3]; rfl

theorem OwnE.stay {α : Type} {E : Enc α} {base : Nat} {e : TypeId} {w w' : World} {v : Value} {l : List α} (h : OwnE E base e w v l) (hb : Below w.heap.size w w') : OwnE E base e w' v l := h.ofBlock fun k hk => hb.block k (h.lt k hk).2

set_option maxRecDepth 100000 in
set_option maxHeartbeats 8000000 in
theorem cvalid_main (lo : Nat) (ga la : Option Addr) (fb fo fc gc lc m : Nat) (p : Prg) (w : World) (h1 : p.funcs.length ≤ 64) (h2 : p.globals.length ≤ 64) (h3 : p.layouts.length ≤ 32) (hmm : p.main = m) (hm : btw m 0 ((p.funcs.length : Int) - 1) = true) (hmn : m < p.funcs.length)
    (hpar : (nth p.funcs m).params = 0) (hp : ProgAt lo w (.slice (some ⟨fb, fo, none⟩) p.funcs.length fc) (.slice ga p.globals.length gc) (.slice la p.layouts.length lc) p) :
    Calls Try.prog 27 #[.agg #[.slice (some ⟨fb, fo, none⟩) p.funcs.length fc, .slice ga p.globals.length gc, .slice la p.layouts.length lc, .int .i64 m]] w fun e w' => e = .returned (.bool (restC p)) ∧ Below w.heap.size w w' := by
  have g1 : decide (64 < (p.funcs.length : Int)) = false := decide_eq_false (by omega)
  have g2 : decide (64 < (p.globals.length : Int)) = false := decide_eq_false (by omega)
  have g3 : decide (32 < (p.layouts.length : Int)) = false := decide_eq_false (by omega)
  have hmn2 : (m : Int) < p.funcs.length := by omega
  obtain ⟨_, _, fb', fo', S, hfe, hfp, q0, q1, q2, q3, hcode, fbl, _, _, _⟩ := hp.funcs.open
  obtain ⟨_, _, gb, go, hge, hgp, r0, r1, gbl, _, _, _⟩ := hp.globs.open
  obtain ⟨_, _, lb, lo', T, hle, hlp, s0, hlay, lbl, _, _, _⟩ := hp.lays.open
  cases hfe
  cases hge
  cases hle
  have he := hfp (by omega)
  cases he
  have hfb := fbl (by omega)
  have d1 := q1 m hmn
  rw [hpar] at d1
  have hb1 : fb < w.heap.size + 1 := by omega
  have HP := hid hp
  have Q0 := hid q0
  have Q1 := hid q1
  have Q2 := hid q2
  have Q3 := hid q3
  have R0 := hid r0
  have R1 := hid r1
  have S0 := hid s0
  have HCODE := hid hcode
  have HLAY := hid hlay
  have HGP := hid hgp
  have HLP := hid hlp
  have GBL := hid gbl
  have LBL := hid lbl
  have HMM := hid hmm
  clear q0 q1 q2 q3 r0 r1 s0 hcode hlay hgp hlp gbl lbl fbl hfp hp hpar hmm
  go_enter Try.func27, Try.ntmps27
  go_wp2_with (go_at_call 44; refine (btw_calls _ _ _ _).mono ?_; rintro e w1 ⟨rfl, rfl⟩)
  generalize hW : World.alloc _ _ = W
  have hbW : Below w.heap.size w W := by rw [← hW]; exact (Below.refl _ _).alloc (Nat.le_refl _) _
  have HR := hid (show RowAt W w.heap.size [.slice (some ⟨fb, fo, none⟩) p.funcs.length fc, .slice ga p.globals.length gc, .slice la p.layouts.length lc, .int .i64 m] by
    rw [← hW]
    exact RowAt.new w _ _ _ _ rfl rfl)
  have HBW := hid hbW
  have hsz := hbW.size
  clear hW hbW d1 hb1 hm hmn2 g1 g2 g3
  go_loopw [49] (fun i wr => ∃ k : Nat, k ≤ p.layouts.length ∧ i = .int .i64 k ∧ (∀ j, j < k → rowB (nth p.layouts j) = true) ∧ wr = W) (fun i _ => p.layouts.length - (intOf i).toNat)
  case atStart => exact ⟨0, Nat.zero_le _, rfl, fun j hj => by omega, rfl⟩
  case round =>
    obtain ⟨k, hk, rfl, hall, rfl⟩ := hrel
    have HALL := hid hall
    clear hall
    by_cases hlt : k < p.layouts.length
    · have hlt2 : (k : Int) < p.layouts.length := by omega
      have e1 := HLP.out (by omega)
      subst e1
      have lb1 := LBL.out (by omega)
      have s1 := (HBW.out.cell (p := ⟨lb, lo' + k, none⟩) lb1).trans (S0.out k hlt)
      have lb2 : lb < wr.heap.size := by omega
      have HI := hid ((HLAY.out k hlt).below HBW.out)
      have hrn : (nth p.layouts k).length ≤ 140737488355328 := by
        obtain ⟨_, _, _, _, _, _, _, _, _, _, _, hz⟩ := HI.out.open
        exact hz
      have hRB : rowB (nth p.layouts k) = ((nth p.layouts k).all kindB && decide ((nth p.layouts k).length ≤ 64)) := rfl
      have HRB := hid hRB
      have hbad := rest_lay (p := p) k hlt
      have HBAD := hid hbad
      clear hRB hbad
      obtain ⟨row, hrow⟩ : ∃ row, nth p.layouts k = row := ⟨_, rfl⟩
      have HROW := hid hrow
      rw [hrow] at HI hrn HRB HBAD s1
      clear hrow
      by_cases hrl : row.length ≤ 64
      · have g5 : decide (64 < (row.length : Int)) = false := decide_eq_false (by omega)
        go_wp2_with fail
        refine (containsF_calls lo _ row _ HI.out).mono ?_
        rintro e w1 ⟨rfl, rfl⟩
        cases hx : row.all kindB with
        | true =>
          have HX := hid (show rowB row = true by rw [HRB.out, hx, decide_eq_true hrl]; rfl)
          clear hx
          go_wp2_with fail
          go_roundw
          case rel =>
            refine ⟨k + 1, by omega, by go_num, fun j hj => ?_, by first | rfl | trivial⟩
            rcases Nat.lt_or_ge j k with h5 | h5
            · exact HALL.out j h5
            · rw [show j = k by omega, HROW.out]; exact HX.out
          case measure => simp [intOf]; omega
        | false =>
          have HX := hid (show restC p = false from HBAD.out (by rw [HRB.out, hx]; rfl))
          clear hx
          go_wp2_with fail
          go_ret
          exact ⟨ret_bool (by rw [HX.out]), HBW.out⟩
      · have g5 : decide (64 < (row.length : Int)) = true := decide_eq_true (by omega)
        have HX := hid (show restC p = false from HBAD.out (by rw [HRB.out, decide_eq_false hrl, Bool.and_false]))
        go_wp2_with fail
        go_ret
        exact ⟨ret_bool (by rw [HX.out]), HBW.out⟩
    · obtain rfl : k = p.layouts.length := by omega
      obtain ⟨wa, hwa⟩ : ∃ wa, wa = wr := ⟨_, rfl⟩
      subst hwa
      have a1 := HR.out.2 1 _ rfl
      have s1 := HR.out.1
      go_wp2_with fail
      go_loopw [6, 64] (fun v6 i wq => ∃ (k : Nat), k ≤ p.globals.length ∧ i = .int .i64 k ∧ OwnE strE wa.heap.size 9 wq v6 ((gNames p).take k) ∧ (∀ j, j < k → kindB (nth p.globals j).kind = true) ∧ Below wa.heap.size wa wq) (fun _ i _ => p.globals.length - (intOf i).toNat)
      case atStart => exact ⟨0, Nat.zero_le _, rfl, by rw [List.take_zero]; exact OwnE.nil _ _ _ _, fun j hj => by omega, Below.refl _ _⟩
      case round =>
        obtain ⟨k, hk, rfl, hown, hkall, hbq⟩ := hrel
        obtain ⟨wo, hwo⟩ : ∃ wo, wo = wr := ⟨_, rfl⟩
        subst hwo
        have HOWN := hid hown
        have HKA := hid hkall
        have HBQ := hid hbq
        have hgl : (gNames p).length = p.globals.length := by simp [gNames]
        have z1 := hbq.size
        clear hown hkall hbq a1
        by_cases hlt : k < p.globals.length
        · have hlt2 : (k : Int) < p.globals.length := by omega
          have e1 := HGP.out (by omega)
          subst e1
          have gb1 := GBL.out (by omega)
          have c0 := (HBQ.out.cell (p := ⟨gb, _, none⟩) (show gb < wa.heap.size by omega)).trans ((HBW.out.cell (p := ⟨gb, _, none⟩) gb1).trans (R0.out k hlt))
          have c1 := (HBQ.out.cell (p := ⟨gb, _, none⟩) (show gb < wa.heap.size by omega)).trans ((HBW.out.cell (p := ⟨gb, _, none⟩) gb1).trans (R1.out k hlt))
          have gb2 : gb < wo.heap.size := by omega
          have HBAD := hid (rest_glob (p := p) k hlt)
          have HTK := hid (show (gNames p).take (k + 1) = (gNames p).take k ++ [(nth p.globals k).name] by rw [take_snocV _ _ (by omega)]; unfold gNames; rw [nth_map _ _ _ hlt])
          obtain ⟨gx, hgx⟩ : ∃ gx, nth p.globals k = gx := ⟨_, rfl⟩
          have HGX := hid hgx
          rw [hgx] at c0 c1 HBAD HTK
          clear hgx
          go_wp2_with fail
          generalize hG : World.alloc _ _ = wg
          have hbg : Below wo.heap.size wo wg := by rw [← hG]; exact (Below.refl _ _).alloc (Nat.le_refl _) _
          have hrg : RowAt wg wo.heap.size [.string gx.name, .int .i64 gx.kind] := by rw [← hG]; exact RowAt.new _ _ _ _ _ rfl rfl
          have HOG := hid (HOWN.out.stay hbg)
          have HBG := hid (HBQ.out.trans (hbg.mono z1))
          have b0 := hrg.2 0 _ rfl
          have b1 := hrg.2 1 _ rfl
          have b2 := hrg.1
          have z2 := hbg.size
          have hc1 : decide (0 ≤ gx.kind) = decide (0 ≤ gx.kind) := rfl
          clear hG hbg hrg c0 c1 hc1
          refine (kind_calls gx.kind _).mono ?_
          rintro e w1 ⟨rfl, rfl⟩
          cases hx : kindB gx.kind with
          | false =>
            have HX := hid (HBAD.out hx)
            clear hx
            go_wp2_with fail
            go_ret
            exact ⟨ret_bool (by rw [HX.out]), HBW.out.trans (HBG.out.mono HBW.out.size)⟩
          | true =>
            have HX := hid hx
            clear hx
            go_wp2_with (
              at_builtin
              go_loud (refine wpList_append_one strE (o := ⟨some 76, _, _, _, _, _⟩) rfl (.tmp 72) (.tmp 75) 72 rfl wa.heap.size w1.heap.size 9 _ 16 Try.underlying72 infoStr rfl ((gNames p).take k) gx.name (HOG.out.alloc _) ((OwnE.lit strE w1 w1.heap.size 9 [gx.name] _ w1.heap.size 1 rfl (Nat.le_refl _) rfl rfl (by simp)).sl (Nat.le_refl _) (by simp)) (by rw [List.length_take]; omega) (by rw [List.length_take]; simp only [maxLen]; omega) (by simp; omega) ?_)
              intro g2 cap2 w2 ho2 hg2 hl2 hb2
              have HO2 := hid ho2
              have HB2 := hid hb2
              clear ho2 hb2)
            go_roundw
            case rel =>
              refine ⟨k + 1, by omega, by go_num, by rw [HTK.out]; have h9 := HO2.out; rw [show ((gNames p).take k).length = k by rw [List.length_take]; omega] at h9; exact h9, fun j hj => ?_, HBG.out.trans (((Below.refl _ _).alloc (by omega) _).trans HB2.out)⟩
              rcases Nat.lt_or_ge j k with h5 | h5
              · exact HKA.out j h5
              · rw [show j = k by omega, HGX.out]; exact HX.out
            case measure => simp [intOf]; omega
        · obtain rfl : k = p.globals.length := by omega
          rw [List.take_of_length_le (by omega)] at HOWN
          have hr2 := HBQ.out
          have HR2 := hid (HR.out.below HBQ.out)
          have a0 := HR2.out.2 0 _ rfl
          have s3 := HR2.out.1
          clear hr2
          have hfl : (fNames p).length = p.funcs.length := by simp [fNames]
          have HFL := hid hfl
          have HGL := hid hgl
          have Z1 := hid z1
          clear hfl hgl
          go_wp2_with fail
          go_loopw [5, 81] (fun v5 i wq => ∃ (k : Nat), k ≤ p.funcs.length ∧ i = .int .i64 k ∧ OwnE strE wo.heap.size 9 wq v5 ((fNames p).take k) ∧ (∀ j, j < k → funcC p (nth p.funcs j) = true) ∧ Below wo.heap.size wo wq) (fun _ i _ => p.funcs.length - (intOf i).toNat)
          case atStart => exact ⟨0, Nat.zero_le _, rfl, by rw [List.take_zero]; exact OwnE.nil _ _ _ _, fun j hj => by omega, Below.refl _ _⟩
          case round =>
            obtain ⟨k, hk, rfl, hown3, hkall, hbq3⟩ := hrel
            obtain ⟨wx, hwx⟩ : ∃ wx, wx = wr := ⟨_, rfl⟩
            subst hwx
            have HOF := hid hown3
            have HFA := hid hkall
            have HBX := hid hbq3
            have z3 := hbq3.size
            have HBT := hid (HBW.out.trans ((HBQ.out.trans (hbq3.mono z1)).mono HBW.out.size))
            clear hown3 hkall hbq3 a0
            by_cases hlt : k < p.funcs.length
            · have hlt2 : (k : Int) < p.funcs.length := by omega
              have c0 := (HBT.out.cell (p := ⟨fb, _, none⟩) hfb).trans (Q0.out k hlt)
              have c1 := (HBT.out.cell (p := ⟨fb, _, none⟩) hfb).trans (Q1.out k hlt)
              have c2 := (HBT.out.cell (p := ⟨fb, _, none⟩) hfb).trans (Q2.out k hlt)
              have c3 := (HBT.out.cell (p := ⟨fb, _, none⟩) hfb).trans (Q3.out k hlt)
              have hfb2 : fb < wx.heap.size := by have := HBT.out.size; omega
              have HR3 := hid (HR2.out.below HBX.out)
              have a0 := HR3.out.2 0 _ rfl
              have a1 := HR3.out.2 1 _ rfl
              have a2 := HR3.out.2 2 _ rfl
              have a3 := HR3.out.2 3 _ rfl
              have s4 := HR3.out.1
              have HCD := hid (HCODE.out k hlt)
              have HBAD := hid (rest_fun (p := p) k hlt)
              have HTK := hid (show (fNames p).take (k + 1) = (fNames p).take k ++ [(nth p.funcs k).name] by rw [take_snocV _ _ (by rw [HFL.out]; exact hlt)]; unfold fNames; rw [nth_map _ _ _ hlt])
              obtain ⟨fx, hfx⟩ : ∃ fx, nth p.funcs k = fx := ⟨_, rfl⟩
              have HFX := hid hfx
              rw [hfx] at c0 c1 c2 c3 HBAD HTK HCD
              clear hfx
              go_wp2_with fail
              generalize hG : World.alloc _ _ = wg
              have hbg : Below wx.heap.size wx wg := by rw [← hG]; exact ((Below.refl _ _).alloc (Nat.le_refl _) _).alloc (by simp) _
              have hrg : RowAt wg wx.heap.size [.string fx.name, .int .i64 fx.params, .int .i64 fx.regs, .slice (S k).a fx.code.length (S k).c] := by
                rw [← hG]
                exact (RowAt.new wx _ _ _ _ rfl rfl).below ((Below.refl _ _).alloc (Nat.le_refl _) _)
              have HOG := hid (HOF.out.stay hbg)
              have HBG := hid (HBX.out.trans (hbg.mono z3))
              have HBGT := hid (HBT.out.trans (hbg.mono HBT.out.size))
              have hcall := funcC_calls lo lo _ _ _ _ p fx wg (HP.out.below HBGT.out) (HCD.out.below HBGT.out)
              rw [HMM.out] at hcall
              have z4 := hbg.size
              clear hG hbg c0 c1 c2 c3 a0 a1 a2 a3 s4
              refine hcall.mono ?_
              rintro e w5 ⟨rfl, hb5⟩
              have hr5 := hrg.below hb5
              have HO5 := hid (HOG.out.stay hb5)
              have HB5 := hid (HBG.out.trans (hb5.mono (by omega)))
              have b0 := hr5.2 0 _ rfl
              have b2 := hr5.1
              have z5 := hb5.size
              clear hb5 hrg hr5 hcall
              cases hx : funcC p fx with
              | false =>
                have HX := hid (HBAD.out hx)
                clear hx
                go_wp2_with fail
                go_ret
                exact ⟨ret_bool (by rw [HX.out]), HBW.out.trans ((HBQ.out.trans (HB5.out.mono z1)).mono HBW.out.size)⟩
              | true =>
                have HX := hid hx
                clear hx
                have hlk : ((fNames p).take k).length = k := by rw [List.length_take, HFL.out]; omega
                have HLK := hid hlk
                clear hlk
                go_wp2_with (
                  at_builtin
                  go_loud (refine wpList_append_one strE (o := ⟨some 95, _, _, _, _, _⟩) rfl (.tmp 91) (.tmp 94) 72 rfl wo.heap.size w5.heap.size 9 _ 16 Try.underlying72 infoStr rfl ((fNames p).take k) fx.name (HO5.out.alloc _) ((OwnE.lit strE w5 w5.heap.size 9 [fx.name] _ w5.heap.size 1 rfl (Nat.le_refl _) rfl rfl (by simp)).sl (Nat.le_refl _) (by simp)) (by rw [HLK.out]; omega) (by rw [HLK.out]; simp only [maxLen]; omega) (by simp; omega) ?_)
                  intro g2 cap2 w2 ho2 hg2 hl2 hb2
                  have HO2 := hid ho2
                  have HB2 := hid hb2
                  clear ho2 hb2)
                go_roundw
                case rel =>
                  refine ⟨k + 1, by omega, by go_num, by rw [HTK.out]; have h9 := HO2.out; first | exact h9 | (rw [List.length_take] at h9; exact h9) | (rw [HLK.out] at h9; exact h9), fun j hj => ?_, HB5.out.trans (((Below.refl _ _).alloc (by omega) _).trans HB2.out)⟩
                  rcases Nat.lt_or_ge j k with h5 | h5
                  · exact HFA.out j h5
                  · rw [show j = k by omega, HFX.out]; exact HX.out
                case measure => simp [intOf]; omega
            · obtain rfl : k = p.funcs.length := by omega
              have HEND := hid (rest_end HALL.out HKA.out HFA.out)
              rw [List.take_of_length_le (by rw [HFL.out]; exact Nat.le_refl _)] at HOF
              go_wp2_with fail
              refine (unique_calls _ _ _ (fNames p) HOF.out (by rw [HFL.out]; omega)).mono ?_
              rintro e w6 ⟨rfl, hb6⟩
              have HB6 := hid (HBT.out.trans (hb6.mono HBT.out.size))
              have HOG := hid ((HOWN.out.stay HBX.out).stay hb6)
              clear hb6
              cases hx : uniqueB (fNames p) with
              | false =>
                have HX := hid (show restC p = false by rw [HEND.out, hx]; rfl)
                clear hx
                go_wp2_with fail
                go_ret
                exact ⟨ret_bool (by rw [HX.out]), HB6.out⟩
              | true =>
                have HX := hid (show restC p = uniqueB (gNames p) by rw [HEND.out, hx]; rfl)
                clear hx
                go_wp2_with fail
                refine (unique_calls _ _ _ (gNames p) HOG.out (by rw [HGL.out]; omega)).mono ?_
                rintro e w7 ⟨rfl, hb7⟩
                have HB7 := hid (HB6.out.trans (hb7.mono HB6.out.size))
                clear hb7
                go_wp2_with fail
                go_ret
                exact ⟨ret_bool (by rw [HX.out]), HB7.out⟩

theorem cvalid_calls (lo : Nat) (vf vg vl : Value) (p : Prg) (w : World) (hp : ProgAt lo w vf vg vl p) :
    Calls Try.prog 27 #[.agg #[vf, vg, vl, .int .i64 p.main]] w fun e w' => e = .returned (.bool (validB p)) ∧ Below w.heap.size w w' := by
  rw [← validC_eq]
  obtain ⟨fa, fc, fb, fo, S, rfl, fp, f0, f1, f2, f3, fcode, fbl, _, _, fn⟩ := hp.funcs.open
  obtain ⟨ga, gc, gb, go, rfl, gp, g0, g1, gbl, _, _, gn⟩ := hp.globs.open
  obtain ⟨la, lc, lb, lo', LS, rfl, _, _, _, _, _, _, ln⟩ := hp.lays.open
  by_cases h : p.funcs.length ≤ 64 ∧ p.globals.length ≤ 64 ∧ p.layouts.length ≤ 32
  · obtain ⟨h1, h2, h3⟩ := h
    have e : validC p = (mainC p && restC p) := by
      unfold validC restC fNames gNames
      rw [decide_eq_true h1, decide_eq_true h2, decide_eq_true h3]; rfl
    rw [e]
    cases hm : btw p.main 0 ((p.funcs.length : Int) - 1) with
    | false =>
      have : mainC p = false := by unfold mainC; rw [hm]; rfl
      rw [this]
      exact cvalid_1 fa ga la _ fc _ gc _ lc p.main w h1 h2 h3 hm
    | true =>
      have hb : 0 ≤ p.main ∧ p.main ≤ (p.funcs.length : Int) - 1 := by simpa [btw] using hm
      obtain ⟨m, hmm⟩ := Int.eq_ofNat_of_zero_le hb.1
      have hmn : m < p.funcs.length := by omega
      have e1 := fp (by omega)
      subst e1
      have hfb := fbl (by omega)
      have hmt : p.main.toNat = m := by omega
      have e2 : mainC p = ((nth p.funcs m).params == 0) := by unfold mainC; rw [hm, hmt]; rfl
      rw [e2]
      by_cases hx : (nth p.funcs m).params = 0
      · rw [beq_iff_eq.2 hx, Bool.true_and, hmm]
        rw [hmm] at hm
        exact cvalid_main lo ga la fb fo fc gc lc m p w h1 h2 h3 hmm hm hmn hx hp
      · rw [beq_eq_false_iff_ne.2 hx, Bool.false_and, hmm]
        rw [hmm] at hm
        exact cvalid_2 ga la fb fo _ fc _ gc _ lc m _ w h1 h2 h3 hm hmn hfb (by omega) (f1 m hmn) (by simp [hx])
  · have e : validC p = false := by
      unfold validC
      by_cases h1 : p.funcs.length ≤ 64
      · by_cases h2 : p.globals.length ≤ 64
        · have h3 : ¬ p.layouts.length ≤ 32 := fun h3 => h ⟨h1, h2, h3⟩
          rw [decide_eq_false h3]; simp
        · rw [decide_eq_false h2]; simp
      · rw [decide_eq_false h1]; rfl
    rw [e]
    exact cvalid_0 fa ga la _ fc _ gc _ lc p.main w fn gn ln h

end Go.Proofs.Ytealeofgfgbheaa
