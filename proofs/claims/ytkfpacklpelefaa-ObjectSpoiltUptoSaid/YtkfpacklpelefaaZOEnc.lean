/-
  Package object's Encode, walked.
-/
import Derived.Test.YtkfpacklpelefaaZKeepT
import Derived.Test.YtkfpacklpelefaaZCValid2
import Derived.Test.YtkfpacklpelefaaZEnc10
import Derived.Test.YtkfpacklpelefaaZText10
namespace Go.Proofs.Ytkfpacklpelefaa
set_option linter.unusedVariables false
set_option linter.unusedSimpArgs false
open Go.RowKit

set_option maxRecDepth 100000 in
set_option maxHeartbeats 2000000 in
theorem oencode_no (lo : Nat) (vf vg vl : Value) (p : Prg) (w : World) (hp : ProgAt lo w vf vg vl p) (hv : validB p = false) :
    Calls Try.prog 14 #[.agg #[vf, vg, vl, .int .i64 p.main]] w fun e w' => e = .returned (.tuple #[.slice none 0 0, .int .i64 1]) ∧ Below w.heap.size w w' := by
  have HP := hid hp
  have HV := hid hv
  clear hp hv
  go_enter Try.func14, Try.ntmps14
  go_wp2_with fail
  generalize hW : World.alloc _ _ = W
  have hbW : Below w.heap.size w W := by rw [← hW]; exact (Below.refl _ _).alloc (Nat.le_refl _) _
  have HBW := hid hbW
  clear hW hbW
  refine (cvalid_calls lo vf vg vl p W (HP.out.below HBW.out)).mono ?_
  rintro e w1 ⟨rfl, hb1⟩
  rw [HV.out]
  have HB1 := hid (bvia HBW.out hb1)
  clear hb1
  go_wp2_with fail
  go_ret2
  exact ⟨rfl, HB1.out⟩

theorem WrAt.alloc {base b : Nat} {w : World} {l : List UInt8} (h : WrAt base b w l) (o : Obj) : WrAt base b (w.alloc o) l := by
  obtain ⟨v, h1, h2, h3⟩ := h
  exact ⟨v, h1.alloc o, h2.alloc o, h3⟩
def insPart (a0 : Int) (x : Ins) : Nat → List UInt8
  | 0 => []
  | 1 => encN x.op
  | 2 => encN x.op ++ encN x.a
  | 3 => encN x.op ++ (encN x.a ++ encN x.b)
  | 4 => encN x.op ++ (encN x.a ++ (encN x.b ++ encN x.c))
  | _ => encIns a0 x
theorem insPart_le (a0 : Int) (x : Ins) (q : Nat) : (insPart a0 x q).length ≤ (encIns a0 x).length := by
  match q with
  | 0 => simp [insPart]
  | 1 => simp [insPart, encIns]
  | 2 => simp only [insPart, encIns, List.length_append]; omega
  | 3 => simp only [insPart, encIns, List.length_append]; omega
  | 4 => simp only [insPart, encIns, List.length_append]; omega
  | q + 5 => exact Nat.le_refl _

set_option maxRecDepth 200000 in
set_option maxHeartbeats 8000000 in
theorem oencode_yes (lo : Nat) (vf vg vl : Value) (p : Prg) (w : World) (hp : ProgAt lo w vf vg vl p) (hwf : PrgWf p) (hsz : (bodyL p).length ≤ 100000000000) (hv : validB p = true) :
    Calls Try.prog 14 #[.agg #[vf, vg, vl, .int .i64 p.main]] w fun e w' => ∃ v', e = .returned (.tuple #[v', .int .i64 0]) ∧ OwnE byteE w.heap.size 5 w' v' (fileL p) ∧ Below w.heap.size w w' := by
  have HP := hid hp
  have HWF := hid hwf
  have HSZ := hid hsz
  have HV := hid hv
  obtain ⟨fa, fc, fb, fo, FS, rfl, f1, f2, f3, f4, f5, f6, f7, _, fm, fn⟩ := hp.funcs.open
  obtain ⟨ga, gc, gb, go, rfl, g1, g2, g3, g4, _, gm, gn⟩ := hp.globs.open
  obtain ⟨la, lc, lb, lo', LS, rfl, l1, l2, l3, l4, _, lm, ln⟩ := hp.lays.open
  have HF := hid (And.intro f1 (And.intro f2 (And.intro f3 (And.intro f4 (And.intro f5 (And.intro f6 f7))))))
  have HGL := hid (And.intro g1 (And.intro g2 (And.intro g3 g4)))
  have HL := hid (And.intro l1 (And.intro l2 (And.intro l3 l4)))
  clear hp hwf hsz hv f1 f2 f3 f4 f5 f6 f7 g1 g2 g3 g4 l1 l2 l3 l4
  go_enter Try.func14, Try.ntmps14
  go_wp2_with fail
  generalize hW : World.alloc _ _ = W0
  have hbox0 := show BoxAt W0 w.heap.size 31 [.slice fa p.funcs.length fc, .slice ga p.globals.length gc, .slice la p.layouts.length lc, .int .i64 p.main] by rw [← hW]; exact BoxAt.new _ _ _ _ _ rfl rfl
  have hbW : Below w.heap.size w W0 := by rw [← hW]; exact (Below.refl _ _).alloc (Nat.le_refl _) _
  have HBW := hid hbW
  have HBOX0 := hid hbox0
  clear hW hbW hbox0
  refine (cvalid_calls lo _ _ _ p W0 (HP.out.below HBW.out)).mono ?_
  rintro e w1 ⟨rfl, hb1⟩
  rw [HV.out]
  have hbox1 := HBOX0.out.below hb1
  have HB1 := hid (bvia HBW.out hb1)
  have q0 := hbox1.cell 0 _ rfl
  have q1 := hbox1.cell 1 _ rfl
  have q2 := hbox1.cell 2 _ rfl
  have q3 := hbox1.cell 3 _ rfl
  have qz := hbox1.lt
  have HBOX1 := hid hbox1
  clear hb1 hbox1
  have kc : ∀ (C : Array Value) (n c : Nat), (convert 22 22 (.slice (some ⟨w1.heap.size, 0, none⟩) n c)).run Try.prog (w1.alloc (.cells C 5)) = .ok (.slice (some ⟨w1.heap.size, 0, none⟩) n c) (w1.alloc (.cells C 5 (C.size, C.size + 1))) := fun C n c => Go.Lib.run_convert_bytes_const (P := Try.prog) w1 22 5 C n c Try.underlying22 Try.underlying5
  go_wp2_with fail
  generalize hW2 : World.alloc (World.alloc _ _) _ = W
  have hbW2 : Below w1.heap.size w1 W := by rw [← hW2]; exact ((Below.refl _ _).alloc (Nat.le_refl _) _).alloc (by simp) _
  have hwr : WrAt w1.heap.size (w1.heap.size + 1) W magicL := by
    refine ⟨.slice (some ⟨w1.heap.size, 0, none⟩) 4 4, ?_, .inr ⟨w1.heap.size, #[.int .u8 105, .int .u8 108, .int .u8 118, .int .u8 49], (4, 5), rfl, Nat.le_refl _, ?_, rfl⟩, by omega⟩
    · rw [← hW2]
      exact BoxAt.new _ _ _ _ _ (by simp) rfl
    · rw [← hW2]
      exact (((Below.refl _ _).alloc (Nat.le_refl _) _).block w1.heap.size (by simp)).trans (heap_alloc_new _ _)
  have zW : w1.heap.size ≤ W.heap.size := hbW2.size
  have HBW2 := hid hbW2
  have HWR := hid hwr
  have HZW := hid zW
  clear hW2 hbW2 hwr zW kc
  have HCE := hid (show ∀ wx, KT w1.heap.size [47, 5] W wx → Below w.heap.size w wx ∧ wx.cell? ⟨w.heap.size, 0, none⟩ = some (.slice fa p.funcs.length fc) ∧ wx.cell? ⟨w.heap.size, 1, none⟩ = some (.slice ga p.globals.length gc) ∧ wx.cell? ⟨w.heap.size, 2, none⟩ = some (.slice la p.layouts.length lc) ∧ wx.cell? ⟨w.heap.size, 3, none⟩ = some (.int .i64 p.main) ∧ w.heap.size < wx.heap.size ∧ w1.heap.size ≤ wx.heap.size from fun wx hkt => by
    have hb1 := HBOX1.out.below HBW2.out
    have hbx := hb1.ofBlock (hkt.1.block _ HBOX1.out.lt)
    have hsz := HBOX1.out.lt
    exact ⟨bvia HB1.out (HBW2.out.trans hkt.1), hbx.cell 0 _ rfl, hbx.cell 1 _ rfl, hbx.cell 2 _ rfl, hbx.cell 3 _ rfl, hbx.lt, hkt.lt HZW.out⟩)
  clear q0 q1 q2 q3 qz
  refine (onum_calls w1.heap.size (w1.heap.size + 1) magicL (p.globals.length : Nat) W HWR.out (i64_len _ gn) (by decide) HZW.out).mono ?_
  rintro e w2 ⟨rfl, hw2, hk2⟩
  have HW2 := hid (show WrAt w1.heap.size (w1.heap.size + 1) w2 (stG p 0) by
    unfold stG
    rw [List.take_zero, List.flatMap_nil, List.append_nil]
    exact hw2.at)
  have HK2 := hid hk2
  obtain ⟨hbo, q0, q1, q2, q3, qz, hzo⟩ := HCE.out w2 hk2
  clear hw2 hk2 hbo hzo
  go_wp2_with fail
  go_loopw [34] (fun i wr => ∃ k : Nat, k ≤ p.globals.length ∧ i = .int .i64 k ∧ WrAt w1.heap.size (w1.heap.size + 1) wr (stG p k) ∧ KT w1.heap.size [47, 5] W wr) (fun i _ => p.globals.length - (intOf i).toNat)
  case atStart => exact ⟨0, Nat.zero_le _, rfl, HW2.out, HK2.out⟩
  case round =>
    clear HW2 HK2 q0 q1 q2 q3 qz
    obtain ⟨k, hk, rfl, hown, hkt⟩ := hrel
    obtain ⟨wo, hwo⟩ : ∃ wo, wo = wr := ⟨_, rfl⟩
    subst hwo
    have HOW := hid hown
    have HKT := hid hkt
    obtain ⟨hbo, q0, q1, q2, q3, qz, hzo⟩ := HCE.out wo hkt
    have HBO := hid hbo
    have HZO := hid hzo
    clear hown hkt hbo hzo
    by_cases hlt : k < p.globals.length
    · have hlt2 : (k : Int) < p.globals.length := Int.ofNat_lt.2 hlt
      obtain ⟨g1, g2, g3, g4⟩ := HGL.out
      have e1 := g1 (by omega)
      subst e1
      have zg := g4 (by omega)
      have y1 := (HBO.out.cell (p := ⟨gb, _, none⟩) zg).trans (g2 k hlt)
      have y2 := (HBO.out.cell (p := ⟨gb, _, none⟩) zg).trans (g3 k hlt)
      obtain ⟨x, hx⟩ : ∃ x, nth p.globals k = x := ⟨_, rfl⟩
      have HWX := hid (HWF.out.glob x (hx ▸ nth_mem _ k hlt))
      rw [hx] at y1 y2
      have HLEN := hid (Nat.le_trans (stG_pre p k).length_le HSZ.out)
      have HLEN2 := hid (show (stG p k ++ encT x.name).length ≤ 100000000000 by
        have := Nat.le_trans (stG_pre p (k + 1)).length_le HSZ.out
        rw [stG_snoc p k hlt, hx] at this
        unfold encGlob at this
        simp only [List.length_append] at this ⊢
        omega)
      have HNM := hid (show x.name.size ≤ 70368744177664 by
        have := HLEN2.out
        unfold encT at this
        simp only [List.length_append] at this
        have h2 : x.name.data.toList.length = x.name.size := by simp
        omega)
      have HSN := hid (stG_snoc p k hlt)
      rw [hx] at HSN
      clear g1 g2 g3 g4 hx q0 q1 q2 q3 qz
      go_wp2_with fail
      generalize hY : World.alloc _ _ = WY
      have hby := show BoxAt WY wo.heap.size 50 [.string x.name, .int .i64 x.kind] by rw [← hY]; exact BoxAt.new _ _ _ _ _ rfl rfl
      have hky := show KT w1.heap.size [47, 5] wo WY by rw [← hY]; exact KT.alloc _ wo _ HZO.out
      have HWY := hid (show WrAt w1.heap.size (w1.heap.size + 1) WY (stG p k) by rw [← hY]; exact HOW.out.alloc _)
      have HBY := hid hby
      have HKY := hid hky
      have HZY := hid (hky.lt HZO.out)
      clear hY hby hky y1 y2
      refine (otext_calls w1.heap.size (w1.heap.size + 1) (stG p k) x.name WY HWY.out (by have := HNM.out; omega) (by have := HLEN.out; omega) HZY.out).mono ?_
      rintro e w3 ⟨rfl, hw3, hk3⟩
      have hb3 := hk3.box HBY.out (by decide)
      have x1 := hb3.cell 1 _ rfl
      have xz := hb3.lt
      have HW3 := hid hw3.at
      have HK3 := hid (HKY.out.trans hk3)
      have HZ3 := hid (hk3.lt HZY.out)
      clear hw3 hk3 hb3
      go_wp2_with fail
      refine (onum_calls w1.heap.size (w1.heap.size + 1) (stG p k ++ encT x.name) x.kind w3 HW3.out HWX.out.2 (by have := HLEN2.out; omega) HZ3.out).mono ?_
      rintro e w4 ⟨rfl, hw4, hk4⟩
      have HW4 := hid (show WrAt w1.heap.size (w1.heap.size + 1) w4 (stG p (k + 1)) by
        rw [HSN.out]
        unfold encGlob
        rw [← List.append_assoc]
        exact hw4.at)
      have HK4 := hid ((HKT.out.trans HK3.out).trans hk4)
      clear hw4 hk4 x1 xz
      go_wp2_with fail
      exact ⟨⟨k + 1, by omega, by go_num, HW4.out, HK4.out⟩, by simp [intOf] <;> omega⟩
    · have hlt2 : ¬ (k : Int) < p.globals.length := by omega
      have HOE := hid (show WrAt w1.heap.size (w1.heap.size + 1) wo (stG p p.globals.length) by have := HOW.out; rwa [show k = p.globals.length by omega] at this)
      clear HOW
      go_wp2_with fail
      refine (onum_calls w1.heap.size (w1.heap.size + 1) (stG p p.globals.length) (p.layouts.length : Nat) wo HOE.out (i64_len _ ln) (by have := Nat.le_trans (stG_pre p p.globals.length).length_le HSZ.out; omega) HZO.out).mono ?_
      rintro e w5 ⟨rfl, hw5, hk5⟩
      have HW5 := hid (show WrAt w1.heap.size (w1.heap.size + 1) w5 (stL p 0) by rw [stL_zero]; exact hw5.at)
      have hk5' := HKT.out.trans hk5
      have HK5 := hid hk5'
      clear q0 q1 q2 q3 qz
      obtain ⟨hbo, q0, q1, q2, q3, qz, hzo⟩ := HCE.out w5 hk5'
      clear hw5 hk5 hk5' hbo hzo
      go_wp2_with fail
      clear HOE
      go_loopw [55] (fun i wr => ∃ k : Nat, k ≤ p.layouts.length ∧ i = .int .i64 k ∧ WrAt w1.heap.size (w1.heap.size + 1) wr (stL p k) ∧ KT w1.heap.size [47, 5] W wr) (fun i _ => p.layouts.length - (intOf i).toNat)
      case atStart => exact ⟨0, Nat.zero_le _, rfl, HW5.out, HK5.out⟩
      case round =>
        clear HW5 HK5 HBO HZO HKT q0 q1 q2 q3 qz
        obtain ⟨k, hk, rfl, hown, hkt⟩ := hrel
        obtain ⟨wo, hwo⟩ : ∃ wo, wo = wr := ⟨_, rfl⟩
        subst hwo
        have HOW := hid hown
        have HKT := hid hkt
        obtain ⟨hbo, q0, q1, q2, q3, qz, hzo⟩ := HCE.out wo hkt
        have HBO := hid hbo
        have HZO := hid hzo
        clear hown hkt hbo hzo
        by_cases hlt : k < p.layouts.length
        · have hlt2 : (k : Int) < p.layouts.length := Int.ofNat_lt.2 hlt
          obtain ⟨l1, l2, l3, l4⟩ := HL.out
          have e1 := l1 (by omega)
          subst e1
          have zl := l4 (by omega)
          have y1 := (HBO.out.cell (p := ⟨lb, _, none⟩) zl).trans (l2 k hlt)
          have HROW := hid (l3 k hlt)
          have HWR2 := hid (HWF.out.lay (nth p.layouts k) (nth_mem _ k hlt))
          clear l1 l2 l3 l4
          obtain ⟨r, hr⟩ : ∃ r, nth p.layouts k = r := ⟨_, rfl⟩
          have HR := hid hr
          rw [hr] at y1 HROW HWR2
          obtain ⟨rs, hrs⟩ : ∃ rs, LS k = rs := ⟨_, rfl⟩
          rw [hrs] at y1 HROW
          obtain ⟨ra, rc, rb, ro, er, p1, p2, p3, _, _, _, _⟩ := HROW.out.open
          obtain ⟨h1, h2, h3⟩ := Value.slice.inj er
          rw [h1, h3] at y1
          have HP := hid (And.intro p1 (And.intro p2 p3))
          have hrn : r.length ≤ 140737488355328 := by have := HWR2.out.1; omega
          clear hr hrs p1 p2 p3 er h1 h2 h3 q0 q1 q2 q3 qz
          go_wp2_with fail
          refine (onum_calls w1.heap.size (w1.heap.size + 1) (stL p k) (r.length : Nat) wo HOW.out (i64_len _ hrn) (by have := Nat.le_trans (stL_pre p k).length_le HSZ.out; omega) HZO.out).mono ?_
          rintro e w6 ⟨rfl, hw6, hk6⟩
          have HW6 := hid (show WrAt w1.heap.size (w1.heap.size + 1) w6 (stL p k ++ stLi r 0) by rw [stLi_zero]; exact hw6.at)
          have HK6 := hid (HKT.out.trans hk6)
          clear hw6 hk6 y1
          go_wp2_with fail
          go_loopw [65] (fun i wr => ∃ j : Nat, j ≤ r.length ∧ i = .int .i64 j ∧ WrAt w1.heap.size (w1.heap.size + 1) wr (stL p k ++ stLi r j) ∧ KT w1.heap.size [47, 5] W wr) (fun i _ => r.length - (intOf i).toNat)
          case atStart => exact ⟨0, Nat.zero_le _, rfl, HW6.out, HK6.out⟩
          case round =>
            clear HW6 HK6 HBO HZO HKT HOW
            obtain ⟨j, hj, rfl, hown, hkt⟩ := hrel
            obtain ⟨wi, hwi⟩ : ∃ wi, wi = wr := ⟨_, rfl⟩
            subst hwi
            have HOW := hid hown
            have HKT := hid hkt
            have HBO := hid (HCE.out wi hkt).1
            have HZO := hid (hkt.lt HZW.out)
            clear hown hkt
            by_cases hjl : j < r.length
            · have hjl2 : (j : Int) < r.length := Int.ofNat_lt.2 hjl
              obtain ⟨p1, p2, p3⟩ := HP.out
              have e2 := p1 (by omega)
              subst e2
              have zr := p3 (by omega)
              have y2 := (HBO.out.cell (p := ⟨rb, _, none⟩) zr).trans (p2 j hjl)
              have HX := hid (HWR2.out.2 (nth r j) (nth_mem _ j hjl))
              have HLEN := hid (Nat.le_trans (stLi_pre p k j hlt).length_le HSZ.out)
              rw [HR.out] at HLEN
              clear p1 p2 p3
              go_wp2_with fail
              refine (onum_calls w1.heap.size (w1.heap.size + 1) (stL p k ++ stLi r j) (nth r j) wi HOW.out HX.out (by have := HLEN.out; omega) HZO.out).mono ?_
              rintro e w7 ⟨rfl, hw7, hk7⟩
              have HW7 := hid (show WrAt w1.heap.size (w1.heap.size + 1) w7 (stL p k ++ stLi r (j + 1)) by rw [stLi_snoc r j hjl, ← List.append_assoc]; exact hw7.at)
              have HK7 := hid (HKT.out.trans hk7)
              clear hw7 hk7 y2
              go_wp2_with fail
              exact ⟨⟨j + 1, by omega, by go_num, HW7.out, HK7.out⟩, by simp [intOf] <;> omega⟩
            · have hjl2 : ¬ (j : Int) < r.length := by omega
              have HOE := hid (show WrAt w1.heap.size (w1.heap.size + 1) wi (stL p (k + 1)) by
                have := HOW.out
                rw [show j = r.length by omega, stLi_end, ← HR.out, ← stL_snoc p k hlt] at this
                exact this)
              clear HOW
              go_wp2_with fail
              exact ⟨⟨k + 1, by omega, by go_num, HOE.out, HKT.out⟩, by simp [intOf] <;> omega⟩
        · have hlt2 : ¬ (k : Int) < p.layouts.length := by omega
          have HOE := hid (show WrAt w1.heap.size (w1.heap.size + 1) wo (stL p p.layouts.length) by have := HOW.out; rwa [show k = p.layouts.length by omega] at this)
          clear HOW
          go_wp2_with fail
          refine (onum_calls w1.heap.size (w1.heap.size + 1) (stL p p.layouts.length) (p.funcs.length : Nat) wo HOE.out (i64_len _ fn) (by have := Nat.le_trans (stL_pre p p.layouts.length).length_le HSZ.out; omega) HZO.out).mono ?_
          rintro e w8 ⟨rfl, hw8, hk8⟩
          have HW8 := hid (show WrAt w1.heap.size (w1.heap.size + 1) w8 (stF p 0) by rw [stF_zero]; exact hw8.at)
          have hk8' := HKT.out.trans hk8
          have HK8 := hid hk8'
          clear q0 q1 q2 q3 qz
          obtain ⟨hbo, q0, q1, q2, q3, qz, hzo⟩ := HCE.out w8 hk8'
          clear hw8 hk8 hk8' hbo hzo
          go_wp2_with fail
          clear HOE
          go_loopw [82] (fun i wr => ∃ k : Nat, k ≤ p.funcs.length ∧ i = .int .i64 k ∧ WrAt w1.heap.size (w1.heap.size + 1) wr (stF p k) ∧ KT w1.heap.size [47, 5] W wr) (fun i _ => p.funcs.length - (intOf i).toNat)
          case atStart => exact ⟨0, Nat.zero_le _, rfl, HW8.out, HK8.out⟩
          case round =>
            clear HW8 HK8 HBO HZO HKT q0 q1 q2 q3 qz
            obtain ⟨k, hk, rfl, hown, hkt⟩ := hrel
            obtain ⟨wo, hwo⟩ : ∃ wo, wo = wr := ⟨_, rfl⟩
            subst hwo
            have HOW := hid hown
            have HKT := hid hkt
            obtain ⟨hbo, q0, q1, q2, q3, qz, hzo⟩ := HCE.out wo hkt
            have HBO := hid hbo
            have HZO := hid hzo
            clear hown hkt hbo hzo
            by_cases hlt : k < p.funcs.length
            · have hlt2 : (k : Int) < p.funcs.length := Int.ofNat_lt.2 hlt
              obtain ⟨f1, f2, f3, f4, f5, f6, f7⟩ := HF.out
              have e1 := f1 (by omega)
              subst e1
              have zf := f7 (by omega)
              have y1 := (HBO.out.cell (p := ⟨fb, _, none⟩) zf).trans (f2 k hlt)
              have y2 := (HBO.out.cell (p := ⟨fb, _, none⟩) zf).trans (f3 k hlt)
              have y3 := (HBO.out.cell (p := ⟨fb, _, none⟩) zf).trans (f4 k hlt)
              have y4 := (HBO.out.cell (p := ⟨fb, _, none⟩) zf).trans (f5 k hlt)
              have HCODE := hid (f6 k hlt)
              have HWF1 := hid (HWF.out.func (nth p.funcs k) (nth_mem _ k hlt))
              clear f1 f2 f3 f4 f5 f6 f7 q0 q1 q2 q3 qz
              obtain ⟨fs, hfs⟩ : ∃ fs, FS k = fs := ⟨_, rfl⟩
              rw [hfs] at y4 HCODE
              obtain ⟨f, hf⟩ : ∃ f, nth p.funcs k = f := ⟨_, rfl⟩
              rw [hf] at y1 y2 y3 y4 HCODE HWF1
              have hcn : f.code.length ≤ 140737488355328 := by have := HWF1.out.code; omega
              have HCN := hid hcn
              have HLEN := hid (fun j => Nat.le_trans (stFi_pre p k j hlt).length_le HSZ.out)
              rw [hf] at HLEN
              have HSN := hid (stF_snoc p k hlt)
              rw [hf] at HSN
              clear hf hfs hcn
              have HLK := hid (show (stF p k).length ≤ 100000000000 ∧ (stF p k ++ encT f.name).length ≤ 100000000000 ∧ (stF p k ++ (encT f.name ++ encN f.params)).length ≤ 100000000000 ∧ (stF p k ++ (encT f.name ++ (encN f.params ++ encN f.regs))).length ≤ 100000000000 ∧ f.name.size ≤ 70368744177664 by
                have := HLEN.out 0
                rw [stFi_zero] at this
                have h2 : f.name.data.toList.length = f.name.size := by simp
                have h3 : (encT f.name).length = (encN (f.name.data.toList.length : Nat)).length + f.name.data.toList.length := by unfold encT; rw [List.length_append]
                simp only [List.length_append] at this ⊢
                omega)
              go_wp2_with fail
              generalize hX : World.alloc _ _ = WX
              have hbx := show BoxAt WX wo.heap.size 55 [.string f.name, .int .i64 f.params, .int .i64 f.regs, .slice fs.a f.code.length fs.c] by rw [← hX]; exact BoxAt.new _ _ _ _ _ rfl rfl
              have HBX := hid hbx
              have hkx := show KT w1.heap.size [47, 5] wo WX by rw [← hX]; exact KT.alloc _ wo _ HZO.out
              have HOX := hid (show WrAt w1.heap.size (w1.heap.size + 1) WX (stF p k) by rw [← hX]; exact HOW.out.alloc _)
              have HKX := hid (HKT.out.trans hkx)
              have HZX := hid (hkx.lt HZO.out)
              have x0 := hbx.cell 0 _ rfl
              have xz := hbx.lt
              clear hX hbx hkx y1 y2 y3 y4 HOW
              refine (otext_calls w1.heap.size (w1.heap.size + 1) (stF p k) f.name WX HOX.out (by have := HLK.out; omega) (by have := HLK.out; omega) HZX.out).mono ?_
              rintro e wa ⟨rfl, hw, hkk⟩
              have HWA := hid hw.at
              have HKA := hid (HKX.out.trans hkk)
              have hba := hkk.box HBX.out (by decide)
              have HBA := hid hba
              have HZA := hid (hkk.lt HZX.out)
              have x1 := hba.cell 1 _ rfl
              have xza := hba.lt
              clear hw hkk hba x0 xz
              go_wp2_with fail
              refine (onum_calls w1.heap.size (w1.heap.size + 1) (stF p k ++ encT f.name) f.params wa HWA.out HWF1.out.params (by have := HLK.out; omega) HZA.out).mono ?_
              rintro e wb ⟨rfl, hw, hkk⟩
              have HWB := hid (show WrAt w1.heap.size (w1.heap.size + 1) wb (stF p k ++ (encT f.name ++ encN f.params)) by rw [← List.append_assoc]; exact hw.at)
              have HKB := hid (HKA.out.trans hkk)
              have hba := hkk.box HBA.out (by decide)
              have HBB := hid hba
              have HZB := hid (hkk.lt HZA.out)
              have x2 := hba.cell 2 _ rfl
              have xzb := hba.lt
              clear hw hkk hba x1 xza
              go_wp2_with fail
              refine (onum_calls w1.heap.size (w1.heap.size + 1) (stF p k ++ (encT f.name ++ encN f.params)) f.regs wb HWB.out HWF1.out.regs (by have := HLK.out; omega) HZB.out).mono ?_
              rintro e wc ⟨rfl, hw, hkk⟩
              have HWC := hid (show WrAt w1.heap.size (w1.heap.size + 1) wc (stF p k ++ (encT f.name ++ (encN f.params ++ encN f.regs))) by rw [← List.append_assoc (encT f.name), ← List.append_assoc]; exact hw.at)
              have HKC := hid (HKB.out.trans hkk)
              have hba := hkk.box HBB.out (by decide)
              have HBC := hid hba
              have HZC := hid (hkk.lt HZB.out)
              have x3 := hba.cell 3 _ rfl
              have xzc := hba.lt
              clear hw hkk hba x2 xzb
              go_wp2_with fail
              refine (onum_calls w1.heap.size (w1.heap.size + 1) (stF p k ++ (encT f.name ++ (encN f.params ++ encN f.regs))) (f.code.length : Nat) wc HWC.out (i64_len _ HCN.out) (by have := HLK.out; omega) HZC.out).mono ?_
              rintro e wd ⟨rfl, hw, hkk⟩
              have HWD := hid (show WrAt w1.heap.size (w1.heap.size + 1) wd (stF p k ++ stFi f 0) by
                have hh := hw.at
                rw [stFi_zero]
                simp only [List.append_assoc] at hh
                exact hh)
              have HKD := hid (HKC.out.trans hkk)
              have hba := hkk.box HBC.out (by decide)
              have HBD := hid hba
              have x3d := hba.cell 3 _ rfl
              have xzd := hba.lt
              clear hw hkk hba x3 xzc HKX HWA HKA HBA HZA HWB HKB HBB HZB HWC HKC HBC HZC HOX HBX HZX
              go_wp2_with fail
              go_loopw [13, 106] (fun la i wr => ∃ j : Nat, j ≤ f.code.length ∧ i = .int .i64 j ∧ la = .int .i64 (lastOf 0 (f.code.take j)) ∧ WrAt w1.heap.size (w1.heap.size + 1) wr (stF p k ++ stFi f j) ∧ KT w1.heap.size [47, 5] W wr ∧ BoxAt wr wo.heap.size 55 [.string f.name, .int .i64 f.params, .int .i64 f.regs, .slice fs.a f.code.length fs.c]) (fun _ i _ => f.code.length - (intOf i).toNat)
              case atStart => exact ⟨0, Nat.zero_le _, rfl, rfl, HWD.out, HKD.out, HBD.out⟩
              case round =>
                clear HWD HKD HBD HBO HKT HZO x3d xzd
                obtain ⟨j, hj, rfl, rfl, hown, hkt, hbx⟩ := hrel
                obtain ⟨wi, hwi⟩ : ∃ wi, wi = wr := ⟨_, rfl⟩
                subst hwi
                have HOW := hid hown
                have HKT := hid hkt
                have HBX := hid hbx
                have HBO := hid (HCE.out wi hkt).1
                have HZI := hid (hkt.lt HZW.out)
                clear hown hkt hbx
                by_cases hjl : j < f.code.length
                · have hjl2 : (j : Int) < f.code.length := Int.ofNat_lt.2 hjl
                  obtain ⟨ca, cc, cb, co, er, p1, p2, p3, p4, p5, p6, p7, _, _, _⟩ := HCODE.out.open
                  obtain ⟨h1, h2, h3⟩ := Value.slice.inj er
                  have e2 := p1 (by omega)
                  have zr := p7 (by omega)
                  have y0 := (HBO.out.cell (p := ⟨cb, _, none⟩) zr).trans (p2 j hjl)
                  have y1 := (HBO.out.cell (p := ⟨cb, _, none⟩) zr).trans (p3 j hjl)
                  have y2 := (HBO.out.cell (p := ⟨cb, _, none⟩) zr).trans (p4 j hjl)
                  have y3 := (HBO.out.cell (p := ⟨cb, _, none⟩) zr).trans (p5 j hjl)
                  have y4 := (HBO.out.cell (p := ⟨cb, _, none⟩) zr).trans (p6 j hjl)
                  rw [e2] at h1
                  have HX := hid (HWF1.out.ins (nth f.code j) (nth_mem _ j hjl))
                  have HSNI := hid (stFi_snoc f j hjl)
                  have HLAST := hid (last_snoc f.code j hjl)
                  obtain ⟨x, hx⟩ : ∃ x, nth f.code j = x := ⟨_, rfl⟩
                  rw [hx] at y0 y1 y2 y3 y4 HX HSNI HLAST
                  clear p1 p2 p3 p4 p5 p6 p7 er h2 h3 e2 hx
                  obtain ⟨a0, ha0⟩ : ∃ a0, lastOf 0 (f.code.take j) = a0 := ⟨_, rfl⟩
                  rw [ha0] at HSNI ⊢
                  clear ha0
                  obtain ⟨L, hL⟩ : ∃ L, stF p k ++ stFi f j = L := ⟨_, rfl⟩
                  rw [hL] at HOW
                  have HNEXT := hid (show stF p k ++ stFi f (j + 1) = L ++ encIns a0 x by rw [HSNI.out, ← hL, List.append_assoc])
                  have HLL := hid (show (L ++ encIns a0 x).length ≤ 100000000000 by rw [← HNEXT.out]; exact HLEN.out (j + 1))
                  have HLI := hid (fun q => show (L ++ insPart a0 x q).length ≤ 100000000000 from by
                    have h1 := HLL.out
                    have h2 := insPart_le a0 x q
                    simp only [List.length_append] at h1 ⊢
                    omega)
                  clear hL
                  rw [h1]
                  have j0 : ∀ (v0 v1 v2 v3 v4 : Int) w, (Instr.index 58 (.agg #[.int .i64 v0, .int .i64 v1, .int .i64 v2, .int .i64 v3, .int .i64 v4]) (.int .i64 0)).run Try.prog w = .ok (.int .i64 v0) w := fun _ _ _ _ _ _ => by kernel_rfl
                  have j1 : ∀ (v0 v1 v2 v3 v4 : Int) w, (Instr.index 58 (.agg #[.int .i64 v0, .int .i64 v1, .int .i64 v2, .int .i64 v3, .int .i64 v4]) (.int .i64 1)).run Try.prog w = .ok (.int .i64 v1) w := fun _ _ _ _ _ _ => by kernel_rfl
                  have j2 : ∀ (v0 v1 v2 v3 v4 : Int) w, (Instr.index 58 (.agg #[.int .i64 v0, .int .i64 v1, .int .i64 v2, .int .i64 v3, .int .i64 v4]) (.int .i64 2)).run Try.prog w = .ok (.int .i64 v2) w := fun _ _ _ _ _ _ => by kernel_rfl
                  have j3 : ∀ (v0 v1 v2 v3 v4 : Int) w, (Instr.index 58 (.agg #[.int .i64 v0, .int .i64 v1, .int .i64 v2, .int .i64 v3, .int .i64 v4]) (.int .i64 3)).run Try.prog w = .ok (.int .i64 v3) w := fun _ _ _ _ _ _ => by kernel_rfl
                  have j4 : ∀ (v0 v1 v2 v3 v4 : Int) w, (Instr.index 58 (.agg #[.int .i64 v0, .int .i64 v1, .int .i64 v2, .int .i64 v3, .int .i64 v4]) (.int .i64 4)).run Try.prog w = .ok (.int .i64 v4) w := fun _ _ _ _ _ _ => by kernel_rfl
                  go_wp2_with fail
                  generalize hX2 : World.alloc _ _ = WY
                  have hby := show BoxAt WY wi.heap.size 57 [.int .i64 x.op, .int .i64 x.a, .int .i64 x.b, .int .i64 x.c, .int .i64 x.pos] by rw [← hX2]; exact BoxAt.new _ _ _ _ _ rfl rfl
                  have HBY := hid hby
                  have hkx := show KT w1.heap.size [47, 5] wi WY by rw [← hX2]; exact KT.alloc _ wi _ HZI.out
                  have HOY := hid (show WrAt w1.heap.size (w1.heap.size + 1) WY L by rw [← hX2]; exact HOW.out.alloc _)
                  have HKY := hid (HKT.out.trans hkx)
                  have HFY := hid (hkx.box HBX.out (by decide))
                  clear hX2 hby hkx y0 y1 y2 y3 y4 HOW HBX HKT HBO HZI
                  go_loopw [123] (fun i wr => ∃ q : Nat, q ≤ 5 ∧ i = .int .i64 q ∧ WrAt w1.heap.size (w1.heap.size + 1) wr (L ++ insPart a0 x q) ∧ KT w1.heap.size [47, 5] W wr ∧ BoxAt wr wo.heap.size 55 [.string f.name, .int .i64 f.params, .int .i64 f.regs, .slice fs.a f.code.length fs.c] ∧ BoxAt wr wi.heap.size 57 [.int .i64 x.op, .int .i64 x.a, .int .i64 x.b, .int .i64 x.c, .int .i64 x.pos]) (fun i _ => 5 - (intOf i).toNat)
                  case atStart => exact ⟨0, by omega, rfl, by rw [show insPart a0 x 0 = [] from rfl, List.append_nil]; exact HOY.out, HKY.out, HFY.out, HBY.out⟩
                  case round =>
                    clear HOY HKY HFY HBY
                    obtain ⟨q, hq, rfl, hown, hkt, hfx, hix⟩ := hrel
                    obtain ⟨wq, hwq⟩ : ∃ wq, wq = wr := ⟨_, rfl⟩
                    subst hwq
                    have HOW := hid hown
                    have HKT := hid hkt
                    have HFX := hid hfx
                    have HIX := hid hix
                    have HZQ := hid (hkt.lt HZW.out)
                    have i4 := hix.cell 4 _ rfl
                    have iz := hix.lt
                    clear hown hkt hfx hix
                    have hq5 : q = 0 ∨ q = 1 ∨ q = 2 ∨ q = 3 ∨ q = 4 ∨ q = 5 := by omega
                    rcases hq5 with rfl | rfl | rfl | rfl | rfl | rfl
                    · rw [show ((0 : Nat) : Int) = 0 from rfl]
                      go_wp2_with fail
                      skip
                      refine (onum_calls w1.heap.size (w1.heap.size + 1) (L ++ insPart a0 x 0) x.op wq HOW.out HX.out.op (by have := HLI.out 0; omega) HZQ.out).mono ?_
                      rintro e wn ⟨rfl, hw, hkk⟩
                      have HWN := hid (show WrAt w1.heap.size (w1.heap.size + 1) wn (L ++ insPart a0 x 1) by
                        have hh := hw.at
                        rw [List.append_assoc, show insPart a0 x 0 ++ encN x.op = insPart a0 x 1 from rfl] at hh
                        exact hh)
                      have HKN := hid (HKT.out.trans hkk)
                      have HFN := hid (hkk.box HFX.out (by decide))
                      have HIN := hid (hkk.box HIX.out (by decide))
                      clear hw hkk i4 iz
                      go_wp2_with fail
                      exact ⟨⟨1, by omega, rfl, HWN.out, HKN.out, HFN.out, HIN.out⟩, by simp [intOf] <;> omega⟩
                    · rw [show ((1 : Nat) : Int) = 1 from rfl]
                      go_wp2_with fail
                      skip
                      refine (onum_calls w1.heap.size (w1.heap.size + 1) (L ++ insPart a0 x 1) x.a wq HOW.out HX.out.a (by have := HLI.out 1; omega) HZQ.out).mono ?_
                      rintro e wn ⟨rfl, hw, hkk⟩
                      have HWN := hid (show WrAt w1.heap.size (w1.heap.size + 1) wn (L ++ insPart a0 x 2) by
                        have hh := hw.at
                        rw [List.append_assoc, show insPart a0 x 1 ++ encN x.a = insPart a0 x 2 from rfl] at hh
                        exact hh)
                      have HKN := hid (HKT.out.trans hkk)
                      have HFN := hid (hkk.box HFX.out (by decide))
                      have HIN := hid (hkk.box HIX.out (by decide))
                      clear hw hkk i4 iz
                      go_wp2_with fail
                      exact ⟨⟨2, by omega, rfl, HWN.out, HKN.out, HFN.out, HIN.out⟩, by simp [intOf] <;> omega⟩
                    · rw [show ((2 : Nat) : Int) = 2 from rfl]
                      go_wp2_with fail
                      skip
                      refine (onum_calls w1.heap.size (w1.heap.size + 1) (L ++ insPart a0 x 2) x.b wq HOW.out HX.out.b (by have := HLI.out 2; omega) HZQ.out).mono ?_
                      rintro e wn ⟨rfl, hw, hkk⟩
                      have HWN := hid (show WrAt w1.heap.size (w1.heap.size + 1) wn (L ++ insPart a0 x 3) by
                        have hh := hw.at
                        rw [List.append_assoc, show insPart a0 x 2 ++ encN x.b = insPart a0 x 3 from List.append_assoc _ _ _] at hh
                        exact hh)
                      have HKN := hid (HKT.out.trans hkk)
                      have HFN := hid (hkk.box HFX.out (by decide))
                      have HIN := hid (hkk.box HIX.out (by decide))
                      clear hw hkk i4 iz
                      go_wp2_with fail
                      exact ⟨⟨3, by omega, rfl, HWN.out, HKN.out, HFN.out, HIN.out⟩, by simp [intOf] <;> omega⟩
                    · rw [show ((3 : Nat) : Int) = 3 from rfl]
                      go_wp2_with fail
                      skip
                      refine (onum_calls w1.heap.size (w1.heap.size + 1) (L ++ insPart a0 x 3) x.c wq HOW.out HX.out.c (by have := HLI.out 3; omega) HZQ.out).mono ?_
                      rintro e wn ⟨rfl, hw, hkk⟩
                      have HWN := hid (show WrAt w1.heap.size (w1.heap.size + 1) wn (L ++ insPart a0 x 4) by
                        have hh := hw.at
                        rw [List.append_assoc, show insPart a0 x 3 ++ encN x.c = insPart a0 x 4 from by show (encN x.op ++ (encN x.a ++ encN x.b)) ++ encN x.c = _; simp only [List.append_assoc]; rfl] at hh
                        exact hh)
                      have HKN := hid (HKT.out.trans hkk)
                      have HFN := hid (hkk.box HFX.out (by decide))
                      have HIN := hid (hkk.box HIX.out (by decide))
                      clear hw hkk i4 iz
                      go_wp2_with fail
                      exact ⟨⟨4, by omega, rfl, HWN.out, HKN.out, HFN.out, HIN.out⟩, by simp [intOf] <;> omega⟩
                    · rw [show ((4 : Nat) : Int) = 4 from rfl]
                      go_wp2_with fail
                      skip
                      refine (onum_calls w1.heap.size (w1.heap.size + 1) (L ++ insPart a0 x 4) (wrap64 (x.pos - a0)) wq HOW.out (w64_I64 _) (by have := HLI.out 4; omega) HZQ.out).mono ?_
                      rintro e wn ⟨rfl, hw, hkk⟩
                      have HWN := hid (show WrAt w1.heap.size (w1.heap.size + 1) wn (L ++ insPart a0 x 5) by
                        have hh := hw.at
                        rw [List.append_assoc, show insPart a0 x 4 ++ encN (wrap64 (x.pos - a0)) = insPart a0 x 5 from by show (encN x.op ++ (encN x.a ++ (encN x.b ++ encN x.c))) ++ encN (w64 (x.pos - a0)) = encIns a0 x; unfold encIns; simp only [List.append_assoc]] at hh
                        exact hh)
                      have HKN := hid (HKT.out.trans hkk)
                      have HFN := hid (hkk.box HFX.out (by decide))
                      have HIN := hid (hkk.box HIX.out (by decide))
                      clear hw hkk i4 iz
                      go_wp2_with fail
                      exact ⟨⟨5, by omega, rfl, HWN.out, HKN.out, HFN.out, HIN.out⟩, by simp [intOf] <;> omega⟩
                    · rw [show ((5 : Nat) : Int) = 5 from rfl]
                      go_wp2_with fail
                      refine ⟨⟨j + 1, by omega, by go_num, by rw [HLAST.out], ?_, HKT.out, by have := HFX.out; rw [h1] at this; exact this⟩, by simp [intOf] <;> omega⟩
                      rw [HNEXT.out]
                      exact HOW.out
                · have hjl2 : ¬ (j : Int) < f.code.length := by omega
                  have HOE := hid (show WrAt w1.heap.size (w1.heap.size + 1) wi (stF p (k + 1)) by
                    have := HOW.out
                    rw [show j = f.code.length by omega, stFi_end, ← HSN.out] at this
                    exact this)
                  clear HOW
                  go_wp2_with fail
                  exact ⟨⟨k + 1, by omega, by go_num, HOE.out, HKT.out⟩, by simp [intOf] <;> omega⟩
            · have hlt2 : ¬ (k : Int) < p.funcs.length := by omega
              have HOE := hid (show WrAt w1.heap.size (w1.heap.size + 1) wo (stF p p.funcs.length) by have := HOW.out; rwa [show k = p.funcs.length by omega] at this)
              clear HOW
              go_wp2_with fail
              refine (onum_calls w1.heap.size (w1.heap.size + 1) (stF p p.funcs.length) p.main wo HOE.out HWF.out.main (by have := Nat.le_trans (stF_pre p p.funcs.length).length_le HSZ.out; omega) HZO.out).mono ?_
              rintro e w9 ⟨rfl, ⟨v9, hbx9, ho, hb9⟩, hk⟩
              rw [← st_end] at ho
              obtain ⟨a9, c9, rfl⟩ := ho.anySlice
              have x0 := hbx9.cell 0 _ rfl
              have xz := hbx9.lt
              have HBX9 := hid hbx9
              have HO9 := hid ho
              have HK9 := hid (HKT.out.trans hk)
              clear ho hk q0 q1 q2 q3 qz hbx9
              go_wp2_with fail
              refine (osum_calls w1.heap.size _ (bodyL p) w9 (HO9.out.sl (Nat.le_refl _) (by have := HSZ.out; omega))).mono ?_
              rintro e w10 ⟨rfl, hb10⟩
              have HO10 := hid (show OwnM w1.heap.size w10 (.slice a9 (bodyL p).length c9) (bodyL p) from OwnM.ofBlock (.inl HO9.out) fun k hk => hb10.block k (HO9.out.lt k hk).2)
              have hbx10 := HBX9.out.below hb10
              have HK10 := hid (HK9.out.trans (KT.below _ hb10 (HK9.out.lt HZW.out)))
              clear hb10 x0 xz
              have x0 := hbx10.cell 0 _ rfl
              have xz := hbx10.lt
              clear hbx10
              go_wp2_with (
                at_builtin
                go_loud (
                  refine wpList_append_M (o := ⟨some 159, _, _, _, _, _⟩) rfl (.tmp 146) (.tmp 158) rfl w1.heap.size w10.heap.size (bodyL p) (sumBytes (sumB (bodyL p))) (by simp [sumBytes]) (HO10.out.alloc _) ((OwnE.lit byteE w10 w10.heap.size 5 (sumBytes (sumB (bodyL p))) #[Value.int .u8 ((natS (sumB (bodyL p)) : Nat) / 16777216 % 256), Value.int .u8 ((natS (sumB (bodyL p)) : Nat) / 65536 % 256), Value.int .u8 ((natS (sumB (bodyL p)) : Nat) / 256 % 256), Value.int .u8 ((natS (sumB (bodyL p)) : Nat) % 256)] w10.heap.size 4 rfl (Nat.le_refl _) rfl (lit_sum _) (by simp [sumBytes])).sl (Nat.le_refl _) (by simp [sumBytes])) (by have := HSZ.out; simp [sumBytes]; omega) (by have := HK10.out.lt HZW.out; simp; omega) ?_
                  intro v11 w11 ho11 hk11
                  have HO11 := hid ho11
                  have HK11 := hid ((HK10.out.trans (KT.alloc _ w10 _ (HK10.out.lt HZW.out))).trans (hk11.more (by simp)))
                  clear ho11 hk11))
              go_ret2
              exact ⟨_, rfl, HO11.out.mono (by have := HBOX1.out.lt; omega), bvia HB1.out (HBW2.out.trans HK11.out.1)⟩

end Go.Proofs.Ytkfpacklpelefaa
