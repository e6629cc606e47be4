/-
  The reference's Bytes, walked.
-/
import Derived.Test.YtkfpacklpelefaaZBcell
import Derived.Test.YtkfpacklpelefaaZChain
import Derived.Test.YtkfpacklpelefaaZEnc10
import Derived.Test.YtkfpacklpelefaaZText10
namespace Go.Proofs.Ytkfpacklpelefaa
set_option linter.unusedVariables false
set_option linter.unusedSimpArgs false
open Go.RowKit

noncomputable def planB5 : Plan := mkPlan (regionOf Try.f20 5) [(7, .new), (14, .new)] []
noncomputable def planB20 : Plan := mkPlan (regionOf Try.f20 20) [(3, .new), (6, .new), (9, .new), (13, .new)] []
noncomputable def planB26 : Plan := mkPlan (regionOf Try.f20 26) [(3, .new), (6, .new), (9, .new), (12, .new), (17, .new)] []

set_option maxRecDepth 200000 in
set_option maxHeartbeats 8000000 in
theorem rbytes_calls (lo : Nat) (vf vg vl : Value) (p : Prg) (w : World) (hp : ProgAt lo w vf vg vl p) (hwf : PrgWf p) (hsz : (bodyL p).length ≤ 100000000000) :
    Calls Try.prog 20 #[.agg #[vf, vg, vl, .int .i64 p.main]] w fun e w' => ∃ v', e = .returned v' ∧ OwnE byteE w.heap.size 5 w' v' (fileL p) ∧ Below w.heap.size w w' := by
  have HP := hid hp
  have HWF := hid hwf
  have HSZ := hid hsz
  obtain ⟨fa, fc, fb, fo, FS, rfl, f1, f2, f3, f4, f5, f6, f7, _, fm, fn⟩ := hp.funcs.open
  obtain ⟨ga, gc, gb, go, rfl, g1, g2, g3, g4, _, gm, gn⟩ := hp.globs.open
  obtain ⟨la, lc, lb, lo', LS, rfl, l1, l2, l3, l4, _, lm, ln⟩ := hp.lays.open
  have HF := hid (And.intro f1 (And.intro f2 (And.intro f3 (And.intro f4 (And.intro f5 (And.intro f6 f7))))))
  have HGL := hid (And.intro g1 (And.intro g2 (And.intro g3 g4)))
  have HL := hid (And.intro l1 (And.intro l2 (And.intro l3 l4)))
  clear hp hwf hsz f1 f2 f3 f4 f5 f6 f7 g1 g2 g3 g4 l1 l2 l3 l4
  have kc : ∀ (B : Obj) (C : Array Value) (n c : Nat), (convert 22 22 (.slice (some ⟨w.heap.size + 1, 0, none⟩) n c)).run Try.prog ((w.alloc B).alloc (.cells C 5)) = .ok (.slice (some ⟨w.heap.size + 1, 0, none⟩) n c) ((w.alloc B).alloc (.cells C 5 (C.size, C.size + 1))) := fun B C n c => by
    have h := Go.Lib.run_convert_bytes_const (P := Try.prog) (w.alloc B) 22 5 C n c Try.underlying22 Try.underlying5
    rw [show (w.alloc B).heap.size = w.heap.size + 1 by simp] at h
    exact h
  go_enter Try.func20, Try.ntmps20
  go_wp2_with fail
  generalize hW : World.alloc (World.alloc _ _) _ = W
  have hbox := show BoxAt W w.heap.size 31 [.slice fa p.funcs.length fc, .slice ga p.globals.length gc, .slice la p.layouts.length lc, .int .i64 p.main] by
    rw [← hW]
    exact (BoxAt.new w _ _ _ _ rfl rfl).alloc _
  have hm : OwnM (w.heap.size + 1) W (.slice (some ⟨w.heap.size + 1, 0, none⟩) 4 4) magicL := by
    rw [← hW]
    refine .inr ⟨w.heap.size + 1, #[.int .u8 105, .int .u8 108, .int .u8 118, .int .u8 49], (4, 5), rfl, Nat.le_refl _, ?_, rfl⟩
    rw [show w.heap.size + 1 = (w.alloc (Obj.cells #[.slice fa p.funcs.length fc, .slice ga p.globals.length gc, .slice la p.layouts.length lc, .int .i64 p.main] 31)).heap.size by simp]
    exact heap_alloc_new _ _
  have hbW : Below w.heap.size w W := by rw [← hW]; exact ((Below.refl _ _).alloc (Nat.le_refl _) _).alloc (by simp) _
  have zW : w.heap.size + 1 ≤ W.heap.size := by rw [← hW]; simp
  have HBOX := hid hbox
  have HBW := hid hbW
  have HM := hid hm
  have HZW := hid zW
  clear hW hbox hbW hm zW kc
  refine (rnumber_calls (w.heap.size + 1) _ magicL p.globals.length W HM.out (i64_len _ gn) (by decide) HZW.out).mono ?_
  rintro e w1 ⟨v1, rfl, ho1, hk1⟩
  have HO1 := hid (show OwnM (w.heap.size + 1) w1 v1 (stG p 0) by
    unfold stG
    rw [List.take_zero, List.flatMap_nil, List.append_nil]
    exact .inl ho1)
  have HK1 := hid hk1
  clear ho1 hk1
  have HCE := hid (show ∀ wx, KT (w.heap.size + 1) [5] W wx → Below w.heap.size w wx ∧ wx.cell? ⟨w.heap.size, 0, none⟩ = some (.slice fa p.funcs.length fc) ∧ wx.cell? ⟨w.heap.size, 1, none⟩ = some (.slice ga p.globals.length gc) ∧ wx.cell? ⟨w.heap.size, 2, none⟩ = some (.slice la p.layouts.length lc) ∧ wx.cell? ⟨w.heap.size, 3, none⟩ = some (.int .i64 p.main) ∧ w.heap.size < wx.heap.size ∧ w.heap.size + 1 ≤ wx.heap.size from fun wx hkt => by
    have hbx := hkt.box HBOX.out (by decide)
    exact ⟨HBW.out.trans (hkt.1.mono (by omega)), hbx.cell 0 _ rfl, hbx.cell 1 _ rfl, hbx.cell 2 _ rfl, hbx.cell 3 _ rfl, hbx.lt, hkt.lt HZW.out⟩)
  go_wp2_with fail
  go_loopw [3, 4] (fun bv i wr => ∃ k : Nat, k ≤ p.globals.length ∧ i = .int .i64 k ∧ OwnM (w.heap.size + 1) wr bv (stG p k) ∧ KT (w.heap.size + 1) [5] W wr) (fun _ i _ => p.globals.length - (intOf i).toNat)
  case atStart => exact ⟨0, Nat.zero_le _, rfl, HO1.out, HK1.out⟩
  case round =>
    clear HO1 HK1
    obtain ⟨k, hk, rfl, hown, hkt⟩ := hrel
    obtain ⟨wo, hwo⟩ : ∃ wo, wo = wr := ⟨_, rfl⟩
    subst hwo
    have HOW := hid hown
    have HKT := hid hkt
    obtain ⟨hbo, q0, q1, q2, q3, qz, hzo⟩ := HCE.out wo hkt
    have HBO := hid hbo
    have HZO := hid hzo
    clear hbo hzo
    clear hown hkt
    by_cases hlt : k < p.globals.length
    · have hlt2 : (k : Int) < p.globals.length := Int.ofNat_lt.2 hlt
      obtain ⟨g1, g2, g3, g4⟩ := HGL.out
      have e1 := g1 (by omega)
      subst e1
      have zg := g4 (by omega)
      have y1 := (HBO.out.cell (p := ⟨gb, _, none⟩) zg).trans (g2 k hlt)
      have y2 := (HBO.out.cell (p := ⟨gb, _, none⟩) zg).trans (g3 k hlt)
      have zg2 : gb < w.heap.size + 1 := by omega
      have zp2 : w.heap.size < w.heap.size + 1 := by omega
      obtain ⟨x, hx⟩ : ∃ x, nth p.globals k = x := ⟨_, rfl⟩
      have HWX := hid (HWF.out.glob x (hx ▸ nth_mem _ k hlt))
      rw [hx] at y1 y2
      have HLEN := hid (Nat.le_trans (stG_pre p k).length_le HSZ.out)
      have HLEN2 := hid (show (stG p k ++ encT x.name).length ≤ 100000000000 by
        have := Nat.le_trans (stG_pre p (k + 1)).length_le HSZ.out
        rw [stG_snoc p k hlt, hx] at this
        unfold encGlob at this
        simp only [List.length_append] at this ⊢
        omega)
      have HNM := hid (show x.name.size ≤ 70368744177664 by
        have := HLEN2.out
        unfold encT at this
        simp only [List.length_append] at this
        have h2 : x.name.data.toList.length = x.name.size := by simp
        omega)
      have HSN := hid (stG_snoc p k hlt)
      rw [hx] at HSN
      clear g1 g2 g3 g4 hx
      go_wp2_with fail
      have HG := hid (fun (w' : World) (h : KT (w.heap.size + 1) [5] wo w') => bcellB h.1)
      refine Plan.wp_chainG planB5 (KT (w.heap.size + 1) [5] wo) (KT.drew _ wo HZO.out) (by kernel_rfl) rfl (by kernel_rfl) (by kernel_rfl) ?_
      repeat (first | (apply Plan.chain_skip rfl rfl; simp only [Act.put, List.setIfInBounds_toArray, List.set_cons_zero, List.set_cons_succ]) | (apply Plan.chain_det rfl rfl; (· intro w' hb; obtain ⟨hcl, hG⟩ := HG.out w' hb; go_simp; rfl); simp only [Act.put, List.setIfInBounds_toArray, List.set_cons_zero, List.set_cons_succ]))
      refine Plan.chain_call 31 #[u3, .string x.name] (fun v w' => OwnM (w.heap.size + 1) w' v (stG p k ++ encT x.name) ∧ KT (w.heap.size + 1) [5] wo w') rfl rfl rfl (by go_simp) ?_ (fun v w' h => h.2) (fun v3 w3 h => ?_)
      · refine (rtext_calls (w.heap.size + 1) u3 (stG p k) x.name wo.drew (HOW.out.ofBlock fun _ _ => rfl) (by have := HNM.out; omega) (by have := HLEN.out; omega) HZO.out).mono ?_
        rintro e w' ⟨v', rfl, h1, h2⟩
        exact ⟨_, rfl, .inl h1, (KT.drew _ wo HZO.out).trans h2⟩
      obtain ⟨h3, hk3⟩ := h
      have HO3 := hid h3
      have HK3 := hid hk3
      clear h3 hk3
      repeat (first | (apply Plan.chain_skip rfl rfl; simp only [Act.put, List.setIfInBounds_toArray, List.set_cons_zero, List.set_cons_succ]) | (apply Plan.chain_det rfl rfl; (· intro w' hb; obtain ⟨hcl, hG⟩ := HG.out w' hb; go_simp; rfl); simp only [Act.put, List.setIfInBounds_toArray, List.set_cons_zero, List.set_cons_succ]))
      refine Plan.chain_call 30 #[v3, .int .i64 x.kind] (fun v w' => OwnM (w.heap.size + 1) w' v (stG p (k + 1)) ∧ KT (w.heap.size + 1) [5] wo w') rfl rfl rfl (by go_simp) ?_ (fun v w' h => h.2) (fun v4 w4 h => ?_)
      · refine (rnumber_calls (w.heap.size + 1) v3 (stG p k ++ encT x.name) x.kind w3 HO3.out HWX.out.2 (by have := HLEN2.out; omega) (HK3.out.lt HZO.out)).mono ?_
        rintro e w' ⟨v', rfl, h1, h2⟩
        refine ⟨_, rfl, .inl ?_, HK3.out.trans h2⟩
        rw [HSN.out]
        unfold encGlob
        rw [← List.append_assoc]
        exact h1
      obtain ⟨h4, hk4⟩ := h
      have HO4 := hid h4
      have HK4 := hid (HKT.out.trans hk4)
      clear h4 hk4
      repeat (first | (apply Plan.chain_skip rfl rfl; simp only [Act.put, List.setIfInBounds_toArray, List.set_cons_zero, List.set_cons_succ]) | (apply Plan.chain_det rfl rfl; (· intro w' hb; obtain ⟨hcl, hG⟩ := HG.out w' hb; go_simp; rfl); simp only [Act.put, List.setIfInBounds_toArray, List.set_cons_zero, List.set_cons_succ]))
      refine Plan.chain_nil ?_
      clear q0 q1 q2 q3 qz
      go_wp2_with fail
      exact ⟨⟨k + 1, by omega, by go_num, HO4.out, HK4.out⟩, by simp [intOf] <;> omega⟩
    · have hlt2 : ¬ (k : Int) < p.globals.length := by omega
      have HOE := hid (show OwnM (w.heap.size + 1) wo u3 (stG p p.globals.length) by have := HOW.out; rwa [show k = p.globals.length by omega] at this)
      clear HOW
      go_wp2_with fail
      refine (rnumber_calls (w.heap.size + 1) u3 (stG p p.globals.length) (p.layouts.length : Nat) wo HOE.out (i64_len _ ln) (by have := Nat.le_trans (stG_pre p p.globals.length).length_le HSZ.out; omega) HZO.out).mono ?_
      rintro e w5 ⟨v5, rfl, ho, hk⟩
      have HO5 := hid (show OwnM (w.heap.size + 1) w5 v5 (stL p 0) by rw [stL_zero]; exact .inl ho)
      have HK5 := hid (HKT.out.trans hk)
      clear ho hk q0 q1 q2 q3 qz
      go_wp2_with fail
      clear HOE
      go_loopw [3, 5] (fun bv i wr => ∃ k : Nat, k ≤ p.layouts.length ∧ i = .int .i64 k ∧ OwnM (w.heap.size + 1) wr bv (stL p k) ∧ KT (w.heap.size + 1) [5] W wr) (fun _ i _ => p.layouts.length - (intOf i).toNat)
      case atStart => exact ⟨0, Nat.zero_le _, rfl, HO5.out, HK5.out⟩
      case round =>
        clear HO5 HK5 HBO HZO HKT
        obtain ⟨k, hk, rfl, hown, hkt⟩ := hrel
        obtain ⟨wo, hwo⟩ : ∃ wo, wo = wr := ⟨_, rfl⟩
        subst hwo
        have HOW := hid hown
        have HKT := hid hkt
        obtain ⟨hbo, q0, q1, q2, q3, qz, hzo⟩ := HCE.out wo hkt
        have HBO := hid hbo
        have HZO := hid hzo
        clear hbo hzo
        clear hown hkt
        by_cases hlt : k < p.layouts.length
        · have hlt2 : (k : Int) < p.layouts.length := Int.ofNat_lt.2 hlt
          obtain ⟨l1, l2, l3, l4⟩ := HL.out
          have e1 := l1 (by omega)
          subst e1
          have zl := l4 (by omega)
          have y1 := (HBO.out.cell (p := ⟨lb, _, none⟩) zl).trans (l2 k hlt)
          have HROW := hid (l3 k hlt)
          have HWR := hid (HWF.out.lay (nth p.layouts k) (nth_mem _ k hlt))
          have HLC := hid (l2 k hlt)
          clear l1 l2 l3 l4
          obtain ⟨r, hr⟩ : ∃ r, nth p.layouts k = r := ⟨_, rfl⟩
          have HR := hid hr
          rw [hr] at y1 HROW HWR HLC
          obtain ⟨rs, hrs⟩ : ∃ rs, LS k = rs := ⟨_, rfl⟩
          rw [hrs] at y1 HROW HLC
          have hrn : r.length ≤ 140737488355328 := by have := HWR.out.1; omega
          clear hr hrs
          go_wp2_with fail
          refine (rnumber_calls (w.heap.size + 1) u3 (stL p k) (r.length : Nat) wo HOW.out (i64_len _ hrn) (by have := Nat.le_trans (stL_pre p k).length_le HSZ.out; omega) HZO.out).mono ?_
          rintro e w6 ⟨v6, rfl, ho, hk'⟩
          have HO6 := hid (show OwnM (w.heap.size + 1) w6 v6 (stL p k ++ stLi r 0) by rw [stLi_zero]; exact .inl ho)
          have HK6 := hid (HKT.out.trans hk')
          clear ho hk' q0 q1 q2 q3 qz y1
          go_wp2_with fail
          go_loopw [3, 6] (fun bv i wr => ∃ j : Nat, j ≤ r.length ∧ i = .int .i64 j ∧ OwnM (w.heap.size + 1) wr bv (stL p k ++ stLi r j) ∧ KT (w.heap.size + 1) [5] W wr) (fun _ i _ => r.length - (intOf i).toNat)
          case atStart => exact ⟨0, Nat.zero_le _, rfl, HO6.out, HK6.out⟩
          case round =>
            clear HO6 HK6 HBO HZO HKT HOW
            obtain ⟨j, hj, rfl, hown, hkt⟩ := hrel
            obtain ⟨wi, hwi⟩ : ∃ wi, wi = wr := ⟨_, rfl⟩
            subst hwi
            have HOW := hid hown
            have HKT := hid hkt
            obtain ⟨hbo, q0, q1, q2, q3, qz, hzo⟩ := HCE.out wi hkt
            have HBO := hid hbo
            have HZO := hid hzo
            clear hbo hzo
            clear hown hkt
            have y1 := (HBO.out.cell (p := ⟨lb, _, none⟩) zl).trans HLC.out
            by_cases hjl : j < r.length
            · have hjl2 : (j : Int) < r.length := Int.ofNat_lt.2 hjl
              obtain ⟨ra, rc, rb, ro, er, p1, p2, p3, _, _, _, _⟩ := HROW.out.open
              obtain ⟨h1, h2, h3⟩ := Value.slice.inj er
              have e2 := p1 (by omega)
              have zr := p3 (by omega)
              have y2 := (HBO.out.cell (p := ⟨rb, _, none⟩) zr).trans (p2 j hjl)
              rw [h1, e2] at y1
              have HX := hid (HWR.out.2 (nth r j) (nth_mem _ j hjl))
              have HLEN := hid (Nat.le_trans (stLi_pre p k j hlt).length_le HSZ.out)
              rw [HR.out] at HLEN
              clear p1 p2 p3 er h1 h2 h3 e2
              go_wp2_with fail
              refine (rnumber_calls (w.heap.size + 1) u3 (stL p k ++ stLi r j) (nth r j) wi HOW.out HX.out (by have := HLEN.out; omega) HZO.out).mono ?_
              rintro e w7 ⟨v7, rfl, ho, hk'⟩
              have HO7 := hid (show OwnM (w.heap.size + 1) w7 v7 (stL p k ++ stLi r (j + 1)) by rw [stLi_snoc r j hjl, ← List.append_assoc]; exact .inl ho)
              have HK7 := hid (HKT.out.trans hk')
              clear ho hk' q0 q1 q2 q3 qz y1 y2
              go_wp2_with fail
              exact ⟨⟨j + 1, by omega, by go_num, HO7.out, HK7.out⟩, by simp [intOf] <;> omega⟩
            · have hjl2 : ¬ (j : Int) < r.length := by omega
              have HOE := hid (show OwnM (w.heap.size + 1) wi u3 (stL p (k + 1)) by
                have := HOW.out
                rw [show j = r.length by omega, stLi_end, ← HR.out, ← stL_snoc p k hlt] at this
                exact this)
              clear HOW
              go_wp2_with fail
              exact ⟨⟨k + 1, by omega, by go_num, HOE.out, HKT.out⟩, by simp [intOf] <;> omega⟩
        · have hlt2 : ¬ (k : Int) < p.layouts.length := by omega
          have HOE := hid (show OwnM (w.heap.size + 1) wo u3 (stL p p.layouts.length) by have := HOW.out; rwa [show k = p.layouts.length by omega] at this)
          clear HOW
          go_wp2_with fail
          refine (rnumber_calls (w.heap.size + 1) u3 (stL p p.layouts.length) (p.funcs.length : Nat) wo HOE.out (i64_len _ fn) (by have := Nat.le_trans (stL_pre p p.layouts.length).length_le HSZ.out; omega) HZO.out).mono ?_
          rintro e w8 ⟨v8, rfl, ho, hk⟩
          have HO8 := hid (show OwnM (w.heap.size + 1) w8 v8 (stF p 0) by rw [stF_zero]; exact .inl ho)
          have HK8 := hid (HKT.out.trans hk)
          clear ho hk q0 q1 q2 q3 qz
          go_wp2_with fail
          clear HOE
          go_loopw [3, 7] (fun bv i wr => ∃ k : Nat, k ≤ p.funcs.length ∧ i = .int .i64 k ∧ OwnM (w.heap.size + 1) wr bv (stF p k) ∧ KT (w.heap.size + 1) [5] W wr) (fun _ i _ => p.funcs.length - (intOf i).toNat)
          case atStart => exact ⟨0, Nat.zero_le _, rfl, HO8.out, HK8.out⟩
          case round =>
            clear HO8 HK8 HBO HZO HKT
            obtain ⟨k, hk, rfl, hown, hkt⟩ := hrel
            obtain ⟨wo, hwo⟩ : ∃ wo, wo = wr := ⟨_, rfl⟩
            subst hwo
            have HOW := hid hown
            have HKT := hid hkt
            obtain ⟨hbo, q0, q1, q2, q3, qz, hzo⟩ := HCE.out wo hkt
            have HBO := hid hbo
            have HZO := hid hzo
            clear hbo hzo
            clear hown hkt
            by_cases hlt : k < p.funcs.length
            · have hlt2 : (k : Int) < p.funcs.length := Int.ofNat_lt.2 hlt
              obtain ⟨f1, f2, f3, f4, f5, f6, f7⟩ := HF.out
              have e1 := f1 (by omega)
              subst e1
              have zf := f7 (by omega)
              have y1 := (HBO.out.cell (p := ⟨fb, _, none⟩) zf).trans (f2 k hlt)
              have y2 := (HBO.out.cell (p := ⟨fb, _, none⟩) zf).trans (f3 k hlt)
              have y3 := (HBO.out.cell (p := ⟨fb, _, none⟩) zf).trans (f4 k hlt)
              have y4 := (HBO.out.cell (p := ⟨fb, _, none⟩) zf).trans (f5 k hlt)
              have HCODE := hid (f6 k hlt)
              have HWF1 := hid (HWF.out.func (nth p.funcs k) (nth_mem _ k hlt))
              clear f1 f2 f3 f4 f5 f6 f7
              obtain ⟨f, hf⟩ : ∃ f, nth p.funcs k = f := ⟨_, rfl⟩
              have HFF := hid hf
              rw [hf] at y1 y2 y3 y4 HCODE HWF1
              obtain ⟨fs, hfs⟩ : ∃ fs, FS k = fs := ⟨_, rfl⟩
              rw [hfs] at y4 HCODE
              have hcn : f.code.length ≤ 140737488355328 := by have := HWF1.out.code; omega
              have HCN := hid hcn
              have HLEN := hid (fun j => Nat.le_trans (stFi_pre p k j hlt).length_le HSZ.out)
              rw [hf] at HLEN
              have HSN := hid (stF_snoc p k hlt)
              rw [hf] at HSN
              clear hf hfs hcn
              have HLK := hid (show (stF p k).length ≤ 100000000000 ∧ (stF p k ++ encT f.name).length ≤ 100000000000 ∧ (stF p k ++ (encT f.name ++ encN f.params)).length ≤ 100000000000 ∧ (stF p k ++ (encT f.name ++ (encN f.params ++ encN f.regs))).length ≤ 100000000000 ∧ f.name.size ≤ 70368744177664 by
                have := HLEN.out 0
                rw [stFi_zero] at this
                have h2 : f.name.data.toList.length = f.name.size := by simp
                have h3 : (encT f.name).length = (encN (f.name.data.toList.length : Nat)).length + f.name.data.toList.length := by unfold encT; rw [List.length_append]
                simp only [List.length_append] at this ⊢
                omega)
              go_wp2_with fail
              generalize hX : World.alloc _ _ = WX
              have hbx := show BoxAt WX wo.heap.size 55 [.string f.name, .int .i64 f.params, .int .i64 f.regs, .slice fs.a f.code.length fs.c] by rw [← hX]; exact BoxAt.new _ _ _ _ _ rfl rfl
              have HBX := hid hbx
              have hkx := show KT (w.heap.size + 1) [5] wo WX by rw [← hX]; exact KT.alloc _ wo _ HZO.out
              have HOX := hid (show OwnM (w.heap.size + 1) WX u3 (stF p k) by rw [← hX]; exact HOW.out.alloc _)
              have HKX := hid (HKT.out.trans hkx)
              have HZX := hid (hkx.lt HZO.out)
              have x0 := hbx.cell 0 _ rfl
              have x1 := hbx.cell 1 _ rfl
              have x2 := hbx.cell 2 _ rfl
              have x3 := hbx.cell 3 _ rfl
              have xz := hbx.lt
              clear hX hbx hkx y1 y2 y3 y4 HOW q0 q1 q2 q3 qz
              have HG := hid (show ∀ w', KT (w.heap.size + 1) [5] WX w' → (∀ b o, b < w.heap.size + 1 → w'.cell? ⟨b, o, none⟩ = WX.cell? ⟨b, o, none⟩) ∧ (w'.cell? ⟨wo.heap.size, 0, none⟩ = some (.string f.name) ∧ w'.cell? ⟨wo.heap.size, 1, none⟩ = some (.int .i64 f.params) ∧ w'.cell? ⟨wo.heap.size, 2, none⟩ = some (.int .i64 f.regs) ∧ w'.cell? ⟨wo.heap.size, 3, none⟩ = some (.slice fs.a f.code.length fs.c)) from fun w' h => by
                have hb := h.box HBX.out (by decide)
                exact ⟨(bcellB h.1).1, hb.cell 0 _ rfl, hb.cell 1 _ rfl, hb.cell 2 _ rfl, hb.cell 3 _ rfl⟩)
              refine Plan.wp_chainG planB20 (KT (w.heap.size + 1) [5] WX) (KT.drew _ WX HZX.out) (by kernel_rfl) rfl (by kernel_rfl) (by kernel_rfl) ?_
              repeat (first | (apply Plan.chain_skip rfl rfl; simp only [Act.put, List.setIfInBounds_toArray, List.set_cons_zero, List.set_cons_succ]) | (apply Plan.chain_det rfl rfl; (· intro w' hb; obtain ⟨hcl, hG⟩ := HG.out w' hb; go_simp; rfl); simp only [Act.put, List.setIfInBounds_toArray, List.set_cons_zero, List.set_cons_succ]))
              refine Plan.chain_call 31 #[u3, .string f.name] (fun v w' => OwnM (w.heap.size + 1) w' v (stF p k ++ encT f.name) ∧ KT (w.heap.size + 1) [5] WX w') rfl rfl rfl (by go_simp) ?_ (fun v w' h => h.2) (fun va wa h => ?_)
              · refine (rtext_calls (w.heap.size + 1) u3 (stF p k) f.name WX.drew (HOX.out.ofBlock fun _ _ => rfl) (by have := HLK.out; omega) (by have := HLK.out; omega) HZX.out).mono ?_
                rintro e w' ⟨v', rfl, h1, h2⟩
                exact ⟨_, rfl, .inl h1, (KT.drew _ WX HZX.out).trans h2⟩
              obtain ⟨ha, hka⟩ := h
              have HOA := hid ha
              have HKA := hid hka
              clear ha hka
              repeat (first | (apply Plan.chain_skip rfl rfl; simp only [Act.put, List.setIfInBounds_toArray, List.set_cons_zero, List.set_cons_succ]) | (apply Plan.chain_det rfl rfl; (· intro w' hb; obtain ⟨hcl, hG⟩ := HG.out w' hb; go_simp; rfl); simp only [Act.put, List.setIfInBounds_toArray, List.set_cons_zero, List.set_cons_succ]))
              refine Plan.chain_call 30 #[va, .int .i64 f.params] (fun v w' => OwnM (w.heap.size + 1) w' v (stF p k ++ (encT f.name ++ encN f.params)) ∧ KT (w.heap.size + 1) [5] WX w') rfl rfl rfl (by go_simp) ?_ (fun v w' h => h.2) (fun vb wb h => ?_)
              · refine (rnumber_calls (w.heap.size + 1) va (stF p k ++ encT f.name) f.params wa HOA.out HWF1.out.params (by have := HLK.out; omega) (HKA.out.lt HZX.out)).mono ?_
                rintro e w' ⟨v', rfl, h1, h2⟩
                exact ⟨_, rfl, .inl (by rw [← List.append_assoc]; exact h1), HKA.out.trans h2⟩
              obtain ⟨hb, hkb⟩ := h
              have HOB := hid hb
              have HKB := hid hkb
              clear hb hkb
              repeat (first | (apply Plan.chain_skip rfl rfl; simp only [Act.put, List.setIfInBounds_toArray, List.set_cons_zero, List.set_cons_succ]) | (apply Plan.chain_det rfl rfl; (· intro w' hb; obtain ⟨hcl, hG⟩ := HG.out w' hb; go_simp; rfl); simp only [Act.put, List.setIfInBounds_toArray, List.set_cons_zero, List.set_cons_succ]))
              refine Plan.chain_call 30 #[vb, .int .i64 f.regs] (fun v w' => OwnM (w.heap.size + 1) w' v (stF p k ++ (encT f.name ++ (encN f.params ++ encN f.regs))) ∧ KT (w.heap.size + 1) [5] WX w') rfl rfl rfl (by go_simp) ?_ (fun v w' h => h.2) (fun vc wc h => ?_)
              · refine (rnumber_calls (w.heap.size + 1) vb (stF p k ++ (encT f.name ++ encN f.params)) f.regs wb HOB.out HWF1.out.regs (by have := HLK.out; omega) (HKB.out.lt HZX.out)).mono ?_
                rintro e w' ⟨v', rfl, h1, h2⟩
                exact ⟨_, rfl, .inl (by rw [← List.append_assoc (encT f.name), ← List.append_assoc]; exact h1), HKB.out.trans h2⟩
              obtain ⟨hc, hkc⟩ := h
              have HOC := hid hc
              have HKC := hid hkc
              clear hc hkc
              repeat (first | (apply Plan.chain_skip rfl rfl; simp only [Act.put, List.setIfInBounds_toArray, List.set_cons_zero, List.set_cons_succ]) | (apply Plan.chain_det rfl rfl; (· intro w' hb; obtain ⟨hcl, hG⟩ := HG.out w' hb; go_simp; rfl); simp only [Act.put, List.setIfInBounds_toArray, List.set_cons_zero, List.set_cons_succ]))
              refine Plan.chain_call 30 #[vc, .int .i64 f.code.length] (fun v w' => OwnM (w.heap.size + 1) w' v (stF p k ++ stFi f 0) ∧ KT (w.heap.size + 1) [5] WX w') rfl rfl rfl (by go_simp) ?_ (fun v w' h => h.2) (fun vd wd h => ?_)
              · refine (rnumber_calls (w.heap.size + 1) vc (stF p k ++ (encT f.name ++ (encN f.params ++ encN f.regs))) (f.code.length : Nat) wc HOC.out (i64_len _ HCN.out) (by have := HLK.out; omega) (HKC.out.lt HZX.out)).mono ?_
                rintro e w' ⟨v', rfl, h1, h2⟩
                refine ⟨_, rfl, .inl ?_, HKC.out.trans h2⟩
                rw [stFi_zero]
                simp only [List.append_assoc] at h1
                exact h1
              obtain ⟨hd, hkd⟩ := h
              have HOD := hid hd
              have HKD := hid (HKX.out.trans hkd)
              have HBD := hid (hkd.box HBX.out (by decide))
              clear hd hkd
              repeat (first | (apply Plan.chain_skip rfl rfl; simp only [Act.put, List.setIfInBounds_toArray, List.set_cons_zero, List.set_cons_succ]) | (apply Plan.chain_det rfl rfl; (· intro w' hb; obtain ⟨hcl, hG⟩ := HG.out w' hb; go_simp; rfl); simp only [Act.put, List.setIfInBounds_toArray, List.set_cons_zero, List.set_cons_succ]))
              refine Plan.chain_nil ?_
              clear x0 x1 x2 x3 xz HOA HKA HOB HKB HOC HKC HG HOX
              go_wp2_with fail
              go_loopw [3, 9, 10] (fun bv at' i wr => ∃ j : Nat, j ≤ f.code.length ∧ i = .int .i64 j ∧ at' = .int .i64 (lastOf 0 (f.code.take j)) ∧ OwnM (w.heap.size + 1) wr bv (stF p k ++ stFi f j) ∧ KT (w.heap.size + 1) [5] W wr ∧ BoxAt wr wo.heap.size 55 [.string f.name, .int .i64 f.params, .int .i64 f.regs, .slice fs.a f.code.length fs.c]) (fun _ _ i _ => f.code.length - (intOf i).toNat)
              case atStart => exact ⟨0, Nat.zero_le _, rfl, rfl, HOD.out, HKD.out, HBD.out⟩
              case round =>
                clear HOD HKD HBD HBO HKT HKX HBX
                obtain ⟨j, hj, rfl, rfl, hown, hkt, hbx⟩ := hrel
                obtain ⟨wi, hwi⟩ : ∃ wi, wi = wr := ⟨_, rfl⟩
                subst hwi
                have HOW := hid hown
                have HKT := hid hkt
                have HBX := hid hbx
                have hbo := hid (HCE.out wi hkt).1
                have HZI := hid (hkt.lt HZW.out)
                have x3 := hbx.cell 3 _ rfl
                have xz := hbx.lt
                clear hown hkt hbx
                by_cases hjl : j < f.code.length
                · have hjl2 : (j : Int) < f.code.length := Int.ofNat_lt.2 hjl
                  obtain ⟨ca, cc, cb, co, er, p1, p2, p3, p4, p5, p6, p7, _, _, _⟩ := HCODE.out.open
                  obtain ⟨h1, h2, h3⟩ := Value.slice.inj er
                  have e2 := p1 (by omega)
                  have zr := p7 (by omega)
                  have y0 := (hbo.out.cell (p := ⟨cb, _, none⟩) zr).trans (p2 j hjl)
                  have y1 := (hbo.out.cell (p := ⟨cb, _, none⟩) zr).trans (p3 j hjl)
                  have y2 := (hbo.out.cell (p := ⟨cb, _, none⟩) zr).trans (p4 j hjl)
                  have y3 := (hbo.out.cell (p := ⟨cb, _, none⟩) zr).trans (p5 j hjl)
                  have y4 := (hbo.out.cell (p := ⟨cb, _, none⟩) zr).trans (p6 j hjl)
                  rw [h1, e2] at x3
                  have HX := hid (HWF1.out.ins (nth f.code j) (nth_mem _ j hjl))
                  have HSNI := hid (stFi_snoc f j hjl)
                  have HLAST := hid (last_snoc f.code j hjl)
                  obtain ⟨x, hx⟩ : ∃ x, nth f.code j = x := ⟨_, rfl⟩
                  rw [hx] at y0 y1 y2 y3 y4 HX HSNI HLAST
                  clear p1 p2 p3 p4 p5 p6 p7 er h1 h2 h3 e2 hx
                  obtain ⟨a0, ha0⟩ : ∃ a0, lastOf 0 (f.code.take j) = a0 := ⟨_, rfl⟩
                  rw [ha0] at HSNI ⊢
                  clear ha0
                  obtain ⟨L, hL⟩ : ∃ L, stF p k ++ stFi f j = L := ⟨_, rfl⟩
                  rw [hL] at HOW
                  have HNEXT := hid (show stF p k ++ stFi f (j + 1) = L ++ encIns a0 x by rw [HSNI.out, ← hL, List.append_assoc])
                  have HLL := hid (show (L ++ encIns a0 x).length ≤ 100000000000 by rw [← HNEXT.out]; exact HLEN.out (j + 1))
                  have HLI := hid (show L.length ≤ 100000000000 ∧ (L ++ encN x.op).length ≤ 100000000000 ∧ (L ++ (encN x.op ++ encN x.a)).length ≤ 100000000000 ∧ (L ++ (encN x.op ++ (encN x.a ++ encN x.b))).length ≤ 100000000000 ∧ (L ++ (encN x.op ++ (encN x.a ++ (encN x.b ++ encN x.c)))).length ≤ 100000000000 by
                    have := HLL.out
                    unfold encIns at this
                    simp only [List.length_append] at this ⊢
                    omega)
                  clear hL
                  go_wp2_with fail
                  generalize hX2 : World.alloc _ _ = WY
                  have hbx := show BoxAt WY wi.heap.size 57 [.int .i64 x.op, .int .i64 x.a, .int .i64 x.b, .int .i64 x.c, .int .i64 x.pos] by rw [← hX2]; exact BoxAt.new _ _ _ _ _ rfl rfl
                  have HBY := hid hbx
                  have hkx := show KT (w.heap.size + 1) [5] wi WY by rw [← hX2]; exact KT.alloc _ wi _ HZI.out
                  have HOY := hid (show OwnM (w.heap.size + 1) WY u3 L by rw [← hX2]; exact HOW.out.alloc _)
                  have HKY := hid (HKT.out.trans hkx)
                  have HFY := hid (hkx.box HBX.out (by decide))
                  have HZY := hid (hkx.lt HZI.out)
                  have x0 := hbx.cell 0 _ rfl
                  have x1 := hbx.cell 1 _ rfl
                  have x2 := hbx.cell 2 _ rfl
                  have x3' := hbx.cell 3 _ rfl
                  have x4 := hbx.cell 4 _ rfl
                  have xz' := hbx.lt
                  clear hX2 hbx hkx y0 y1 y2 y3 y4 HOW x3 xz
                  have HG := hid (show ∀ w', KT (w.heap.size + 1) [5] WY w' → (∀ b o, b < w.heap.size + 1 → w'.cell? ⟨b, o, none⟩ = WY.cell? ⟨b, o, none⟩) ∧ (w'.cell? ⟨wi.heap.size, 0, none⟩ = some (.int .i64 x.op) ∧ w'.cell? ⟨wi.heap.size, 1, none⟩ = some (.int .i64 x.a) ∧ w'.cell? ⟨wi.heap.size, 2, none⟩ = some (.int .i64 x.b) ∧ w'.cell? ⟨wi.heap.size, 3, none⟩ = some (.int .i64 x.c) ∧ w'.cell? ⟨wi.heap.size, 4, none⟩ = some (.int .i64 x.pos)) from fun w' h => by
                    have hb := h.box HBY.out (by decide)
                    exact ⟨(bcellB h.1).1, hb.cell 0 _ rfl, hb.cell 1 _ rfl, hb.cell 2 _ rfl, hb.cell 3 _ rfl, hb.cell 4 _ rfl⟩)
                  refine Plan.wp_chainG planB26 (KT (w.heap.size + 1) [5] WY) (KT.drew _ WY HZY.out) (by kernel_rfl) rfl (by kernel_rfl) (by kernel_rfl) ?_
                  repeat (first | (apply Plan.chain_skip rfl rfl; simp only [Act.put, List.setIfInBounds_toArray, List.set_cons_zero, List.set_cons_succ]) | (apply Plan.chain_det rfl rfl; (· intro w' hb; obtain ⟨hcl, hG⟩ := HG.out w' hb; go_simp; rfl); simp only [Act.put, List.setIfInBounds_toArray, List.set_cons_zero, List.set_cons_succ]))
                  refine Plan.chain_call 30 #[u3, .int .i64 x.op] (fun v w' => OwnM (w.heap.size + 1) w' v (L ++ encN x.op) ∧ KT (w.heap.size + 1) [5] WY w') rfl rfl rfl (by go_simp) ?_ (fun v w' h => h.2) (fun vop' wop' h => ?_)
                  · refine (rnumber_calls (w.heap.size + 1) u3 (L) x.op WY.drew (HOY.out.ofBlock fun _ _ => rfl) (HX.out.op) (by have := HLI.out; omega) HZY.out).mono ?_
                    rintro e w' ⟨v', rfl, h1, h2⟩
                    refine ⟨_, rfl, .inl ?_, (KT.drew _ WY HZY.out).trans h2⟩
                    try simp only [List.append_assoc] at h1 ⊢
                    exact h1
                  obtain ⟨hb, hkb⟩ := h
                  have HOOP := hid hb
                  have HKOP := hid hkb
                  clear hb hkb
                  repeat (first | (apply Plan.chain_skip rfl rfl; simp only [Act.put, List.setIfInBounds_toArray, List.set_cons_zero, List.set_cons_succ]) | (apply Plan.chain_det rfl rfl; (· intro w' hb; obtain ⟨hcl, hG⟩ := HG.out w' hb; go_simp; rfl); simp only [Act.put, List.setIfInBounds_toArray, List.set_cons_zero, List.set_cons_succ]))
                  refine Plan.chain_call 30 #[vop', .int .i64 x.a] (fun v w' => OwnM (w.heap.size + 1) w' v (L ++ (encN x.op ++ encN x.a)) ∧ KT (w.heap.size + 1) [5] WY w') rfl rfl rfl (by go_simp) ?_ (fun v w' h => h.2) (fun va' wa' h => ?_)
                  · refine (rnumber_calls (w.heap.size + 1) vop' (L ++ encN x.op) x.a wop' HOOP.out (HX.out.a) (by have := HLI.out; omega) (HKOP.out.lt HZY.out)).mono ?_
                    rintro e w' ⟨v', rfl, h1, h2⟩
                    refine ⟨_, rfl, .inl ?_, HKOP.out.trans h2⟩
                    try simp only [List.append_assoc] at h1 ⊢
                    exact h1
                  obtain ⟨hb, hkb⟩ := h
                  have HOA := hid hb
                  have HKA := hid hkb
                  clear hb hkb
                  repeat (first | (apply Plan.chain_skip rfl rfl; simp only [Act.put, List.setIfInBounds_toArray, List.set_cons_zero, List.set_cons_succ]) | (apply Plan.chain_det rfl rfl; (· intro w' hb; obtain ⟨hcl, hG⟩ := HG.out w' hb; go_simp; rfl); simp only [Act.put, List.setIfInBounds_toArray, List.set_cons_zero, List.set_cons_succ]))
                  refine Plan.chain_call 30 #[va', .int .i64 x.b] (fun v w' => OwnM (w.heap.size + 1) w' v (L ++ (encN x.op ++ (encN x.a ++ encN x.b))) ∧ KT (w.heap.size + 1) [5] WY w') rfl rfl rfl (by go_simp) ?_ (fun v w' h => h.2) (fun vb' wb' h => ?_)
                  · refine (rnumber_calls (w.heap.size + 1) va' (L ++ (encN x.op ++ encN x.a)) x.b wa' HOA.out (HX.out.b) (by have := HLI.out; omega) (HKA.out.lt HZY.out)).mono ?_
                    rintro e w' ⟨v', rfl, h1, h2⟩
                    refine ⟨_, rfl, .inl ?_, HKA.out.trans h2⟩
                    try simp only [List.append_assoc] at h1 ⊢
                    exact h1
                  obtain ⟨hb, hkb⟩ := h
                  have HOB := hid hb
                  have HKB := hid hkb
                  clear hb hkb
                  repeat (first | (apply Plan.chain_skip rfl rfl; simp only [Act.put, List.setIfInBounds_toArray, List.set_cons_zero, List.set_cons_succ]) | (apply Plan.chain_det rfl rfl; (· intro w' hb; obtain ⟨hcl, hG⟩ := HG.out w' hb; go_simp; rfl); simp only [Act.put, List.setIfInBounds_toArray, List.set_cons_zero, List.set_cons_succ]))
                  refine Plan.chain_call 30 #[vb', .int .i64 x.c] (fun v w' => OwnM (w.heap.size + 1) w' v (L ++ (encN x.op ++ (encN x.a ++ (encN x.b ++ encN x.c)))) ∧ KT (w.heap.size + 1) [5] WY w') rfl rfl rfl (by go_simp) ?_ (fun v w' h => h.2) (fun vc' wc' h => ?_)
                  · refine (rnumber_calls (w.heap.size + 1) vb' (L ++ (encN x.op ++ (encN x.a ++ encN x.b))) x.c wb' HOB.out (HX.out.c) (by have := HLI.out; omega) (HKB.out.lt HZY.out)).mono ?_
                    rintro e w' ⟨v', rfl, h1, h2⟩
                    refine ⟨_, rfl, .inl ?_, HKB.out.trans h2⟩
                    try simp only [List.append_assoc] at h1 ⊢
                    exact h1
                  obtain ⟨hb, hkb⟩ := h
                  have HOC := hid hb
                  have HKC := hid hkb
                  clear hb hkb
                  repeat (first | (apply Plan.chain_skip rfl rfl; simp only [Act.put, List.setIfInBounds_toArray, List.set_cons_zero, List.set_cons_succ]) | (apply Plan.chain_det rfl rfl; (· intro w' hb; obtain ⟨hcl, hG⟩ := HG.out w' hb; go_simp; rfl); simp only [Act.put, List.setIfInBounds_toArray, List.set_cons_zero, List.set_cons_succ]))
                  refine Plan.chain_call 30 #[vc', .int .i64 (w64 (x.pos - a0))] (fun v w' => OwnM (w.heap.size + 1) w' v (L ++ encIns a0 x) ∧ KT (w.heap.size + 1) [5] WY w') rfl rfl rfl (by go_simp; exact wrap_w64 _) ?_ (fun v w' h => h.2) (fun vd' wd' h => ?_)
                  · refine (rnumber_calls (w.heap.size + 1) vc' (L ++ (encN x.op ++ (encN x.a ++ (encN x.b ++ encN x.c)))) (w64 (x.pos - a0)) wc' HOC.out (w64_I64 _) (by have := HLI.out; omega) (HKC.out.lt HZY.out)).mono ?_
                    rintro e w' ⟨v', rfl, h1, h2⟩
                    refine ⟨_, rfl, .inl ?_, HKC.out.trans h2⟩
                    unfold encIns
                    try simp only [List.append_assoc] at h1 ⊢
                    exact h1
                  obtain ⟨hb, hkb⟩ := h
                  have HOD := hid hb
                  have HKD := hid hkb
                  clear hb hkb
                  repeat (first | (apply Plan.chain_skip rfl rfl; simp only [Act.put, List.setIfInBounds_toArray, List.set_cons_zero, List.set_cons_succ]) | (apply Plan.chain_det rfl rfl; (· intro w' hb; obtain ⟨hcl, hG⟩ := HG.out w' hb; go_simp; rfl); simp only [Act.put, List.setIfInBounds_toArray, List.set_cons_zero, List.set_cons_succ]))
                  refine Plan.chain_nil ?_
                  have HFE := hid (HKD.out.box HFY.out (by decide))
                  have hbe := HKD.out.box HBY.out (by decide)
                  have e4 := hbe.cell 4 _ rfl
                  have ez := hbe.lt
                  clear x0 x1 x2 x3' x4 xz' HG HOY HOOP HKOP HOA HKA HOB HKB HOC HKC HBY hbe
                  go_wp2_with fail
                  refine ⟨⟨j + 1, by omega, by go_num, by rw [HLAST.out], ?_, HKY.out.trans HKD.out, HFE.out⟩, by simp [intOf] <;> omega⟩
                  rw [HNEXT.out]
                  exact HOD.out
                · have hjl2 : ¬ (j : Int) < f.code.length := by omega
                  have HOE := hid (show OwnM (w.heap.size + 1) wi u3 (stF p (k + 1)) by
                    have := HOW.out
                    rw [show j = f.code.length by omega, stFi_end, ← HSN.out] at this
                    exact this)
                  clear HOW
                  go_wp2_with fail
                  exact ⟨⟨k + 1, by omega, by go_num, HOE.out, HKT.out⟩, by simp [intOf] <;> omega⟩
            · have hlt2 : ¬ (k : Int) < p.funcs.length := by omega
              have HOE := hid (show OwnM (w.heap.size + 1) wo u3 (stF p p.funcs.length) by have := HOW.out; rwa [show k = p.funcs.length by omega] at this)
              clear HOW
              go_wp2_with fail
              refine (rnumber_calls (w.heap.size + 1) u3 (stF p p.funcs.length) p.main wo HOE.out HWF.out.main (by have := Nat.le_trans (stF_pre p p.funcs.length).length_le HSZ.out; omega) HZO.out).mono ?_
              rintro e w9 ⟨v9, rfl, ho, hk⟩
              rw [← st_end] at ho
              obtain ⟨a9, c9, rfl⟩ := ho.anySlice
              have HO9 := hid ho
              have HK9 := hid (HKT.out.trans hk)
              clear ho hk q0 q1 q2 q3 qz
              go_wp2_with fail
              refine (rsum_calls (w.heap.size + 1) _ (bodyL p) w9 (HO9.out.sl (Nat.le_refl _) (by have := HSZ.out; omega))).mono ?_
              rintro e w10 ⟨rfl, hb10⟩
              have HO10 := hid (show OwnM (w.heap.size + 1) w10 (.slice a9 (bodyL p).length c9) (bodyL p) from OwnM.ofBlock (.inl HO9.out) fun k hk => hb10.block k (HO9.out.lt k hk).2)
              have HK10 := hid (HK9.out.trans (KT.below _ hb10 (HK9.out.lt HZW.out)))
              clear hb10
              go_wp2_with (
                at_builtin
                go_loud (
                  refine wpList_append_M (o := ⟨some 163, _, _, _, _, _⟩) rfl (.tmp 150) (.tmp 162) rfl (w.heap.size + 1) w10.heap.size (bodyL p) (sumBytes (sumB (bodyL p))) (by simp [sumBytes]) (HO10.out.alloc _) ((OwnE.lit byteE w10 w10.heap.size 5 (sumBytes (sumB (bodyL p))) #[Value.int .u8 ((natS (sumB (bodyL p)) : Nat) / 16777216 % 256), Value.int .u8 ((natS (sumB (bodyL p)) : Nat) / 65536 % 256), Value.int .u8 ((natS (sumB (bodyL p)) : Nat) / 256 % 256), Value.int .u8 ((natS (sumB (bodyL p)) : Nat) % 256)] w10.heap.size 4 rfl (Nat.le_refl _) rfl (lit_sum _) (by simp [sumBytes])).sl (Nat.le_refl _) (by simp [sumBytes])) (by have := HSZ.out; simp [sumBytes]; omega) (by have := HK10.out.lt HZW.out; simp; omega) ?_
                  intro v11 w11 ho11 hk11
                  have HO11 := hid ho11
                  have HK11 := hid ((HK10.out.trans (KT.alloc _ w10 _ (HK10.out.lt HZW.out))).trans hk11)
                  clear ho11 hk11))
              go_ret
              exact ⟨_, rfl, HO11.out.mono (by omega), HBW.out.trans (HK11.out.1.mono (by omega))⟩

end Go.Proofs.Ytkfpacklpelefaa
