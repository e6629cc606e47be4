/-
  The reference's Prune, walked.
-/
import Derived.Test.YteiohnfmlabelaaGreatZValid
import Derived.Test.YteiohnfmlabelaaGreatZPrClean
import Derived.Test.YteiohnfmlabelaaGreatZPrRR
import Derived.Test.YteiohnfmlabelaaGreatZREqual2
namespace Go.Proofs.YteiohnfmlabelaaGreat
set_option linter.unusedVariables false
set_option linter.unusedSimpArgs false
open Go.RowKit

/-- What a round of the reference's loops leaves. -/
structure RPs (base : Nat) (w wr : World) (p q : Prg) (n g cap : Nat) (vg vl : Value) (ss rs : List Slc) : Prop where
  out : OutP (fun k => k = g ∨ k < base + 2) (base + 2) g cap wr vg vl q ss rs
  wf : PrgWf q
  ok : validB q = true
  sam : Sam p q
  go : ∀ r, Prn q n r → Prn p 0 r
  bx : BoxAt wr base 26 [.slice (some ⟨g, 0, none⟩) p.funcs.length cap, vg, vl, .int .i64 p.main]
  br : BoxAt wr (base + 1) 26 [.slice none 0 0, .slice none 0 0, .slice none 0 0, .int .i64 0]
  bel : Below base w wr

theorem RPs.at {base n g cap : Nat} {w wr : World} {p q : Prg} {vg vl : Value} {ss rs : List Slc} (h : RPs base w wr p q n g cap vg vl ss rs) : ProgAt 0 wr (.slice (some ⟨g, 0, none⟩) p.funcs.length cap) vg vl q := by
  have := h.out.at (valid_pos h.ok).2
  rw [h.sam.len] at this
  exact this

set_option maxRecDepth 100000 in
set_option maxHeartbeats 8000000 in
theorem rprune_yes (lo : Nat) (vf vg vl : Value) (p : Prg) (w : World) (hp : ProgAt lo w vf vg vl p) (hwf : PrgWf p) (hv : validB p = true) :
    Calls Tryz.prog 10 #[.agg #[vf, vg, vl, .int .i64 p.main]] w fun e w' =>
      ∃ uf ug ul q, e = .returned (.agg #[uf, ug, ul, .int .i64 q.main]) ∧ Prn p 0 q ∧ ProgAt 0 w' uf ug ul q ∧ Below w.heap.size w w' := by
  have HP := hid hp
  have HV := hid hv
  have HWF := hid hwf
  obtain ⟨fa, fc, _, _, _, rfl, -⟩ := hp.funcs.open
  obtain ⟨ga, gc, _, _, rfl, -⟩ := hp.globs.open
  obtain ⟨la, lc, _, _, _, rfl, -⟩ := hp.lays.open
  obtain ⟨base, hbase⟩ : ∃ base, w.heap.size = base := ⟨_, rfl⟩
  have HBS := hid hbase
  have HPOS := hid (valid_pos hv)
  have h64 := (valid_pos hv).2
  clear hp hv hwf
  go_enter Tryz.func10, Tryz.ntmps10
  go_wp2_with fail
  generalize hW : World.alloc _ _ = W
  have hbW : Below base w W := by rw [← hW, ← hbase]; exact ((Below.refl _ _).alloc (Nat.le_refl _) _).alloc (by simp) _
  have R1 := hid (show BoxAt W base 26 [.slice fa p.funcs.length fc, .slice ga p.globals.length gc, .slice la p.layouts.length lc, .int .i64 p.main] by
    rw [← hW]
    exact (BoxAt.new w _ _ _ _ hbase.symm rfl).alloc _)
  have R2 := hid (show BoxAt W (base + 1) 26 [.slice none 0 0, .slice none 0 0, .slice none 0 0, .int .i64 0] by
    rw [← hW]
    exact BoxAt.new _ _ _ _ _ (by simp [hbase]) rfl)
  have HBW := hid hbW
  clear hW hbW
  have c0 := R1.out.cell 0 _ rfl
  have c1 := R1.out.cell 1 _ rfl
  have c2 := R1.out.cell 2 _ rfl
  have c3 := R1.out.cell 3 _ rfl
  have s1 := R1.out.lt
  go_wp2_with fail
  refine (valid_calls lo _ _ _ p W (HP.out.below (by rw [HBS.out]; exact HBW.out))).mono ?_
  rw [HV.out]
  rintro e w1 ⟨rfl, hb1⟩
  have hws := R2.out.lt
  have hws1 := hb1.size
  have HBW1 := hid (show Below base w w1 from HBW.out.trans (hb1.mono (by omega)))
  have HR1 := hid (R1.out.below hb1)
  have HR2 := hid (R2.out.below hb1)
  clear c0 c1 c2 c3 s1 hb1
  have c0 := HR1.out.cell 0 _ rfl
  have c1 := HR1.out.cell 1 _ rfl
  have c2 := HR1.out.cell 2 _ rfl
  have c3 := HR1.out.cell 3 _ rfl
  have s1 := HR1.out.lt
  go_wp2_with fail
  refine (copy_calls lo _ _ _ p w1 (HP.out.below (by rw [HBS.out]; exact HBW1.out)) HWF.out).mono ?_
  rintro e w2 ⟨uf, ug, ul, rfl, hop, hb2⟩
  obtain ⟨⟨ss, hof⟩, hog, ⟨rs, hol⟩⟩ := hop
  obtain ⟨g, cap, hv1, lg, ug1⟩ := hof.row.open (by have h1 := hof.len; have h2 := HPOS.out.1; simp; omega)
  rw [show (p.funcs.zip ss).length = p.funcs.length by have h1 := hof.len; simp; omega] at hv1
  subst hv1
  obtain ⟨ga2, gc2, rfl⟩ := hog.anySlice
  obtain ⟨la2, lc2, rfl⟩ := hol.row.anySlice
  rw [hol.len] at hol ⊢
  have hws2 := hb2.size
  have HO2 := hid ((hof.outP hog hol HWF.out (by omega)).weak (X' := fun k => k = g ∨ k < base + 2) (fun k hk => by rcases hk with h | h; exact .inl h; exact .inr (by omega)) (.inl rfl) |>.mono (base' := base + 2) (by omega))
  have HBW2 := hid (show Below base w w2 from HBW1.out.trans (hb2.mono (by omega)))
  have HR1b := hid (HR1.out.below hb2)
  have HR2b := hid (HR2.out.below hb2)
  clear c0 c1 c2 c3 s1 hof hog hol hb2 lg ug1
  have e0 := HR1b.out.cell 0 _ rfl
  have e1 := HR1b.out.cell 1 _ rfl
  have e2 := HR1b.out.cell 2 _ rfl
  have e3 := HR1b.out.cell 3 _ rfl
  have z0 := HR1b.out.frozen 0
  have z1 := HR1b.out.frozen 1
  have z2 := HR1b.out.frozen 2
  have z3 := HR1b.out.frozen 3
  have t0 := HR1b.out.lt
  have hgb : g ≠ base := by have := HO2.out.back.1; omega
  have HS3 := hid (show RPs base w ((((w2.setCell ⟨base, 0, none⟩ (.slice (some ⟨g, 0, none⟩) p.funcs.length cap)).setCell ⟨base, 1, none⟩ (.slice ga2 p.globals.length gc2)).setCell ⟨base, 2, none⟩ (.slice la2 p.layouts.length lc2)).setCell ⟨base, 3, none⟩ (.int .i64 p.main)) p p 0 g cap (.slice ga2 p.globals.length gc2) (.slice la2 p.layouts.length lc2) ss rs from
    { out := (((HO2.out.aside (Only.store _ base 0 _) (.inr (by omega)) hgb).aside (Only.store _ base 1 _) (.inr (by omega)) hgb).aside (Only.store _ base 2 _) (.inr (by omega)) hgb).aside (Only.store _ base 3 _) (.inr (by omega)) hgb
      wf := HWF.out
      ok := HV.out
      sam := Sam.refl p
      go := fun r h => h
      bx := (((HR1b.out.set 0 _).set 1 _).set 2 _).set 3 _
      br := (((HR2b.out.other _ _ (by show base + 1 ≠ base; omega)).other _ _ (by show base + 1 ≠ base; omega)).other _ _ (by show base + 1 ≠ base; omega)).other _ _ (by show base + 1 ≠ base; omega)
      bel := (((HBW2.out.setCell (Nat.le_refl _) _).setCell (Nat.le_refl _) _).setCell (Nat.le_refl _) _).setCell (Nat.le_refl _) _ })
  go_wp2_with fail
  generalize (((w2.setCell ⟨base, 0, none⟩ (.slice (some ⟨g, 0, none⟩) p.funcs.length cap)).setCell ⟨base, 1, none⟩ (.slice ga2 p.globals.length gc2)).setCell ⟨base, 2, none⟩ (.slice la2 p.layouts.length lc2)).setCell ⟨base, 3, none⟩ (.int .i64 p.main) = W3 at *
  clear e0 e1 e2 e3 z0 z1 z2 z3 t0
  go_loopw [3] (fun fv wr => ∃ (n : Nat) (q : Prg) (g cap : Nat) (ga : Option Addr) (gc : Nat) (la : Option Addr) (lc : Nat) (ss rs : List Slc), n ≤ p.funcs.length ∧ fv = .int .i64 n ∧ RPs base w wr p q n g cap (.slice ga p.globals.length gc) (.slice la p.layouts.length lc) ss rs) (fun fv _ => p.funcs.length - (intOf fv).toNat)
  case atStart => exact ⟨0, p, g, cap, ga2, gc2, la2, lc2, ss, rs, Nat.zero_le _, rfl, HS3.out⟩
  case round =>
  obtain ⟨n, q, g3, cap3, ga3, gc3, la3, lc3, ss3, rs3, hn, rfl, hs⟩ := hrel
  obtain ⟨wo, hwo⟩ : ∃ wo, wo = wr := ⟨_, rfl⟩
  subst hwo
  have HS := hid hs
  have f0 := hs.bx.cell 0 _ rfl
  have fz := hs.bx.lt
  clear hs
  by_cases hlt : n < p.funcs.length
  · have hlt2 : (n : Int) < p.funcs.length := Int.ofNat_lt.2 hlt
    go_wp2_with fail
    go_loopg [4] (wgt (nth q.funcs n).code + 2) (fun gk mv wr => ∃ (m : Bool) (q : Prg) (g cap : Nat) (ga : Option Addr) (gc : Nat) (la : Option Addr) (lc : Nat) (ss rs : List Slc), mv = .bool m ∧ RPs base w wr p q n g cap (.slice ga p.globals.length gc) (.slice la p.layouts.length lc) ss rs ∧ (m = true → wgt (nth q.funcs n).code + 1 < gk) ∧ (m = false → newC q n = (nth q.funcs n).code))
    case atStart => exact ⟨true, q, g3, cap3, ga3, gc3, la3, lc3, ss3, rs3, rfl, HS.out, fun _ => by omega, fun h => by simp at h⟩
    case round =>
    obtain ⟨m, q4, g4, cap4, ga4, gc4, la4, lc4, ss4, rs4, rfl, hs4, hm1, hm2⟩ := hrel
    obtain ⟨wk, hwk⟩ : ∃ wk, wk = wr := ⟨_, rfl⟩
    subst hwk
    have HS4 := hid hs4
    cases m with
    | false =>
      have HEQ := hid (hm2 rfl)
      clear hs4 hm1 hm2
      go_wp2_with fail
      go_roundw
      case rel => exact ⟨n + 1, q4, g4, cap4, ga4, gc4, la4, lc4, ss4, rs4, by omega, by go_num, { HS4.out with go := fun r hr => HS4.out.go r (.next q4 n r (by rw [HS4.out.sam.len]; exact hlt) HEQ.out hr) }⟩
      case measure => simp [intOf] <;> omega
    | true =>
      have HM := hid (hm1 rfl)
      have HLQ := hid (show n < q4.funcs.length by rw [HS4.out.sam.len]; exact hlt)
      have f0 := hs4.bx.cell 0 _ rfl
      have f1 := hs4.bx.cell 1 _ rfl
      have f2 := hs4.bx.cell 2 _ rfl
      have f3 := hs4.bx.cell 3 _ rfl
      have fz := hs4.bx.lt
      clear hs4 hm1 hm2
      have hcall := rround_calls 0 _ _ _ q4 n wk HS4.out.at HS4.out.wf HS4.out.ok HLQ.out
      rw [HS4.out.sam.main, HS4.out.sam.len] at hcall
      have HCALL := hid hcall
      clear hcall
      go_wp2_with fail
      refine HCALL.out.mono ?_
      rintro e w5 ⟨g5, cap5, ug5, ul5, ss5, rs5, rfl, ho5, hb5⟩
      have hz5 : base + 2 ≤ wk.heap.size := HS4.out.br.lt
      have hz6 := hb5.size
      obtain ⟨ga5, gc5, rfl⟩ : ∃ a c, ug5 = .slice a p.globals.length c := by
        obtain ⟨a, c, _, _, h, -⟩ := ho5.globs.1.open
        refine ⟨a, c, ?_⟩
        rw [h, show (put q4 n (newC q4 n)).globals = p.globals from HS4.out.sam.globs]
      obtain ⟨la5, lc5, rfl⟩ : ∃ a c, ul5 = .slice a p.layouts.length c := by
        obtain ⟨a, c, _, _, _, h, -⟩ := (ho5.at (by rw [put_len, HS4.out.sam.len]; exact h64)).lays.open
        refine ⟨a, c, ?_⟩
        rw [h, show (put q4 n (newC q4 n)).layouts = p.layouts from HS4.out.sam.lays]
      have HX5 := hid (HS4.out.bx.below hb5)
      have HY5 := hid (HS4.out.br.below hb5)
      have hat5 := ho5.at (by rw [put_len, HS4.out.sam.len]; exact h64)
      rw [put_len, HS4.out.sam.len] at hat5
      have HAT5 := hid hat5
      have HAQ5 := hid (HS4.out.at.below hb5)
      have HO5 := hid (show OutP (fun k => k = g5 ∨ k < base + 2) (base + 2) g5 cap5 w5 (.slice ga5 p.globals.length gc5) (.slice la5 p.layouts.length lc5) (put q4 n (newC q4 n)) ss5 rs5 from (ho5.weak (X' := fun k => k = g5 ∨ k < base + 2) (fun k hk => by rcases hk with h | h; exact .inl h; exact .inr (by omega)) (.inl rfl)).mono (by omega))
      have HB5 := hid (show Below base w w5 from HS4.out.bel.trans (hb5.mono (by omega)))
      clear f0 f1 f2 f3 fz ho5 hb5 hat5
      have f0 := HX5.out.cell 0 _ rfl
      have f1 := HX5.out.cell 1 _ rfl
      have f2 := HX5.out.cell 2 _ rfl
      have f3 := HX5.out.cell 3 _ rfl
      have fz := HX5.out.lt
      go_wp2_with fail
      obtain ⟨W6, hW6⟩ : ∃ W6, w5.alloc (.cells #[.slice (some ⟨g5, 0, none⟩) p.funcs.length cap5, .slice ga5 p.globals.length gc5, .slice la5 p.layouts.length lc5, .int .i64 p.main] 26) = W6 := ⟨_, rfl⟩
      rw [hW6]
      have hb6 : Below w5.heap.size w5 W6 := by rw [← hW6]; exact (Below.refl _ _).alloc (Nat.le_refl _) _
      have hx6 : BoxAt W6 w5.heap.size 26 [.slice (some ⟨g5, 0, none⟩) p.funcs.length cap5, .slice ga5 p.globals.length gc5, .slice la5 p.layouts.length lc5, .int .i64 p.main] := by rw [← hW6]; exact BoxAt.new w5 _ _ _ _ rfl rfl
      have hce := requal_calls 0 0 _ _ _ _ _ _ q4 (put q4 n (newC q4 n)) W6 (HAQ5.out.below hb6) (HAT5.out.below hb6)
      rw [show (put q4 n (newC q4 n)).main = p.main from HS4.out.sam.main, HS4.out.sam.main] at hce
      have HCE := hid hce
      have HB6 := hid hb6
      have HX6 := hid hx6
      have hw56 := hb6.size
      clear hW6 hb6 hx6 hce f0 f1 f2 f3 fz
      have HFIN := hid (show ∀ w7, Below W6.heap.size W6 w7 → (∀ r, Prn (put q4 n (newC q4 n)) n r → Prn q4 n r) → RPs base w ((((w7.setCell ⟨base, 0, none⟩ (.slice (some ⟨g5, 0, none⟩) p.funcs.length cap5)).setCell ⟨base, 1, none⟩ (.slice ga5 p.globals.length gc5)).setCell ⟨base, 2, none⟩ (.slice la5 p.layouts.length lc5)).setCell ⟨base, 3, none⟩ (.int .i64 p.main)) p (put q4 n (newC q4 n)) n g5 cap5 (.slice ga5 p.globals.length gc5) (.slice la5 p.layouts.length lc5) ss5 rs5 from fun w7 hb7 hgo => by
        have hb57 : Below w5.heap.size w5 w7 := HB6.out.trans (hb7.mono hw56)
        have ho7 := HO5.out.below hb57
        have hg5 : g5 ≠ base := by have := ho7.back.1; omega
        exact {
          out := (((ho7.aside (Only.store _ base 0 _) (.inr (by omega)) hg5).aside (Only.store _ base 1 _) (.inr (by omega)) hg5).aside (Only.store _ base 2 _) (.inr (by omega)) hg5).aside (Only.store _ base 3 _) (.inr (by omega)) hg5
          wf := round_wf HS4.out.wf HS4.out.ok n HLQ.out
          ok := round_valid HS4.out.ok n HLQ.out
          sam := HS4.out.sam.trans (round_sam q4 n)
          go := fun r hr => HS4.out.go r (hgo r hr)
          bx := ((((HX5.out.below hb57).set 0 _).set 1 _).set 2 _).set 3 _
          br := ((((HY5.out.below hb57).other _ _ (by show base + 1 ≠ base; omega)).other _ _ (by show base + 1 ≠ base; omega)).other _ _ (by show base + 1 ≠ base; omega)).other _ _ (by show base + 1 ≠ base; omega)
          bel := ((((HB5.out.trans (hb57.mono (by omega))).setCell (Nat.le_refl _) _).setCell (Nat.le_refl _) _).setCell (Nat.le_refl _) _).setCell (Nat.le_refl _) _ })
      have HX56 := hid (HX5.out.below HB6.out)
      by_cases heq : newC q4 n = (nth q4.funcs n).code
      · have hpq : put q4 n (newC q4 n) = q4 := by rw [heq, put_self q4 n HLQ.out]
        have H := HCE.out
        rw [eqC_true hpq.symm] at H
        refine H.mono ?_
        rintro e w7 ⟨rfl, hb7⟩
        have hs7 := HFIN.out w7 hb7 (fun r hr => by rw [hpq] at hr; exact hr)
        rw [hpq] at hs7
        have HS7 := hid hs7
        have HEQ := hid heq
        have hx7 := HX56.out.below hb7
        have y0 := hx7.cell 0 _ rfl
        have y1 := hx7.cell 1 _ rfl
        have y2 := hx7.cell 2 _ rfl
        have y3 := hx7.cell 3 _ rfl
        have v0 := hx7.frozen 0
        have v1 := hx7.frozen 1
        have v2 := hx7.frozen 2
        have v3 := hx7.frozen 3
        have y7 := hx7.lt
        have hx8 := HX6.out.below hb7
        have d0 := hx8.cell 0 _ rfl
        have d1 := hx8.cell 1 _ rfl
        have d2 := hx8.cell 2 _ rfl
        have d3 := hx8.cell 3 _ rfl
        have dz := hx8.lt
        have n1 : ¬ (w5.heap.size = base) := by omega
        clear hpq H hb7 hs7 heq hx7 hx8
        go_wp2_with fail
        go_roundg 0
        case measure => have := HM.out; omega
        case rel => exact ⟨false, q4, g5, cap5, ga5, gc5, la5, lc5, ss5, rs5, rfl, HS7.out, fun h => by simp at h, fun _ => HEQ.out⟩
      · have hpn : ¬ (q4 = put q4 n (newC q4 n)) := fun h => heq (by
          have h2 : (nth q4.funcs n).code = (nth (put q4 n (newC q4 n)).funcs n).code := by rw [← h]
          rw [put_at q4 n _ HLQ.out] at h2
          exact h2.symm)
        have H := HCE.out
        rw [eqC_false hpn] at H
        refine H.mono ?_
        rintro e w7 ⟨rfl, hb7⟩
        have HS7 := hid (HFIN.out w7 hb7 (fun r hr => .go q4 n r HLQ.out heq hr))
        have HEQ := hid heq
        have hx7 := HX56.out.below hb7
        have y0 := hx7.cell 0 _ rfl
        have y1 := hx7.cell 1 _ rfl
        have y2 := hx7.cell 2 _ rfl
        have y3 := hx7.cell 3 _ rfl
        have v0 := hx7.frozen 0
        have v1 := hx7.frozen 1
        have v2 := hx7.frozen 2
        have v3 := hx7.frozen 3
        have y7 := hx7.lt
        have hx8 := HX6.out.below hb7
        have d0 := hx8.cell 0 _ rfl
        have d1 := hx8.cell 1 _ rfl
        have d2 := hx8.cell 2 _ rfl
        have d3 := hx8.cell 3 _ rfl
        have dz := hx8.lt
        have n1 : ¬ (w5.heap.size = base) := by omega
        have HWG := hid (wgt_round HS4.out.ok n HLQ.out heq)
        clear hpn H hb7 heq hx7 hx8
        go_wp2_with fail
        go_roundg (wgt (newC q4 n) + 2)
        case measure => have h1 := HM.out; have h2 := HWG.out; omega
        case rel => exact ⟨true, put q4 n (newC q4 n), g5, cap5, ga5, gc5, la5, lc5, ss5, rs5, rfl, HS7.out, fun _ => by rw [put_at q4 n _ HLQ.out]; exact Nat.lt_succ_self _, fun h => by simp at h⟩
  · have hke : n = p.funcs.length := by omega
    have HKE := hid hke
    have f1 := HS.out.bx.cell 1 _ rfl
    have f2 := HS.out.bx.cell 2 _ rfl
    have f3 := HS.out.bx.cell 3 _ rfl
    have r0 := HS.out.br.cell 0 _ rfl
    have r1 := HS.out.br.cell 1 _ rfl
    have r2 := HS.out.br.cell 2 _ rfl
    have r3 := HS.out.br.cell 3 _ rfl
    have v0 := HS.out.br.frozen 0
    have v1 := HS.out.br.frozen 1
    have v2 := HS.out.br.frozen 2
    have v3 := HS.out.br.frozen 3
    have y7 := HS.out.br.lt
    have hE := ((((HS.out.br.set 0 (.slice (some ⟨g3, 0, none⟩) p.funcs.length cap3)).set 1 (.slice ga3 p.globals.length gc3)).set 2 (.slice la3 p.layouts.length lc3)).set 3 (.int .i64 p.main))
    have g0 := hE.cell 0 _ rfl
    have g1 := hE.cell 1 _ rfl
    have g2 := hE.cell 2 _ rfl
    have g3' := hE.cell 3 _ rfl
    have HGG := hid (And.intro g0 (And.intro g1 (And.intro g2 g3')))
    have hne : g3 ≠ base + 1 := by have := HS.out.out.back.1; omega
    have HOE := hid ((((HS.out.out.aside (Only.store _ (base + 1) 0 (.slice (some ⟨g3, 0, none⟩) p.funcs.length cap3)) (.inr (by omega)) hne).aside (Only.store _ (base + 1) 1 (.slice ga3 p.globals.length gc3)) (.inr (by omega)) hne).aside (Only.store _ (base + 1) 2 (.slice la3 p.layouts.length lc3)) (.inr (by omega)) hne).aside (Only.store _ (base + 1) 3 (.int .i64 p.main)) (.inr (by omega)) hne)
    have HBE := hid ((((HS.out.bel.setCell (p := ⟨base + 1, 0, none⟩) (by show base ≤ base + 1; omega) (.slice (some ⟨g3, 0, none⟩) p.funcs.length cap3)).setCell (p := ⟨base + 1, 1, none⟩) (by show base ≤ base + 1; omega) (.slice ga3 p.globals.length gc3)).setCell (p := ⟨base + 1, 2, none⟩) (by show base ≤ base + 1; omega) (.slice la3 p.layouts.length lc3)).setCell (p := ⟨base + 1, 3, none⟩) (by show base ≤ base + 1; omega) (.int .i64 p.main))
    have hat := HOE.out.at (valid_pos HS.out.ok).2
    rw [HS.out.sam.len] at hat
    have HATE := hid hat
    have n9 : ¬ (base = base + 1) := by omega
    have n10 : ¬ (base + 1 = base) := by omega
    clear hE g0 g1 g2 g3' hat hke
    go_wp2_with fail
    obtain ⟨g0, g1, g2, g3'⟩ := HGG.out
    exact bodyPost_ret (v := .agg #[.slice (some ⟨g3, 0, none⟩) p.funcs.length cap3, .slice ga3 p.globals.length gc3, .slice la3 p.layouts.length lc3, .int .i64 p.main]) (by simp [results, Tryz.results10, go_sem, g0, g1, g2, g3']) rfl ⟨_, _, _, q, by rw [HS.out.sam.main], HS.out.go q (.done q n (by rw [HS.out.sam.len, HKE.out]; exact Nat.le_refl _)), HATE.out, by rw [HBS.out]; exact HBE.out⟩

end Go.Proofs.YteiohnfmlabelaaGreat

/-
  The reference's Prune of an invalid program, and its Clean.
-/
namespace Go.Proofs.YteiohnfmlabelaaGreat
set_option linter.unusedVariables false
set_option linter.unusedSimpArgs false
open Go.RowKit

set_option maxRecDepth 100000 in
set_option maxHeartbeats 2000000 in
theorem rprune_no (lo : Nat) (vf vg vl : Value) (p : Prg) (w : World) (hp : ProgAt lo w vf vg vl p) (hv : validB p = false) :
    Calls Tryz.prog 10 #[.agg #[vf, vg, vl, .int .i64 p.main]] w fun e w' => e = .returned (.agg #[.slice none 0 0, .slice none 0 0, .slice none 0 0, .int .i64 0]) ∧ Below w.heap.size w w' := by
  have HP := hid hp
  have HV := hid hv
  obtain ⟨fa, fc, _, _, _, rfl, -⟩ := hp.funcs.open
  obtain ⟨ga, gc, _, _, rfl, -⟩ := hp.globs.open
  obtain ⟨la, lc, _, _, _, rfl, -⟩ := hp.lays.open
  obtain ⟨base, hbase⟩ : ∃ base, w.heap.size = base := ⟨_, rfl⟩
  have HBS := hid hbase
  clear hp hv
  go_enter Tryz.func10, Tryz.ntmps10
  go_wp2_with fail
  generalize hW : World.alloc _ _ = W
  have hbW : Below base w W := by rw [← hW, ← hbase]; exact ((Below.refl _ _).alloc (Nat.le_refl _) _).alloc (by simp) _
  have R1 := hid (show BoxAt W base 26 [.slice fa p.funcs.length fc, .slice ga p.globals.length gc, .slice la p.layouts.length lc, .int .i64 p.main] by
    rw [← hW]
    exact (BoxAt.new w _ _ _ _ hbase.symm rfl).alloc _)
  have R2 := hid (show BoxAt W (base + 1) 26 [.slice none 0 0, .slice none 0 0, .slice none 0 0, .int .i64 0] by
    rw [← hW]
    exact BoxAt.new _ _ _ _ _ (by simp [hbase]) rfl)
  have HBW := hid hbW
  clear hW
  have c0 := R1.out.cell 0 _ rfl
  have c1 := R1.out.cell 1 _ rfl
  have c2 := R1.out.cell 2 _ rfl
  have c3 := R1.out.cell 3 _ rfl
  have s1 := R1.out.lt
  go_wp2_with fail
  clear c0 c1 c2 c3 s1
  refine (valid_calls lo _ _ _ p W (HP.out.below (by rw [hbase]; exact hbW))).mono ?_
  rw [HV.out]
  rintro e W1 ⟨rfl, hb1⟩
  have HR2 := hid (R2.out.below hb1)
  have HBW1 := hid (show Below base w W1 from hbW.trans (hb1.mono (by have := hbW.size; rw [HBS.out] at this; exact this)))
  have HLE := hid (show base ≤ W1.heap.size by have := HBW1.out.size; rw [HBS.out] at this; exact this)
  have y0 := HR2.out.cell 0 _ rfl
  have y1 := HR2.out.cell 1 _ rfl
  have y2 := HR2.out.cell 2 _ rfl
  have y3 := HR2.out.cell 3 _ rfl
  have v0 := HR2.out.frozen 0
  have v1 := HR2.out.frozen 1
  have v2 := HR2.out.frozen 2
  have v3 := HR2.out.frozen 3
  have y7 := HR2.out.lt
  have hE := ((((HR2.out.set 0 (.slice none 0 0)).set 1 (.slice none 0 0)).set 2 (.slice none 0 0)).set 3 (.int .i64 0))
  have g0 := hE.cell 0 _ rfl
  have g1 := hE.cell 1 _ rfl
  have g2 := hE.cell 2 _ rfl
  have g3 := hE.cell 3 _ rfl
  have HGG := hid (And.intro g0 (And.intro g1 (And.intro g2 g3)))
  have HBE := hid (((((HBW1.out.setCell (p := ⟨base + 1, 0, none⟩) (by show _ ≤ base + 1; omega) (.slice none 0 0)).setCell (p := ⟨base + 1, 1, none⟩) (by show _ ≤ base + 1; omega) (.slice none 0 0)).setCell (p := ⟨base + 1, 2, none⟩) (by show _ ≤ base + 1; omega) (.slice none 0 0)).setCell (p := ⟨base + 1, 3, none⟩) (by show _ ≤ base + 1; omega) (.int .i64 0)))
  clear hE g0 g1 g2 g3 hb1 hbW
  go_wp2_with fail
  obtain ⟨g0, g1, g2, g3⟩ := HGG.out
  exact bodyPost_ret (v := .agg #[.slice none 0 0, .slice none 0 0, .slice none 0 0, .int .i64 0]) (by simp [results, Tryz.results10, go_sem, g0, g1, g2, g3]) rfl ⟨rfl, by rw [HBS.out]; exact HBE.out⟩

noncomputable def planRC : Plan := mkPlan (regionOf Tryz.f12 1) [(1, .new), (4, .new), (6, .new)] []
noncomputable def planRCn : Plan := mkPlan (regionOf Tryz.f12 1) [(1, .new), (3, .skip), (4, .skip), (5, .skip), (6, .skip)] []

set_option maxRecDepth 100000 in
set_option maxHeartbeats 2000000 in
theorem rclean_yes (lo : Nat) (vf vg vl : Value) (p : Prg) (w : World) (hp : ProgAt lo w vf vg vl p) (hwf : PrgWf p) (hv : validB p = true) :
    Calls Tryz.prog 12 #[.agg #[vf, vg, vl, .int .i64 p.main]] w fun e w' => ∃ q, e = .returned (.bool (eqC q p)) ∧ Prn p 0 q ∧ Below w.heap.size w w' := by
  have HP := hid hp
  have HV := hid hv
  have HWF := hid hwf
  obtain ⟨fa, fc, _, _, _, rfl, -⟩ := hp.funcs.open
  obtain ⟨ga, gc, _, _, rfl, -⟩ := hp.globs.open
  obtain ⟨la, lc, _, _, _, rfl, -⟩ := hp.lays.open
  clear hp hv hwf
  go_enter Tryz.func12, Tryz.ntmps12
  go_wp2_with fail
  generalize hW : World.alloc _ _ = W
  have hbx := show BoxAt W w.heap.size 26 [.slice fa p.funcs.length fc, .slice ga p.globals.length gc, .slice la p.layouts.length lc, .int .i64 p.main] by rw [← hW]; exact BoxAt.new _ _ _ _ _ rfl rfl
  have hbW : Below w.heap.size w W := by rw [← hW]; exact (Below.refl _ _).alloc (Nat.le_refl _) _
  have HBW := hid hbW
  have c0 := hbx.cell 0 _ rfl
  have c1 := hbx.cell 1 _ rfl
  have c2 := hbx.cell 2 _ rfl
  have c3 := hbx.cell 3 _ rfl
  have s1 := hbx.lt
  have HPW := hid (HP.out.below hbW)
  clear hW hbW hbx
  refine Plan.wp_chain planRC W.heap.size (by kernel_rfl) rfl (by kernel_rfl) (by kernel_rfl) ?_
  repeat (first | (apply Plan.chain_skip rfl rfl; simp only [Act.put, List.setIfInBounds_toArray, List.set_cons_zero, List.set_cons_succ]) | (apply Plan.chain_det rfl rfl; (· intro w' hb; obtain ⟨hcl, hfz⟩ := bcellB hb; go_simp; rfl); simp only [Act.put, List.setIfInBounds_toArray, List.set_cons_zero, List.set_cons_succ]))
  refine Plan.chain_call 13 #[.agg #[.slice fa p.funcs.length fc, .slice ga p.globals.length gc, .slice la p.layouts.length lc, .int .i64 p.main]] (fun v w' => v = .bool true ∧ Below W.heap.size W w') rfl rfl rfl (by go_simp) ?_ (fun v w' h => h.2) (fun va w3 h => ?_)
  · refine (valid_calls lo _ _ _ p W.drew (HPW.out.below (Below.refl _ _).drew)).mono ?_
    rw [HV.out]
    rintro e w' ⟨rfl, hb⟩
    exact ⟨_, rfl, rfl, (Below.refl _ _).drew.trans hb⟩
  obtain ⟨rfl, hb3⟩ := h
  simp only [Act.put, List.setIfInBounds_toArray, List.set_cons_zero, List.set_cons_succ]
  have HB3 := hid hb3
  clear hb3
  repeat (first | (apply Plan.chain_skip rfl rfl; simp only [Act.put, List.setIfInBounds_toArray, List.set_cons_zero, List.set_cons_succ]) | (apply Plan.chain_det rfl rfl; (· intro w' hb; obtain ⟨hcl, hfz⟩ := bcellB hb; go_simp; rfl); simp only [Act.put, List.setIfInBounds_toArray, List.set_cons_zero, List.set_cons_succ]))
  refine Plan.chain_call 10 #[.agg #[.slice fa p.funcs.length fc, .slice ga p.globals.length gc, .slice la p.layouts.length lc, .int .i64 p.main]] (fun v w' => (∃ uf uf' uc' ug ug' uc ul ul' uc2 q, v = .agg #[.slice uf uf' uc', .slice ug ug' uc, .slice ul ul' uc2, .int .i64 q.main] ∧ Prn p 0 q ∧ ProgAt 0 w' (.slice uf uf' uc') (.slice ug ug' uc) (.slice ul ul' uc2) q) ∧ Below W.heap.size W w') rfl rfl rfl (by go_simp) ?_ (fun v w' h => h.2) (fun va w4 h => ?_)
  · refine (rprune_yes lo _ _ _ p w3 (HPW.out.below HB3.out) HWF.out HV.out).mono ?_
    rintro e w' ⟨uf, ug, ul, q, rfl, hpr, hat, hb⟩
    obtain ⟨b5, b6, _, _, _, rfl, -⟩ := hat.funcs.open
    obtain ⟨b1, b2, _, _, rfl, -⟩ := hat.globs.open
    obtain ⟨b3, b4, _, _, _, rfl, -⟩ := hat.lays.open
    exact ⟨_, rfl, ⟨_, _, _, _, _, _, _, _, _, q, rfl, hpr, hat⟩, HB3.out.trans (hb.mono HB3.out.size)⟩
  obtain ⟨⟨uf, uf', uc', ug, ug', uc, ul, ul', uc2, q, rfl, hpr, hat⟩, hb4⟩ := h
  simp only [Act.put, List.setIfInBounds_toArray, List.set_cons_zero, List.set_cons_succ]
  have HPR := hid hpr
  have HAT := hid hat
  have HB4 := hid hb4
  clear hpr hat hb4
  repeat (first | (apply Plan.chain_skip rfl rfl; simp only [Act.put, List.setIfInBounds_toArray, List.set_cons_zero, List.set_cons_succ]) | (apply Plan.chain_det rfl rfl; (· intro w' hb; obtain ⟨hcl, hfz⟩ := bcellB hb; go_simp; rfl); simp only [Act.put, List.setIfInBounds_toArray, List.set_cons_zero, List.set_cons_succ]))
  refine Plan.chain_call 7 #[.agg #[.slice uf uf' uc', .slice ug ug' uc, .slice ul ul' uc2, .int .i64 q.main], .agg #[.slice fa p.funcs.length fc, .slice ga p.globals.length gc, .slice la p.layouts.length lc, .int .i64 p.main]] (fun v w' => v = .bool (eqC q p) ∧ Below W.heap.size W w') rfl rfl rfl (by go_simp) ?_ (fun v w' h => h.2) (fun va w5 h => ?_)
  · refine (requal_calls 0 lo _ _ _ _ _ _ q p w4 HAT.out (HPW.out.below HB4.out)).mono ?_
    rintro e w' ⟨rfl, hb⟩
    exact ⟨_, rfl, rfl, HB4.out.trans (hb.mono HB4.out.size)⟩
  obtain ⟨rfl, hb5⟩ := h
  simp only [Act.put, List.setIfInBounds_toArray, List.set_cons_zero, List.set_cons_succ]
  have HB5 := hid hb5
  clear hb5
  repeat (first | (apply Plan.chain_skip rfl rfl; simp only [Act.put, List.setIfInBounds_toArray, List.set_cons_zero, List.set_cons_succ]) | (apply Plan.chain_det rfl rfl; (· intro w' hb; obtain ⟨hcl, hfz⟩ := bcellB hb; go_simp; rfl); simp only [Act.put, List.setIfInBounds_toArray, List.set_cons_zero, List.set_cons_succ]))
  refine Plan.chain_nil ?_
  go_wp2_with fail
  go_ret
  exact ⟨q, rfl, HPR.out, HBW.out.trans (HB5.out.mono HBW.out.size)⟩

set_option maxRecDepth 100000 in
set_option maxHeartbeats 2000000 in
theorem rclean_no (lo : Nat) (vf vg vl : Value) (p : Prg) (w : World) (hp : ProgAt lo w vf vg vl p) (hv : validB p = false) :
    Calls Tryz.prog 12 #[.agg #[vf, vg, vl, .int .i64 p.main]] w fun e w' => e = .returned (.bool false) ∧ Below w.heap.size w w' := by
  have HP := hid hp
  have HV := hid hv
  obtain ⟨fa, fc, _, _, _, rfl, -⟩ := hp.funcs.open
  obtain ⟨ga, gc, _, _, rfl, -⟩ := hp.globs.open
  obtain ⟨la, lc, _, _, _, rfl, -⟩ := hp.lays.open
  clear hp hv
  go_enter Tryz.func12, Tryz.ntmps12
  go_wp2_with fail
  generalize hW : World.alloc _ _ = W
  have hbx := show BoxAt W w.heap.size 26 [.slice fa p.funcs.length fc, .slice ga p.globals.length gc, .slice la p.layouts.length lc, .int .i64 p.main] by rw [← hW]; exact BoxAt.new _ _ _ _ _ rfl rfl
  have hbW : Below w.heap.size w W := by rw [← hW]; exact (Below.refl _ _).alloc (Nat.le_refl _) _
  have HBW := hid hbW
  have c0 := hbx.cell 0 _ rfl
  have c1 := hbx.cell 1 _ rfl
  have c2 := hbx.cell 2 _ rfl
  have c3 := hbx.cell 3 _ rfl
  have s1 := hbx.lt
  have HPW := hid (HP.out.below hbW)
  clear hW hbW hbx
  refine Plan.wp_chain planRCn W.heap.size (by kernel_rfl) rfl (by kernel_rfl) (by kernel_rfl) ?_
  repeat (first | (apply Plan.chain_skip rfl rfl; simp only [Act.put, List.setIfInBounds_toArray, List.set_cons_zero, List.set_cons_succ]) | (apply Plan.chain_det rfl rfl; (· intro w' hb; obtain ⟨hcl, hfz⟩ := bcellB hb; go_simp; rfl); simp only [Act.put, List.setIfInBounds_toArray, List.set_cons_zero, List.set_cons_succ]))
  refine Plan.chain_call 13 #[.agg #[.slice fa p.funcs.length fc, .slice ga p.globals.length gc, .slice la p.layouts.length lc, .int .i64 p.main]] (fun v w' => v = .bool false ∧ Below W.heap.size W w') rfl rfl rfl (by go_simp) ?_ (fun v w' h => h.2) (fun va w3 h => ?_)
  · refine (valid_calls lo _ _ _ p W.drew (HPW.out.below (Below.refl _ _).drew)).mono ?_
    rw [HV.out]
    rintro e w' ⟨rfl, hb⟩
    exact ⟨_, rfl, rfl, (Below.refl _ _).drew.trans hb⟩
  obtain ⟨rfl, hb3⟩ := h
  simp only [Act.put, List.setIfInBounds_toArray, List.set_cons_zero, List.set_cons_succ]
  have HB3 := hid hb3
  clear hb3
  repeat (first | (apply Plan.chain_skip rfl rfl; simp only [Act.put, List.setIfInBounds_toArray, List.set_cons_zero, List.set_cons_succ]) | (apply Plan.chain_det rfl rfl; (· intro w' hb; obtain ⟨hcl, hfz⟩ := bcellB hb; go_simp; rfl); simp only [Act.put, List.setIfInBounds_toArray, List.set_cons_zero, List.set_cons_succ]))
  refine Plan.chain_nil ?_
  go_wp2_with fail
  go_ret
  exact ⟨rfl, HBW.out.trans (HB3.out.mono HBW.out.size)⟩

end Go.Proofs.YteiohnfmlabelaaGreat
