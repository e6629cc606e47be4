/-
  link.Split walked.
-/
import Derived.Test.YtealeofgfgbheaaZCValid2
import Derived.Test.YtealeofgfgbheaaZLkU
import Derived.Test.YtealeofgfgbheaaZLkAll
namespace Go.Proofs.Ytealeofgfgbheaa
set_option linter.unusedVariables false
set_option linter.unusedSimpArgs false
open Go.RowKit

set_option maxRecDepth 100000 in
set_option maxHeartbeats 8000000 in
theorem split_calls (lo : Nat) (vf vg vl : Value) (p : Prg) (w : World) (hp : ProgAt lo w vf vg vl p) (hwf : PrgWf p) :
    Calls Try.prog 19 #[.agg #[vf, vg, vl, .int .i64 p.main]] w fun e w' => ∃ v T, e = .returned v ∧ ProgsQ w.heap.size w' v (splitL p) T ∧ Below w.heap.size w w' := by
  have HP := hid hp
  have HWF := hid hwf
  obtain ⟨fa, fc, _, _, _, rfl, -⟩ := hp.funcs.open
  obtain ⟨ga, gc, _, _, rfl, -⟩ := hp.globs.open
  obtain ⟨la, lc, _, _, _, rfl, -⟩ := hp.lays.open
  clear hp hwf
  go_enter Try.func19, Try.ntmps19
  go_wp2_with fail
  generalize hW : World.alloc _ _ = W
  have hbW : Below w.heap.size w W := by rw [← hW]; exact (Below.refl _ _).alloc (Nat.le_refl _) _
  have R1 := hid (show BoxAt W w.heap.size 26 [.slice fa p.funcs.length fc, .slice ga p.globals.length gc, .slice la p.layouts.length lc, .int .i64 p.main] by rw [← hW]; exact BoxAt.new _ _ _ _ _ rfl rfl)
  have HBW := hid hbW
  have hWz : w.heap.size + 1 = W.heap.size := by rw [← hW]; simp
  have HWZ := hid hWz
  clear hW hbW hWz
  refine (cvalid_calls lo _ _ _ p W (HP.out.below HBW.out)).mono ?_
  rintro e w1 ⟨rfl, hb1⟩
  have HB1 := hid (bvia HBW.out hb1)
  have R2 := hid (R1.out.below hb1)
  have c0 := R2.out.cell 0 _ rfl
  have cz := R2.out.lt
  clear hb1 R1
  cases hv : validB p with
  | false =>
    have hs : splitL p = [] := by unfold splitL; rw [hv]; simp
    have HSP := hid hs
    clear hs hv
    go_wp2_with fail
    go_ret
    exact ⟨_, [], rfl, by rw [HSP.out]; exact ProgsQ.nil _ _, HB1.out⟩
  | true =>
    have HV := hid hv
    have h64 := (valid_pos hv).2
    clear hv
    by_cases hn : p.funcs.length < 64
    · have hlen : decide ((64 : Int) ≤ p.funcs.length) = false := decide_eq_false (by omega)
      have hlen2 : ¬ ((64 : Int) ≤ p.funcs.length) := by omega
      have hs : splitL p = (List.range p.funcs.length).map (partP p) := by unfold splitL; rw [if_pos ⟨HV.out, hn⟩]
      have HSP := hid hs
      clear hs hn
      go_wp2_with fail
      go_loopw [17, 3] (fun iv sv wr => ∃ (k : Nat) (T : List PV) (a : Option Addr) (c : Nat), k ≤ p.funcs.length ∧ iv = .int .i64 k ∧ sv = .slice a k c ∧ ProgsQ (w.heap.size + 1) wr (.slice a k c) ((List.range k).map (partP p)) T ∧ BoxAt wr w.heap.size 26 [.slice fa p.funcs.length fc, .slice ga p.globals.length gc, .slice la p.layouts.length lc, .int .i64 p.main] ∧ Below w.heap.size w wr) (fun iv _ _ => p.funcs.length - (intOf iv).toNat)
      case atStart => exact ⟨0, [], none, 0, Nat.zero_le _, rfl, rfl, ProgsQ.nil _ _, R2.out, HB1.out⟩
      case round =>
      clear c0 cz R2 HB1
      obtain ⟨k, T, a, c, hk, rfl, rfl, hq, hx, hb⟩ := hrel
      obtain ⟨wo, hwo⟩ : ∃ wo, wo = wr := ⟨_, rfl⟩
      subst hwo
      have HQ := hid hq
      have HX := hid hx
      have HB := hid hb
      have c0 := hx.cell 0 _ rfl
      have c1 := hx.cell 1 _ rfl
      have c2 := hx.cell 2 _ rfl
      have c3 := hx.cell 3 _ rfl
      have cz := hx.lt
      clear hq hx hb
      by_cases hlt : k < p.funcs.length
      · have hlt2 : (k : Int) < p.funcs.length := Int.ofNat_lt.2 hlt
        have hki : ¬ ((k : Int) < 0) := by omega
        go_wp2_with fail
        refine (part_calls lo _ _ _ p k wo (HP.out.below HB.out) HWF.out HV.out hlt).mono ?_
        rintro e w2 ⟨uf, ug, ul, rfl, hpq, hb2⟩
        obtain ⟨xf, xg, xl, rfl, rfl, rfl⟩ := hpq.slices
        have hww : w.heap.size + 1 ≤ wo.heap.size := HX.out.lt
        have HPQ := hid (hpq.mono hww)
        have HQ2 := hid (HQ.out.fresh (Only.below hb2 none))
        have HX2 := hid (HX.out.below hb2)
        have HB2 := hid (bvia HB.out hb2)
        have HZ := hid hb2.size
        have hTl : T.length = k := by rw [HQ.out.len]; simp
        clear hpq hb2 c0 c1 c2 c3 cz
        go_wp2_with (
          at_builtin
          go_loud (refine wpList_append_G prgE (o := ⟨some 25, _, _, _, _, _⟩) rfl (.tmp 20) (.tmp 24) 30 rfl (w.heap.size + 1) (w.heap.size + 1) 26 _ 80 Try.underlying30 infoPrg12 rfl T (xf, xg, xl, (partP p k).main) (HQ2.out.row.alloc _) (OwnE.sl (OwnE.lit prgE _ (w.heap.size + 1) 26 [(xf, xg, xl, (partP p k).main)] _ w2.heap.size 1 rfl (by have := HZ.out; omega) rfl rfl (by simp)) (Nat.le_refl _) (by simp)) (by rw [hTl]; omega) (by rw [hTl]; simp only [maxLen]; omega) (by have := HZ.out; simp; omega) ?_)
          intro g5 cap5 w5 ho5 hg5 _ _ hb5
          rw [hTl] at ho5 ⊢
          have hal : Only none w2 (w2.alloc (.cells #[xf.val, xg.val, xl.val, .int .i64 (partP p k).main] 26)) := Only.below ((Below.refl _ _).alloc (Nat.le_refl _) _) none
          have HS5 := hid ((HQ2.out.fresh hal).snoc (P := partP p k) (x := (xf, xg, xl, (partP p k).main)) hg5 ho5 rfl (HPQ.out.fresh hal))
          have HX5 := hid ((HX2.out.alloc (.cells #[xf.val, xg.val, xl.val, .int .i64 (partP p k).main] 26)).only (Only.grown hg5) (fun e => by have := (HQ2.out.row.lt _ e.symm).1; omega))
          have HB5 := hid ((HB2.out.alloc (by have := HZ.out; omega) (.cells #[xf.val, xg.val, xl.val, .int .i64 (partP p k).main] 26)).trans (hb5.mono (Nat.le_succ _)))
          clear hal ho5 hg5 hb5)
        refine ⟨⟨k + 1, _, _, _, hlt, rfl, rfl, by rw [List.range_succ, List.map_append]; exact HS5.out, HX5.out, HB5.out⟩, ?_⟩
        simp only [intOf]
        omega
      · have hke : k = p.funcs.length := by omega
        subst hke
        go_wp2_with fail
        go_ret
        exact ⟨_, T, rfl, by rw [HSP.out]; exact HQ.out.mono (Nat.le_succ _), HB.out⟩
    · have hlen : decide ((64 : Int) ≤ p.funcs.length) = true := decide_eq_true (by omega)
      have hlen2 : (64 : Int) ≤ p.funcs.length := by omega
      have hs : splitL p = [] := by unfold splitL; rw [if_neg (fun h => hn h.2)]
      have HSP := hid hs
      clear hs hn
      go_wp2_with fail
      go_ret
      exact ⟨_, [], rfl, by rw [HSP.out]; exact ProgsQ.nil _ _, HB1.out⟩

end Go.Proofs.Ytealeofgfgbheaa
