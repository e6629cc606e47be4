import Derived.Test.YtiaajdckhedofaaOrder
import Derived.Test.YtiaajdckhedofaaRBlk
namespace Go.Proofs.Ytiaajdckhedofaa
set_option linter.unusedVariables false
set_option linter.unusedSimpArgs false
open Go.RowKit

theorem infoBE : (Try.prog.info? 4).map (fun i => (i.zero, i.size, i.bytes)) = some (some (.bool false), boolE.sz, 1) := by kernel_rfl

set_option maxRecDepth 100000 in
set_option maxHeartbeats 10000000 in
theorem rsearch_calls (lo0 : Nat) (vb : Value) (L : List Blk) (n : Nat) (hn : n = L.length) (hn2 : n ≤ 1000) (hnx : ∀ i, i < n → ∀ y ∈ (nth L i).next, 0 ≤ y ∧ y < n) :
    ∀ (f i : Nat) (lo : Nat) (w : World) (vs vd : Value) (x : List Bool × List Int) (k : Nat), BlksAt lo0 w vb L → BoolsAt lo w vs x.1 → IntsAt lo w vd x.2 → i < n → falses x.1 ≤ f → nth x.1 i = false → Fit n k x →
    Calls Try.prog 35 #[vb, .int .i64 i, vs, vd] w fun e w' => ∃ vs' vd', e = .returned (.tuple #[vs', vd']) ∧ BoolsAt 0 w' vs' (dfs (fun i => (nth L i).next) f i x).1 ∧ IntsAt 0 w' vd' (dfs (fun i => (nth L i).next) f i x).2 ∧ Below w.heap.size w w' := by
  subst hn
  intro f
  induction f with
  | zero =>
    intro i lo w vs vd x k hb hvs hvd hi hf hs hx
    have := falses_set x.1 i (by rw [hx.1]; exact hi) hs
    omega
  | succ f ih =>
    intro i lo w vs vd x k hb hvs hvd hi hf hs hx
    have hb' := hb
    obtain ⟨rows, hr1, hr2, hr3⟩ := hb'
    obtain ⟨ab, cb, bbk, ob, rfl, hnil, hpp, hcells, hlc, hcm, hl47⟩ := hr2
    obtain ⟨rfl, hlo⟩ := hpp (by omega)
    have hrl : rows.length = L.length := hr1
    rw [hrl] at ih hb ⊢
    obtain ⟨-, -, hnext⟩ := hr3 i (by omega)
    obtain ⟨na, nc, nb, no, hne, np, nd, nbl, nlo, nlc, ncm, n47⟩ := hnext.open
    obtain ⟨ena, enn, enc⟩ := Value.slice.inj hne
    have dn := hcells i 2 (by omega) (by decide)
    have dn' : w.cell? ⟨bbk, ob + i * 3 + 2, none⟩ = some (.slice na (nth L i).next.length nc) := by
      rw [show bE.sz = 3 from rfl] at dn
      rw [dn, ← ena, ← enn, ← enc]; rfl
    have hblt := World.block_lt_of_cell? _ _ dn'
    have HX := hid hx
    have HB := hid hb
    have HVS := hid hvs
    have HVD := hid hvd
    have hfs := falses_set x.1 i (by rw [hx.1]; exact hi) hs
    have hxl := hx.1
    clear hx hb hvs hvd dn hnext hs hr3 hcells
    go_enter Try.func35, Try.ntmps35
    have hB1 : Below w.heap.size w (w.alloc (.cells #[] 4)) := (Below.refl _ _).alloc (Nat.le_refl _) _
    go_wp2_with (
      at_builtin
      go_loud (refine wpList_append_E boolE (o := ⟨some 13, _, _, _, _, _⟩) rfl (.tmp 11) (.tmp 12) 40 rfl w.heap.size lo 4 _ 1 Try.underlying40 infoBE rfl [] x.1 (OwnE.lit boolE w w.heap.size 4 [] _ w.heap.size 0 rfl (Nat.le_refl _) rfl rfl (by simp)) (HVS.out.below hB1) (by simp; omega) (by simp only [maxLen]; simp; omega) (by simp) ?_)
      intro v2 w2 ho2 hg2
      have hb2 := hB1.trans (Below.grownE (B := w.heap.size) (Below.refl _ _) (OwnE.lit boolE w w.heap.size 4 [] #[] w.heap.size 0 rfl (Nat.le_refl _) rfl rfl (by simp)) hg2 (by simp) (Nat.le_refl _))
      rw [List.nil_append] at ho2
      obtain ⟨g, cap, rfl, hgg, hgl⟩ := ho2.open (by omega)
      rw [hxl] at ho2 ⊢
      have c0 := ho2.cellAt i 0 (by omega) (by decide)
      have z0 := ho2.frozenAt i
      rw [show boolE.sz = 1 from rfl, Nat.mul_one, Nat.add_zero] at c0
      have hii : (i : Int) < L.length := by omega
      have HO2 := hid ho2
      have HB2 := hid hb2
      clear ho2 hg2 hb2)
    generalize hW5 : World.setCell _ _ _ = W5
    have hs5 : BoolsAt 0 W5 (.slice (some ⟨g, 0, none⟩) L.length cap) (x.1.set i true) := by
      rw [← hW5]
      have := HO2.out.put i 0 (.bool true) true (by omega) (by decide) rfl
      rw [show boolE.sz = 1 from rfl, Nat.mul_one, Nat.add_zero] at this
      exact this.sl (Nat.zero_le _) (by rw [List.length_set]; omega)
    have hb5 : Below w.heap.size w W5 := by rw [← hW5]; exact HB2.out.setCell (show w.heap.size ≤ g by omega) _
    have hd5 : IntsAt 0 W5 vd x.2 := (HVD.out.below hb5).mono (Nat.zero_le _)
    have hfit5 : Fit L.length (k + 1) (x.1.set i true, x.2) := ⟨by rw [List.length_set]; exact HX.out.1, by have := HX.out.2; simp; omega⟩
    have hf5 : falses (x.1.set i true) ≤ f := by omega
    have HS5 := hid hs5
    have HB5 := hid hb5
    have HD5 := hid hd5
    clear hW5 hs5 hb5 hd5 c0 z0 HO2 HB2
    go_loopw [2, 3, 10] (fun vs' vd' i' wr => ∃ q : Nat, i' = .int .i64 q ∧ q ≤ (nth L i).next.length ∧ BoolsAt 0 wr vs' (((nth L i).next.take q).foldl (dfsStep (dfs (fun i => (nth L i).next) f)) (x.1.set i true, x.2)).1 ∧ IntsAt 0 wr vd' (((nth L i).next.take q).foldl (dfsStep (dfs (fun i => (nth L i).next) f)) (x.1.set i true, x.2)).2 ∧ Below w.heap.size w wr) (fun _ _ i' _ => (nth L i).next.length - (intOf i').toNat)
    case atStart => exact ⟨0, rfl, Nat.zero_le _, HS5.out, HD5.out, HB5.out⟩
    case round =>
      clear HS5 HB5 HD5
      obtain ⟨q, rfl, hq, hS, hD, hbw⟩ := hrel
      have hff := fold_fit (fun i => (nth L i).next) L.length hnx f (k + 1) ((nth L i).next.take q) (x.1.set i true, x.2) (fun y hy => hnx i hi y (List.mem_of_mem_take hy)) hfit5 hf5
      have htk := fun h => fold_take (dfsStep (dfs (fun i => (nth L i).next) f)) (nth L i).next (x.1.set i true, x.2) q h
      generalize hz : ((nth L i).next.take q).foldl (dfsStep (dfs (fun i => (nth L i).next) f)) (x.1.set i true, x.2) = z at *
      have HTK := hid htk
      have HZ := hid hz
      clear htk hz
      have d1 := (hbw.cell (p := ⟨bbk, ob + i * 3 + 2, none⟩) hblt).trans dn'
      have q1 : bbk < wr.heap.size := by have h1 := hbw.size; have h2 : bbk < w.heap.size := hblt; omega
      by_cases hqN : q < (nth L i).next.length
      · have ea := np (by omega)
        subst ea
        have hyr := hnx i hi _ (nth_mem _ q hqN)
        obtain ⟨y, hy⟩ : ∃ y : Nat, nth (nth L i).next q = y := ⟨(nth (nth L i).next q).toNat, by omega⟩
        have hyl : y < L.length := by omega
        have dd := nd q hqN
        rw [hy] at dd
        have hnbl := World.block_lt_of_cell? _ _ dd
        have d2 := (hbw.cell (p := ⟨nb, no + q, none⟩) hnbl).trans dd
        have q2 : nb < wr.heap.size := by have h1 := hbw.size; have h2 : nb < w.heap.size := hnbl; omega
        have hzl : z.1.length = L.length := hff.1.1
        obtain ⟨sa, sc, sb, so, rfl, sp, sd, sbl, slo, slc, scm, s47⟩ := hS.open
        have es := sp (by omega)
        subst es
        have c0 := sd y (by omega)
        have hSL := hS
        rw [hzl] at hSL ⊢
        have hyi : (y : Int) < L.length := by omega
        have hqi : (q : Int) < (nth L i).next.length := by omega
        have HSL := hid hSL
        have HDL := hid hD
        have HBW := hid hbw
        clear hS hSL hD hbw dd sd
        cases hzy : nth z.1 y with
        | true =>
          rw [hzy] at c0
          have HZY := hid hzy
          clear hzy
          go_wp2_with fail
          have hst : dfsStep (dfs (fun i => (nth L i).next) f) z (y : Int) = z := by
            unfold dfsStep
            rw [Int.toNat_natCast, if_pos HZY.out]
          refine ⟨⟨q + 1, by go_num, by omega, ?_, ?_, HBW.out⟩, by simp [intOf]; omega⟩
          · rw [HTK.out hqN, hy, hst]; exact HSL.out
          · rw [HTK.out hqN, hy, hst]; exact HDL.out
        | false =>
          rw [hzy] at c0
          have HZY := hid hzy
          clear hzy
          go_wp2_with fail
          refine (ih y 0 _ _ _ z (k + 1) (HB.out.below HBW.out) HSL.out HDL.out hyl (by omega) HZY.out hff.1).mono ?_
          rintro e w6 ⟨vs6, vd6, rfl, hs6, hd6, hb6⟩
          have HS6 := hid hs6
          have HD6 := hid hd6
          have HB6 := hid (HBW.out.trans (hb6.mono (by have := HBW.out.size; omega)))
          clear hs6 hd6 hb6
          go_wp2_with fail
          have hst : dfsStep (dfs (fun i => (nth L i).next) f) z (y : Int) = dfs (fun i => (nth L i).next) f y z := by
            unfold dfsStep
            rw [Int.toNat_natCast, if_neg (by rw [HZY.out]; simp)]
          refine ⟨⟨q + 1, by go_num, by omega, ?_, ?_, HB6.out⟩, by simp [intOf]; omega⟩
          · rw [HTK.out hqN, hy, hst]; exact HS6.out
          · rw [HTK.out hqN, hy, hst]; exact HD6.out
      · have hqe : q = (nth L i).next.length := by omega
        have hzz : z = (nth L i).next.foldl (dfsStep (dfs (fun i => (nth L i).next) f)) (x.1.set i true, x.2) := by
          rw [← HZ.out, List.take_of_length_le (by omega)]
        have HZZ := hid hzz
        clear hzz
        have hzl : z.2.length ≤ 1000 := by have := hff.1.2; omega
        have HSL := hid hS
        have HDL := hid hD
        have HBW := hid hbw
        clear hS hD hbw
        have hB7 : Below wr.heap.size wr (wr.alloc (.cells #[] 3)) := (Below.refl _ _).alloc (Nat.le_refl _) _
        have hwz := HBW.out.size
        go_wp2_with (
          at_builtin
          first
          | (refine wpList_append_E intE (o := ⟨some 57, _, _, _, _, _⟩) rfl (.tmp 55) (.tmp 56) 35 rfl wr.heap.size 0 3 _ 8 Try.underlying35 infoIE rfl [] z.2 (OwnE.lit intE wr wr.heap.size 3 [] _ wr.heap.size 0 rfl (Nat.le_refl _) rfl rfl (by simp)) (HDL.out.below hB7) (by simp; omega) (by simp only [maxLen]; simp; omega) (by simp) ?_
             intro v2 w2 ho2 hg2
             have hb2 := hB7.trans (Below.grownE (B := wr.heap.size) (Below.refl _ _) (OwnE.lit intE wr wr.heap.size 3 [] #[] wr.heap.size 0 rfl (Nat.le_refl _) rfl rfl (by simp)) hg2 (by simp) (Nat.le_refl _))
             rw [List.nil_append] at ho2
             have hw2 := hb2.size
             have HO2 := hid ho2
             have HB2 := hid hb2
             clear ho2 hg2 hb2)
          | (refine wpList_append_one intE (o := ⟨some 60, _, _, _, _, _⟩) rfl (.tmp 57) (.tmp 59) 35 rfl wr.heap.size w2.heap.size 3 _ 8 Try.underlying35 infoIE rfl z.2 (i : Int) (HO2.out.alloc _) ((OwnE.lit intE w2 w2.heap.size 3 [(i : Int)] _ w2.heap.size 1 rfl (Nat.le_refl _) rfl rfl (by simp)).sl (Nat.le_refl _) (by simp)) (by omega) (by simp only [maxLen]; omega) (by simp; omega) ?_
             intro g3 cap3 w3 ho3 hg3 hl3 hb3
             have HO3 := hid ho3
             have HB3 := hid hb3
             clear ho3 hb3))
        go_ret2
        have hb9 : Below wr.heap.size wr w3 := (HB2.out.alloc (by omega) _).trans HB3.out
        have hres : dfs (fun i => (nth L i).next) (f + 1) i x = (z.1, z.2 ++ [(i : Int)]) := by rw [HZZ.out]; rfl
        rw [hres]
        exact ⟨_, _, rfl, HSL.out.below hb9, HO3.out.sl (Nat.zero_le _) (by simp; omega), HBW.out.trans (hb9.mono (by omega))⟩

end Go.Proofs.Ytiaajdckhedofaa

namespace Go.Proofs.Ytiaajdckhedofaa
set_option linter.unusedVariables false
set_option linter.unusedSimpArgs false
open Go.RowKit

theorem drop_rev (l : List Int) (k : Nat) (h : k < l.length) : (l.drop k).reverse = (l.drop (k + 1)).reverse ++ [nth l k] := by
  rw [List.drop_eq_getElem_cons h, List.reverse_cons, nth_eq _ _ h]

set_option maxRecDepth 100000 in
set_option maxHeartbeats 10000000 in
theorem rorder_calls (lo : Nat) (vc : Value) (nm : ByteArray) (pa re : Int) (l : List Ins) (w : World) (hc : CodeAt lo w vc l) (hj : Jok l) :
    Calls Try.prog 20 #[.agg #[.string nm, .int .i64 pa, .int .i64 re, vc]] w fun e w' => ∃ v', e = .returned v' ∧ IntsAt w.heap.size w' v' (orderL l) ∧ Below w.heap.size w w' := by
  have HC0 := hc
  obtain ⟨ca, cc, cb, co, rfl, cp, _, _, _, _, _, cbl, _, _, _, cn⟩ := hc.open
  have hpos := hj.pos
  have e1 := cp (by omega)
  subst e1
  have hbl' := cbl (by omega)
  clear cp cbl cn
  obtain ⟨hLp, hLm⟩ := blksL_pos l hj
  have hLx := nxL_in l hj
  go_enter Try.func20, Try.ntmps20
  go_wp2_with fail
  have hB0 : Below w.heap.size w (w.alloc (.cells #[.string nm, .int .i64 pa, .int .i64 re, .slice (some ⟨cb, co, none⟩) l.length cc] 29)) := (Below.refl _ _).alloc (Nat.le_refl _) _
  refine (rblocks_calls lo _ nm pa re l _ (hc.below hB0) hj).mono ?_
  rintro e W0 ⟨vb, rfl, hbk, hb1⟩
  have HB1 := hid (hB0.trans (hb1.mono (by simp)))
  have s1 : w.heap.size < W0.heap.size := by have := hb1.size; simp at this; omega
  have hbk2 := hbk
  obtain ⟨rows, hr1, ⟨ab, cbb, bbk, ob, rfl, _, hpp, _⟩, _⟩ := hbk2
  have hrl : rows.length = (blksL l).length := hr1
  rw [hrl] at hbk ⊢
  obtain ⟨rfl, _⟩ := hpp (by omega)
  have HBK := hid hbk
  unfold nxL at hLx
  have horder : orderL l = (dfs (fun i => (nth (blksL l) i).next) (blksL l).length 0 (List.replicate (blksL l).length false, [])).2.reverse := rfl
  have HORD := hid horder
  clear hbk hb1 hpp hr1 horder hrl
  generalize hL : blksL l = L at *
  have hmk := run_make_row' (P := Try.prog) 40 4 (.bool false) 1 Try.underlying40 infoB rfl .i64 .i64 L.length (by omega) (by omega)
  have hlz : ((L.length : Int) == 0) = false := beq_eq_false_iff_ne.2 (by omega)
  have hlz' : ¬ (L.length : Int) = 0 := by omega
  go_wp2_with fail
  have hrow := RowB.made W0 L.length
  have hB2 : Below W0.heap.size W0 (W0.alloc (.cells (madeCells #[.bool false] L.length) 4)) := (Below.refl _ _).alloc (Nat.le_refl _) _
  have hfit : Fit L.length 0 (List.replicate L.length false, []) := ⟨by simp, by simp [falses_replicate]⟩
  refine (rsearch_calls _ _ L L.length rfl hLm hLx L.length 0 0 _ _ _ (List.replicate L.length false, []) 0 (HBK.out.below hB2) (hrow.at 0 L.length (Nat.zero_le _) (by simp) (by simp; omega)) (SlE.nil _ _ _) (by omega) (by simp [falses_replicate]) (nth_replicate _ _ _ (by omega)) hfit).mono ?_
  rintro e w2 ⟨vs2, vd2, rfl, hs2, hd2, hb2⟩
  have hfin := (dfs_fit (fun i => (nth L i).next) L.length hLx L.length 0 (List.replicate L.length false, []) 0 (by omega) (by simp [falses_replicate]) (nth_replicate _ _ _ (by omega)) hfit).1
  generalize hz : dfs (fun i => (nth L i).next) L.length 0 (List.replicate L.length false, []) = z at *
  have hzl : z.2.length ≤ 1000 := by have := hfin.2; omega
  obtain ⟨da, dc, db, do', rfl, dp, dd, dbl, dlo, dlc, dcm, d47⟩ := hd2.open
  have HB2 := hid (HB1.out.trans ((hB2.trans (hb2.mono (by simp))).mono (by omega)))
  clear hrow hB2 hs2 hd2 hb2 hmk hlz hlz' hz
  have hw2 := HB2.out.size
  have hsub : IntKind.i64.wrap ((z.2.length : Int) - 1) = (z.2.length : Int) - 1 := IntWalk.i64_in _ (by omega)
  go_wp2_with fail
  go_loopw [6, 7] (fun v i wr => ∃ k : Nat, i = .int .i64 ((k : Int) - 1) ∧ k ≤ z.2.length ∧ OwnE intE w2.heap.size 3 wr v (z.2.drop k).reverse ∧ Below w2.heap.size w2 wr) (fun _ i _ => (intOf i + 1).toNat)
  case atStart => exact ⟨z.2.length, rfl, Nat.le_refl _, by rw [List.drop_length]; exact OwnE.nil _ _ _ _, Below.refl _ _⟩
  case round =>
    obtain ⟨k, rfl, hk, ho, hb⟩ := hrel
    have hwr := hb.size
    have HO := hid ho
    have HBR := hid hb
    cases k with
    | zero =>
      clear ho hb
      have t1 : decide ((0 : Int) ≤ ((0 : Nat) : Int) - 1) = false := by decide
      go_wp2_with fail
      go_ret
      refine ⟨_, rfl, ?_, HB2.out.trans (HBR.out.mono (by omega))⟩
      rw [HORD.out]
      exact HO.out.sl (by omega) (by simp; omega)
    | succ k =>
      have ea := dp (by omega)
      subst ea
      have d1 := (hb.cell (p := ⟨db, do' + k, none⟩) (dbl (by omega))).trans (dd k (by omega))
      have hdbl := dbl (by omega)
      have q1 : db < wr.heap.size := by omega
      have e : ((k + 1 : Nat) : Int) - 1 = k := by omega
      rw [e]
      have hkl : (k : Int) < z.2.length := by omega
      have hdrop : (z.2.drop (k + 1)).reverse.length ≤ 1000 := by simp; omega
      have HDR := hid (drop_rev z.2 k (by omega))
      clear ho hb
      go_wp2_with (
        at_builtin
        refine wpList_append_one intE (o := ⟨some 34, _, _, _, _, _⟩) rfl (.tmp 28) (.tmp 33) 35 rfl w2.heap.size wr.heap.size 3 _ 8 Try.underlying35 infoIE rfl (z.2.drop (k + 1)).reverse (nth z.2 k) (HO.out.alloc _) ((OwnE.lit intE wr wr.heap.size 3 [nth z.2 k] _ wr.heap.size 1 rfl (Nat.le_refl _) rfl rfl (by simp)).sl (Nat.le_refl _) (by simp)) (by omega) (by simp only [maxLen]; omega) (by simp; omega) ?_
        intro g3 cap3 w3 ho3 hg3 hl3 hb3
        have HO3 := hid ho3
        have HB3 := hid hb3
        clear ho3 hb3)
      refine ⟨⟨k, by go_num, by omega, ?_, HBR.out.trans (((Below.refl _ _).alloc hwr _).trans HB3.out)⟩, by simp [intOf]⟩
      rw [HDR.out]
      have h9 := HO3.out
      rw [List.length_reverse, List.length_drop] at h9
      exact h9

end Go.Proofs.Ytiaajdckhedofaa
