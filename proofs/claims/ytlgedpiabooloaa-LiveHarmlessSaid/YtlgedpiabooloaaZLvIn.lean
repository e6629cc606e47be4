/-
  Package live's In.
-/
import Derived.Test.YtlgedpiabooloaaZGrid
import Derived.Test.YtlgedpiabooloaaZCValid2
import Derived.Test.YtlgedpiabooloaaZLvSolve
namespace Go.Proofs.Ytlgedpiabooloaa
set_option linter.unusedVariables false
set_option linter.unusedSimpArgs false
open Go.RowKit

/-- A valid program has this function. -/
def thereB (p : Prg) (fn : Int) : Bool := decide (0 ≤ fn) && (decide (fn < p.funcs.length) && validB p)

set_option maxHeartbeats 2000000 in
theorem there_calls (lo : Nat) (vf vg vl : Value) (p : Prg) (fn : Int) (w : World) (hp : ProgAt lo w vf vg vl p) :
    Calls Try.prog 30 #[.agg #[vf, vg, vl, .int .i64 p.main], .int .i64 fn] w fun e w' => e = .returned (.bool (thereB p fn)) ∧ Below w.heap.size w w' := by
  have HP := hid hp
  obtain ⟨fa, fc, fb, fo, S, rfl, p1, _, _, _, _, _, k1, _, m1, n1⟩ := hp.funcs.open
  obtain ⟨ga, gc, _, _, rfl, _⟩ := hp.globs.open
  obtain ⟨la, lc, _, _, _, rfl, _⟩ := hp.lays.open
  clear hp p1 k1
  by_cases h1 : 0 ≤ fn
  · by_cases h2 : fn < p.funcs.length
    · have HE := hid (show thereB p fn = validB p by unfold thereB; rw [decide_eq_true h1, decide_eq_true h2]; rfl)
      go_enter Try.func30, Try.ntmps30
      have HB := hid (show Below w.heap.size w (w.alloc (.cells #[.slice fa p.funcs.length fc, .slice ga p.globals.length gc, .slice la p.layouts.length lc, .int .i64 p.main] 26)) from (Below.refl _ _).alloc (Nat.le_refl _) _)
      go_wp2_with (
        go_at_call 44
        refine (cvalid_calls lo _ _ _ p _ (HP.out.below HB.out)).mono ?_
        rintro e w1 ⟨rfl, hb1⟩)
      go_ret
      exact ⟨by rw [HE.out]; rfl, HB.out.trans (hb1.mono (by simp))⟩
    · have HE := hid (show thereB p fn = false by unfold thereB; rw [decide_eq_false h2]; simp)
      go_enter Try.func30, Try.ntmps30
      go_wp2_with fail
      go_ret
      exact ⟨by rw [HE.out]; rfl, (Below.refl _ _).alloc (Nat.le_refl _) _⟩
  · have HE := hid (show thereB p fn = false by unfold thereB; rw [decide_eq_false h1]; rfl)
    go_enter Try.func30, Try.ntmps30
    go_wp2_with fail
    go_ret
    exact ⟨by rw [HE.out]; rfl, (Below.refl _ _).alloc (Nat.le_refl _) _⟩

/-- The live registers before each instruction: none if there is no such function. -/
def InIs (p : Prg) (fn : Int) (L : List (List Int)) : Prop := (thereB p fn = false ∧ L = []) ∨ (thereB p fn = true ∧ IsLive p fn.toNat (nth p.funcs fn.toNat).code.length L)
theorem there_get {p : Prg} {fn : Int} (h : thereB p fn = true) : 0 ≤ fn ∧ fn < p.funcs.length ∧ validB p = true := by
  unfold thereB at h
  simp only [Bool.and_eq_true, decide_eq_true_eq] at h
  exact h

set_option maxRecDepth 100000 in
set_option maxHeartbeats 4000000 in
theorem in_calls (lo : Nat) (vf vg vl : Value) (p : Prg) (fn : Int) (w : World) (hp : ProgAt lo w vf vg vl p) :
    Calls Try.prog 10 #[.agg #[vf, vg, vl, .int .i64 p.main], .int .i64 fn] w fun e w' => ∃ v' L, e = .returned v' ∧ InIs p fn L ∧ LaysAt w.heap.size w' v' L ∧ Below w.heap.size w w' := by
  have HP := hid hp
  obtain ⟨fa, fc, fb, fo, S, rfl, p1, _, _, _, _, _, k1, _, m1, n1⟩ := hp.funcs.open
  obtain ⟨ga, gc, _, _, rfl, _⟩ := hp.globs.open
  obtain ⟨la, lc, _, _, _, rfl, _⟩ := hp.lays.open
  clear hp p1 k1
  cases ht : thereB p fn with
  | false =>
    have HT := hid ht
    clear ht
    go_enter Try.func10, Try.ntmps10
    have HB := hid (show Below w.heap.size w (w.alloc (.cells #[.slice fa p.funcs.length fc, .slice ga p.globals.length gc, .slice la p.layouts.length lc, .int .i64 p.main] 26)) from (Below.refl _ _).alloc (Nat.le_refl _) _)
    go_wp2_with (
      go_at_call 30
      refine (there_calls lo _ _ _ p fn _ (HP.out.below HB.out)).mono ?_
      rw [HT.out]
      rintro e w1 ⟨rfl, hb1⟩)
    go_ret
    exact ⟨_, [], rfl, .inl ⟨HT.out, rfl⟩, ⟨[], rfl, SlE.nil _ _ _, fun i hi => by simp at hi⟩, HB.out.trans (hb1.mono (by simp))⟩
  | true =>
    obtain ⟨h0, h1, hv⟩ := there_get ht
    obtain ⟨F, rfl⟩ := Int.eq_ofNat_of_zero_le h0
    have hF : F < p.funcs.length := by omega
    have hfok := fok_of_funcB (valid_func hv F hF)
    have hpos := hfok.pos
    have hle := hfok.le
    have HT := hid ht
    have HV := hid hv
    have HFL := hid hF
    obtain ⟨n, hn⟩ : ∃ n, (nth p.funcs F).code.length = n := ⟨_, rfl⟩
    have HN := hid hn
    rw [hn] at hpos hle
    have hmk := run_make_row' (P := Try.prog) 24 30 (.slice none 0 0) 24 Try.underlying24 infoRow rfl .i64 .i64 n (by omega) (by omega)
    clear ht hv hF hfok h0 h1 hn
    go_enter Try.func10, Try.ntmps10
    have HB := hid (show Below w.heap.size w (w.alloc (.cells #[.slice fa p.funcs.length fc, .slice ga p.globals.length gc, .slice la p.layouts.length lc, .int .i64 p.main] 26)) from (Below.refl _ _).alloc (Nat.le_refl _) _)
    go_wp2_with (first
      | (go_at_call 30
         refine (there_calls lo _ _ _ p _ _ (HP.out.below HB.out)).mono ?_
         rw [HT.out]
         rintro e w1 ⟨rfl, hb1⟩
         have HB1 := hid (HB.out.trans (hb1.mono (by simp)))
         have b0 : w1.cell? ⟨w.heap.size, 0, none⟩ = some (.slice fa p.funcs.length fc) := (hb1.cell (by simp)).trans (by simp)
         have b1 : w1.cell? ⟨w.heap.size, 1, none⟩ = some (.slice ga p.globals.length gc) := (hb1.cell (by simp)).trans (by simp)
         have b2 : w1.cell? ⟨w.heap.size, 2, none⟩ = some (.slice la p.layouts.length lc) := (hb1.cell (by simp)).trans (by simp)
         have b3 : w1.cell? ⟨w.heap.size, 3, none⟩ = some (.int .i64 p.main) := (hb1.cell (by simp)).trans (by simp)
         have b4 : w.heap.size < w1.heap.size := by have := hb1.size; simp at this; omega
         clear hb1)
      | (go_at_call 31
         go_loud (refine (solve_calls lo _ _ _ p F _ (HP.out.below HB1.out) HV.out HFL.out).mono ?_)
         rintro e w2 ⟨L, gb, ga', n', rfl, hn', hL, hbb, _, hgb, _, hb2⟩
         have e9 : n = n' := (hn'.trans HN.out).symm
         subst e9
         have HL := hid hL
         have HBB := hid hbb
         have HB2 := hid (bvia HB1.out hb2)
         have hgb2 := Nat.le_trans HB1.out.size hgb
         have hg2 := hbb.lt
         clear hbb hb2 hL hn' b0 b1 b2 b3))
    generalize hW : World.alloc _ _ = W
    have hg : GridAt w2.heap.size W (List.replicate n ⟨none, 0, 0⟩) (List.replicate n []) := by
      rw [← hW]
      exact GridAt.start n (BoxAt.new _ _ _ _ _ rfl (made_list _ _))
    have HBX := hid (show BoxAt W gb 55 (L.map setV) by rw [← hW]; exact HBB.out.alloc _)
    have HBW := hid (show Below w.heap.size w W by rw [← hW]; exact bone HB2.out _)
    have HG := hid hg
    have hLlen : L.length = n := by
      obtain ⟨⟨k, rfl⟩, _⟩ := HL.out
      exact HN.out ▸ (Fine.iter HV.out HFL.out k).len
    have HFN := hid (show Fine p F n L by
      obtain ⟨⟨k, e⟩, _⟩ := HL.out
      rw [e, ← HN.out]
      rw [HN.out]
      exact Fine.iter HV.out HFL.out k)
    clear hW hg
    go_wp2_with fail
    go_loopw [8, 9, 25] (fun _ _ i wr => ∃ (k : Nat) (ss : List Slc), k ≤ n ∧ i = .int .i64 k ∧ GridAt w2.heap.size wr ss (L.take k ++ List.replicate (n - k) []) ∧ BoxAt wr gb 55 (L.map setV) ∧ Below w.heap.size w wr) (fun _ _ i _ => n - (intOf i).toNat)
    case atStart => exact ⟨0, _, Nat.zero_le _, rfl, HG.out, HBX.out, HBW.out⟩
    case round =>
      obtain ⟨k, ss, hk, rfl, hgr, hbx, hbl⟩ := hrel
      obtain ⟨wo, hwo⟩ : ∃ wo, wo = wr := ⟨_, rfl⟩
      subst hwo
      have HGR := hid hgr
      have HBO := hid hbx
      have HBL := hid hbl
      have z1 := hgr.lt
      have z2 := hgr.box.frozen k
      clear hgr hbx hbl
      by_cases hlt : k < n
      · have hlt2 : (k : Int) < n := by omega
        have d0 : wo.cell? ⟨gb, k, none⟩ = some (.int .u64 (numS (nth L k))) := box_cell HBO.out k (by omega)
        have z3 := HBO.out.lt
        go_wp2_with (
          go_at_call 32
          refine (list_calls (setB (nth L k)) _).mono ?_
          rw [listB_setB (HFN.out.inc k) (HFN.out.reg k)]
          rintro e w3 ⟨v', rfl, hi, hb3⟩
          obtain ⟨a5, n5, c5, rfl⟩ := hi.slc
          have HI := hid hi
          have HB3 := hid hb3
          have z4 := (HGR.out.below hb3).lt
          have z5 := (HGR.out.below hb3).box.frozen k
          have hc5 : w3.cell? ⟨w2.heap.size, k, none⟩ = some (.slice (nth ss k).a (nth ss k).n (nth ss k).c) := (HGR.out.below hb3).cell k (by simp; omega)
          clear hi hb3)
        have hgn := (HGR.out.below HB3.out).put k ⟨a5, n5, c5⟩ (nth L k) (by simp; omega) (HI.out.mono (by have := z1; omega))
        have hset : (L.take k ++ List.replicate (n - k) []).set k (nth L k) = L.take (k + 1) ++ List.replicate (n - (k + 1)) [] := by
          have hl : (L.take k).length = k := by simp; omega
          rw [List.set_append_right _ _ (by omega), hl, Nat.sub_self, show n - k = (n - (k + 1)) + 1 by omega, List.replicate_succ, List.set_cons_zero, List.take_add_one, List.getElem?_eq_getElem (by omega), nth_eq _ _ (by omega)]
          simp only [Option.toList_some, List.append_assoc, List.singleton_append]
        rw [hset] at hgn
        have hne : gb ≠ w2.heap.size := by omega
        have hb5 : BoxAt (w3.setCell ⟨w2.heap.size, k, none⟩ (.slice a5 n5 c5)) gb 55 (L.map setV) := (HBO.out.below HB3.out).other _ _ hne
        have hb6 : Below w.heap.size w (w3.setCell ⟨w2.heap.size, k, none⟩ (.slice a5 n5 c5)) := bstore (bvia HBL.out HB3.out) _ _ _ HB2.out.size
        go_roundw
        case rel => exact ⟨k + 1, _, by omega, by go_num, hgn, hb5, hb6⟩
        case measure => simp [intOf] <;> omega
      · have HK := hid (show k = n by omega)
        go_wp2_with fail
        go_ret
        have hg9 := HGR.out
        rw [HK.out, Nat.sub_self, List.replicate_zero, List.append_nil, List.take_of_length_le (by omega)] at hg9
        exact ⟨_, L, rfl, .inr ⟨HT.out, by rw [Int.toNat_natCast, HN.out]; exact HL.out⟩, hg9.lays HB2.out.size hLlen (by omega), HBL.out⟩

end Go.Proofs.Ytlgedpiabooloaa
