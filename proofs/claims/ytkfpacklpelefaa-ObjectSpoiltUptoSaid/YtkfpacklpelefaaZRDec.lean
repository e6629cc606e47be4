/-
  The reference's Decode, walked.
-/
import Derived.Test.YtkfpacklpelefaaZValid
import Derived.Test.YtkfpacklpelefaaZODecR
import Derived.Test.YtkfpacklpelefaaZRRp
namespace Go.Proofs.Ytkfpacklpelefaa
set_option linter.unusedVariables false
set_option linter.unusedSimpArgs false
open Go.RowKit

set_option maxRecDepth 100000 in
theorem rdec_results (tmps : Array Value) (W : World) (b1 : Nat) (vf vg vl : Value) (m r : Int) (h2 : tmps.getD 2 undef = .pointer (some ⟨b1, 0, none⟩)) (h3 : tmps.getD 3 undef = .int .i64 r) (hb1 : BoxAt W b1 31 [vf, vg, vl, .int .i64 m]) :
    (results Try.f27 tmps).run Try.prog W = .ok (.tuple #[.agg #[vf, vg, vl, .int .i64 m], .int .i64 r]) W := by
  have c0 := hb1.cell 0 _ rfl
  have c1 := hb1.cell 1 _ rfl
  have c2 := hb1.cell 2 _ rfl
  have c3 := hb1.cell 3 _ rfl
  have h2' : tmps[2]?.getD undef = .pointer (some ⟨b1, 0, none⟩) := by simpa using h2
  have h3' : tmps[3]?.getD undef = .int .i64 r := by simpa using h3
  simp [results, Try.results27, h2', h3', asAddr, go_sem, c0, c1, c2, c3]

set_option maxRecDepth 100000 in
set_option maxHeartbeats 2000000 in
theorem rdec_short (lo : Nat) (v : Value) (l : List UInt8) (w : World) (h : BytesAt lo w v l) (hs : l.length < 8) :
    Calls Try.prog 27 #[v] w fun e w' => DecQ w l e w' := by
  obtain ⟨a, c, b, o, rfl, p1, q1, k1, _, _, m1, n1⟩ := h.open
  have hs2 : decide ((l.length : Int) - 4 < 4) = true := decide_eq_true (by omega)
  have HD := hid (show decS l = (noPrg, 8) by unfold decS; rw [if_pos hs])
  clear h p1 q1 k1 hs
  go_enter Try.func27, Try.ntmps27
  go_wp2_with fail
  exact bodyPost_ret (v := .tuple #[.agg #[.slice none 0 0, .slice none 0 0, .slice none 0 0, .int .i64 0], .int .i64 8]) (rdec_results _ _ w.heap.size _ _ _ _ 8 rfl rfl (BoxAt.new _ _ _ _ _ rfl rfl)) rfl (dec_none HD.out ((Below.refl _ _).alloc (Nat.le_refl _) _))

set_option maxRecDepth 100000 in
set_option maxHeartbeats 2000000 in
theorem rdec_magic (lo : Nat) (v : Value) (l : List UInt8) (w : World) (h : BytesAt lo w v l) (h8 : ¬ l.length < 8) (hm : l.take 4 ≠ magicL) :
    Calls Try.prog 27 #[v] w fun e w' => DecQ w l e w' := by
  obtain ⟨a, c, b, o, rfl, p1, q1, k1, _, m0, m1, n1⟩ := h.open
  obtain rfl := p1 (by omega)
  have hcv := dec_conv w (w.alloc (.cells #[.slice none 0 0, .slice none 0 0, .slice none 0 0, .int .i64 0] 31)) b o c l h8 ((Below.refl _ _).alloc (Nat.le_refl _) _) (k1 (by omega)) q1
  obtain ⟨s4, hs4⟩ : ∃ s : ByteArray, (⟨(l.take 4).toArray⟩ : ByteArray) = s := ⟨_, rfl⟩
  rw [hs4] at hcv
  have hs2 : decide ((l.length : Int) - 4 < 4) = false := decide_eq_false (by omega)
  have HD := hid (show decS l = (noPrg, 8) by unfold decS; rw [if_neg h8, if_pos hm])
  have hne : ¬ s4.toList = [105, 108, 118, 49] := fun e => hm (by
    rw [← hs4, ByteArray.toList_eq] at e
    simpa [magicL] using e)
  have hnb : (!s4.toList == [105, 108, 118, 49]) = true := by simp [hne]
  have hc4 : 4 ≤ c := by omega
  clear h p1 q1 k1 hs4 hm hne h8
  go_enter Try.func27, Try.ntmps27
  go_wp2_with fail
  exact bodyPost_ret (v := .tuple #[.agg #[.slice none 0 0, .slice none 0 0, .slice none 0 0, .int .i64 0], .int .i64 8]) (rdec_results _ _ w.heap.size _ _ _ _ 8 rfl rfl (BoxAt.new _ _ _ _ _ rfl rfl)) rfl (dec_none HD.out ((Below.refl _ _).alloc (Nat.le_refl _) _))

theorem rbyte (n : Nat) (k : Nat) : UInt8.ofNat (n / k) = UInt8.ofNat (n / k % 256) := by
  apply UInt8.toNat_inj.1
  simp [UInt8.toNat_ofNat']
theorem sum_list (h : BitVec 32) (t0 t1 t2 t3 : UInt8) : sumBytes h = [t0, t1, t2, t3] ↔ (t0.toNat = natS h / 16777216 % 256 ∧ t1.toNat = natS h / 65536 % 256 ∧ t2.toNat = natS h / 256 % 256 ∧ t3.toNat = natS h % 256) := by
  unfold sumBytes natS
  have e : ∀ (n : Nat) (t : UInt8), UInt8.ofNat n = t ↔ t.toNat = n % 256 := fun n t => by
    constructor
    · rintro rfl; simp [UInt8.toNat_ofNat']
    · intro h; apply UInt8.toNat_inj.1; simp [UInt8.toNat_ofNat', h]
  simp only [List.cons.injEq, e, and_true]

set_option maxRecDepth 100000 in
set_option maxHeartbeats 4000000 in
theorem rdec_sum (lo : Nat) (v : Value) (l : List UInt8) (w : World) (h : BytesAt lo w v l) (h8 : ¬ l.length < 8) (hm : l.take 4 = magicL) (hq : sumOf (l.take (l.length - 4)) ≠ l.drop (l.length - 4)) :
    Calls Try.prog 27 #[v] w fun e w' => DecQ w l e w' := by
  obtain ⟨a, c, b, o, rfl, p1, q1, k1, _, m0, m1, n1⟩ := h.open
  obtain rfl := p1 (by omega)
  have hcv := dec_conv w (w.alloc (.cells #[.slice none 0 0, .slice none 0 0, .slice none 0 0, .int .i64 0] 31)) b o c l h8 ((Below.refl _ _).alloc (Nat.le_refl _) _) (k1 (by omega)) q1
  obtain ⟨s4, hs4⟩ : ∃ s : ByteArray, (⟨(l.take 4).toArray⟩ : ByteArray) = s := ⟨_, rfl⟩
  rw [hs4] at hcv
  have hs2 : decide ((l.length : Int) - 4 < 4) = false := decide_eq_false (by omega)
  have HD := hid (show decS l = (noPrg, 9) by unfold decS; rw [if_neg h8, if_neg (by simp [hm]), if_pos hq])
  have hnb : (!s4.toList == [105, 108, 118, 49]) = false := by rw [← hs4, ByteArray.toList_eq, hm]; rfl
  have hc4 : 4 ≤ c := by omega
  have HSUM := hid hq
  obtain ⟨N, hN⟩ : ∃ N, l.length = N + 4 := ⟨l.length - 4, by omega⟩
  have HN := hid hN
  have hN4 : 4 ≤ N := by omega
  have hsub : ((N + 4 : Nat) : Int) - 4 = N := by omega
  have hNc : N ≤ c := by omega
  have g0 := q1 N (by omega)
  have g1 := q1 (N + 1) (by omega)
  have g2 := q1 (N + 2) (by omega)
  have g3 := q1 (N + 3) (by omega)
  have gb := k1 (by omega)
  rw [hN] at m0 n1 hs2 ⊢
  have HBA := hid (bytes_take h N (by omega))
  clear h p1 q1 k1 hs4 hm hq h8 hN
  go_enter Try.func27, Try.ntmps27
  go_wp2_with fail
  generalize hW : World.alloc w _ = W
  have hbW : Below w.heap.size w W := by rw [← hW]; exact (Below.refl _ _).alloc (Nat.le_refl _) _
  have HBW := hid hbW
  have HBX := hid (show BoxAt W w.heap.size 31 PRG0 by rw [← hW]; exact BoxAt.new _ _ _ _ _ rfl rfl)
  clear hbW hW
  refine (rsum_calls lo _ (l.take N) W (BytesAt.below HBA.out HBW.out)).mono ?_
  rintro e w3 ⟨rfl, hb3⟩
  have hx := HBX.out.below hb3
  have HB3 := hid (bvia HBW.out hb3)
  have y0 := (HB3.out.cell (p := ⟨b, o + N, none⟩) gb).trans g0
  have y1 := (HB3.out.cell (p := ⟨b, o + (N + 1), none⟩) gb).trans g1
  have y2 := (HB3.out.cell (p := ⟨b, o + (N + 2), none⟩) gb).trans g2
  have y3 := (HB3.out.cell (p := ⟨b, o + (N + 3), none⟩) gb).trans g3
  have c0 := hx.cell 0 _ rfl
  have c1 := hx.cell 1 _ rfl
  have c2 := hx.cell 2 _ rfl
  have c3 := hx.cell 3 _ rfl
  have f0 := hx.frozen 0
  have f1 := hx.frozen 1
  have f2 := hx.frozen 2
  have f3 := hx.frozen 3
  have xz := hx.lt
  have HX3 := hid hx
  have HEND := hid (show ∀ r : Act, r.tmps.getD 2 undef = .pointer (some ⟨w.heap.size, 0, none⟩) → r.tmps.getD 3 undef = .int .i64 9 → r.defers = [] → bodyPost Try.prog Try.f27 (fun e w' => DecQ w l e w') .ret r ((((w3.setCell ⟨w.heap.size, 0, none⟩ (.slice none 0 0)).setCell ⟨w.heap.size, 1, none⟩ (.slice none 0 0)).setCell ⟨w.heap.size, 2, none⟩ (.slice none 0 0)).setCell ⟨w.heap.size, 3, none⟩ (.int .i64 0)) from fun r h2 h3 hd => by
    have hx1 := (((HX3.out.set 0 (.slice none 0 0)).set 1 (.slice none 0 0)).set 2 (.slice none 0 0)).set 3 (.int .i64 0)
    exact bodyPost_ret (v := .tuple #[.agg #[.slice none 0 0, .slice none 0 0, .slice none 0 0, .int .i64 0], .int .i64 9]) (rdec_results _ _ w.heap.size _ _ _ _ 9 h2 h3 hx1) hd (dec_none HD.out ((((HB3.out.setCell (Nat.le_refl _) _).setCell (Nat.le_refl _) _).setCell (Nat.le_refl _) _).setCell (Nat.le_refl _) _)))
  have hne : ¬ ((nth l N).toNat = natS (sumB (l.take N)) / 16777216 % 256 ∧ (nth l (N + 1)).toNat = natS (sumB (l.take N)) / 65536 % 256 ∧ (nth l (N + 2)).toNat = natS (sumB (l.take N)) / 256 % 256 ∧ (nth l (N + 3)).toNat = natS (sumB (l.take N)) % 256) := fun e => HSUM.out (by
    rw [show l.length - 4 = N by have := HN.out; omega, drop4 l N HN.out]
    exact (sum_list _ _ _ _ _).2 e)
  clear hb3 hx g0 g1 g2 g3
  obtain ⟨S, hS⟩ : ∃ S, natS (sumB (l.take N)) = S := ⟨_, rfl⟩
  rw [hS] at hne ⊢
  obtain ⟨t0, ht0⟩ : ∃ t, (nth l N).toNat = t := ⟨_, rfl⟩
  obtain ⟨t1, ht1⟩ : ∃ t, (nth l (N + 1)).toNat = t := ⟨_, rfl⟩
  obtain ⟨t2, ht2⟩ : ∃ t, (nth l (N + 2)).toNat = t := ⟨_, rfl⟩
  obtain ⟨t3, ht3⟩ : ∃ t, (nth l (N + 3)).toNat = t := ⟨_, rfl⟩
  rw [ht0, ht1, ht2, ht3] at hne
  rw [ht0] at y0
  rw [ht1] at y1
  rw [ht2] at y2
  rw [ht3] at y3
  clear hS ht0 ht1 ht2 ht3
  have hcase : t0 ≠ S / 16777216 % 256 ∨ (t0 = S / 16777216 % 256 ∧ t1 ≠ S / 65536 % 256) ∨ (t0 = S / 16777216 % 256 ∧ t1 = S / 65536 % 256 ∧ t2 ≠ S / 256 % 256) ∨ (t0 = S / 16777216 % 256 ∧ t1 = S / 65536 % 256 ∧ t2 = S / 256 % 256 ∧ t3 ≠ S % 256) := by omega
  clear hne
  rcases hcase with h0 | ⟨h0, h1⟩ | ⟨h0, h1, h2⟩ | ⟨h0, h1, h2, h3⟩
  · have z0 : ((t0 : Int) != (S : Int) / 16777216 % 256) = true := by simp; omega
    clear h0
    go_wp2_with fail
    exact HEND.out _ rfl rfl rfl
  · have z0 : ((t0 : Int) != (S : Int) / 16777216 % 256) = false := by simp; omega
    have z1 : ((t1 : Int) != (S : Int) / 65536 % 256) = true := by simp; omega
    clear h0 h1
    go_wp2_with fail
    exact HEND.out _ rfl rfl rfl
  · have z0 : ((t0 : Int) != (S : Int) / 16777216 % 256) = false := by simp; omega
    have z1 : ((t1 : Int) != (S : Int) / 65536 % 256) = false := by simp; omega
    have z2 : ((t2 : Int) != (S : Int) / 256 % 256) = true := by simp; omega
    clear h0 h1 h2
    go_wp2_with fail
    exact HEND.out _ rfl rfl rfl
  · have z0 : ((t0 : Int) != (S : Int) / 16777216 % 256) = false := by simp; omega
    have z1 : ((t1 : Int) != (S : Int) / 65536 % 256) = false := by simp; omega
    have z2 : ((t2 : Int) != (S : Int) / 256 % 256) = false := by simp; omega
    have z3 : ((t3 : Int) != (S : Int) % 256) = true := by simp; omega
    clear h0 h1 h2 h3
    go_wp2_with fail
    exact HEND.out _ rfl rfl rfl

set_option maxRecDepth 100000 in
set_option maxHeartbeats 4000000 in
theorem rdec_run (lo : Nat) (v : Value) (l : List UInt8) (w : World) (h : BytesAt lo w v l) (h8 : ¬ l.length < 8) (hm : l.take 4 = magicL) (hl : l.length ≤ 1000000000) (hq : sumOf (l.take (l.length - 4)) = l.drop (l.length - 4)) :
    Calls Try.prog 27 #[v] w fun e w' => DecQ w l e w' := by
  obtain ⟨a, c, b, o, rfl, p1, q1, k1, _, m0, m1, n1⟩ := h.open
  obtain rfl := p1 (by omega)
  have hcv := dec_conv w (w.alloc (.cells #[.slice none 0 0, .slice none 0 0, .slice none 0 0, .int .i64 0] 31)) b o c l h8 ((Below.refl _ _).alloc (Nat.le_refl _) _) (k1 (by omega)) q1
  obtain ⟨s4, hs4⟩ : ∃ s : ByteArray, (⟨(l.take 4).toArray⟩ : ByteArray) = s := ⟨_, rfl⟩
  rw [hs4] at hcv
  have hs2 : decide ((l.length : Int) - 4 < 4) = false := decide_eq_false (by omega)
  have HD := hid (show decS l = (match rdPrg ((l.take (l.length - 4)).drop 4) with
    | some (p, []) => if validB p then (p, 0) else (noPrg, 1)
    | _ => (noPrg, 8)) by unfold decS; rw [if_neg h8, if_neg (by simp [hm]), if_neg (by simp [hq])]; rfl)
  have hnb : (!s4.toList == [105, 108, 118, 49]) = false := by rw [← hs4, ByteArray.toList_eq, hm]; rfl
  have hc4 : 4 ≤ c := by omega
  have HSUM := hid hq
  obtain ⟨N, hN⟩ : ∃ N, l.length = N + 4 := ⟨l.length - 4, by omega⟩
  have HN := hid hN
  have hN4 : 4 ≤ N := by omega
  have hsub : ((N + 4 : Nat) : Int) - 4 = N := by omega
  have hNc : N ≤ c := by omega
  have g0 := q1 N (by omega)
  have g1 := q1 (N + 1) (by omega)
  have g2 := q1 (N + 2) (by omega)
  have g3 := q1 (N + 3) (by omega)
  have gb := k1 (by omega)
  rw [hN] at m0 n1 hs2 ⊢
  have HBA := hid (bytes_take h N (by omega))
  clear h p1 q1 k1 hs4 hm hq h8 hN
  go_enter Try.func27, Try.ntmps27
  go_wp2_with fail
  generalize hW : World.alloc w _ = W
  have hbW : Below w.heap.size w W := by rw [← hW]; exact (Below.refl _ _).alloc (Nat.le_refl _) _
  have HBW := hid hbW
  have HBX := hid (show BoxAt W w.heap.size 31 PRG0 by rw [← hW]; exact BoxAt.new _ _ _ _ _ rfl rfl)
  clear hbW hW
  refine (rsum_calls lo _ (l.take N) W (BytesAt.below HBA.out HBW.out)).mono ?_
  rintro e w3 ⟨rfl, hb3⟩
  have hx := HBX.out.below hb3
  have HB3 := hid (bvia HBW.out hb3)
  have y0 := (HB3.out.cell (p := ⟨b, o + N, none⟩) gb).trans g0
  have y1 := (HB3.out.cell (p := ⟨b, o + (N + 1), none⟩) gb).trans g1
  have y2 := (HB3.out.cell (p := ⟨b, o + (N + 2), none⟩) gb).trans g2
  have y3 := (HB3.out.cell (p := ⟨b, o + (N + 3), none⟩) gb).trans g3
  have c0 := hx.cell 0 _ rfl
  have c1 := hx.cell 1 _ rfl
  have c2 := hx.cell 2 _ rfl
  have c3 := hx.cell 3 _ rfl
  have f0 := hx.frozen 0
  have f1 := hx.frozen 1
  have f2 := hx.frozen 2
  have f3 := hx.frozen 3
  have xz := hx.lt
  have HX3 := hid hx
  have he : (nth l N).toNat = natS (sumB (l.take N)) / 16777216 % 256 ∧ (nth l (N + 1)).toNat = natS (sumB (l.take N)) / 65536 % 256 ∧ (nth l (N + 2)).toNat = natS (sumB (l.take N)) / 256 % 256 ∧ (nth l (N + 3)).toNat = natS (sumB (l.take N)) % 256 := by
    have e := HSUM.out
    rw [show l.length - 4 = N by have := HN.out; omega, drop4 l N HN.out] at e
    exact (sum_list _ _ _ _ _).1 e
  have HB3W := hid hb3
  clear hb3 hx g0 g1 g2 g3
  obtain ⟨S, hS⟩ : ∃ S, natS (sumB (l.take N)) = S := ⟨_, rfl⟩
  rw [hS] at he ⊢
  obtain ⟨t0, ht0⟩ : ∃ t, (nth l N).toNat = t := ⟨_, rfl⟩
  obtain ⟨t1, ht1⟩ : ∃ t, (nth l (N + 1)).toNat = t := ⟨_, rfl⟩
  obtain ⟨t2, ht2⟩ : ∃ t, (nth l (N + 2)).toNat = t := ⟨_, rfl⟩
  obtain ⟨t3, ht3⟩ : ∃ t, (nth l (N + 3)).toNat = t := ⟨_, rfl⟩
  rw [ht0, ht1, ht2, ht3] at he
  rw [ht0] at y0
  rw [ht1] at y1
  rw [ht2] at y2
  rw [ht3] at y3
  clear hS ht0 ht1 ht2 ht3
  obtain ⟨h0, h1, h2, h3⟩ := he
  have z0 : ((t0 : Int) != (S : Int) / 16777216 % 256) = false := by simp; omega
  have z1 : ((t1 : Int) != (S : Int) / 65536 % 256) = false := by simp; omega
  have z2 : ((t2 : Int) != (S : Int) / 256 % 256) = false := by simp; omega
  have z3 : ((t3 : Int) != (S : Int) % 256) = false := by simp; omega
  clear h0 h1 h2 h3
  go_wp2_with fail
  generalize hR : World.alloc w3 _ = WR
  have hrd := show RR w3.heap.size WR (l.take N) (some ((l.take N).drop 4)) by
    have hbb := BytesAt.below (BytesAt.mono HBA.out (Nat.zero_le lo)) HB3.out
    have hlen : (l.take N).length = N := by have := HN.out; rw [List.length_take]; omega
    have hn := HN.out
    have hsz := HB3.out.size
    refine ⟨4, ⟨b, o, c, ?_, ?_, by omega, by omega, by omega, by omega⟩, fun r h => by cases h; rfl⟩
    · rw [← hR, hlen]
      exact BoxAt.new _ _ _ _ _ rfl rfl
    · rw [← hR, hlen]
      exact BytesAt.below hbb ((Below.refl _ _).alloc (Nat.le_refl _) _)
  have HRD := hid hrd
  have HBR := hid (show Below w3.heap.size w3 WR by rw [← hR]; exact (Below.refl _ _).alloc (Nat.le_refl _) _)
  clear hrd hR c0 c1 c2 c3 f0 f1 f2 f3 xz
  refine (rrprg_calls w3.heap.size _ _ WR HRD.out (by rw [List.length_take]; omega)).mono ?_
  rintro e w4 ⟨p, vf, vg, vl, st', rfl, hown, _, _, _, hs, ⟨nn, hrr, hrs⟩, hk4⟩
  have HX4 := hid (hk4.box (HX3.out.below HBR.out) (by decide))
  have HB4 := hid (show Below w.heap.size w w4 from HB3.out.trans ((HBR.out.trans hk4.1).mono HB3.out.size))
  obtain ⟨⟨ss, hf⟩, hg, ⟨rs, hy⟩⟩ := hown
  obtain ⟨fa, fc, hfv⟩ := hf.row.anySlice
  rw [show (p.funcs.zip ss).length = p.funcs.length by simp [hf.len]] at hfv
  obtain ⟨ga, gc, hgv⟩ := hg.anySlice
  obtain ⟨ya, yc, hyv⟩ := hy.row.anySlice
  rw [hy.len] at hyv
  subst hfv hgv hyv
  have HOWN := hid (show OwnPrg WR.heap.size w4 (.slice fa p.funcs.length fc) (.slice ga p.globals.length gc) (.slice ya p.layouts.length yc) p from ⟨⟨ss, hf⟩, hg, ⟨rs, hy⟩⟩)
  have HS := hid hs
  have HRR := hid hrr
  have HRS := hid hrs
  have HWZ := hid (show w.heap.size ≤ WR.heap.size from (HB3.out.trans (HBR.out.mono HB3.out.size)).size)
  obtain ⟨bb, bo, cc, m0', m1', m2, mz, _, hnn, _, _, _, _, _, _⟩ := hrr.cells
  have hx4 := HX4.out
  have c0 := hx4.cell 0 _ rfl
  have c1 := hx4.cell 1 _ rfl
  have c2 := hx4.cell 2 _ rfl
  have c3 := hx4.cell 3 _ rfl
  have f0 := hx4.frozen 0
  have f1 := hx4.frozen 1
  have f2 := hx4.frozen 2
  have f3 := hx4.frozen 3
  have xz := hx4.lt
  clear hk4 hf hg hy hs hrr hrs hx4
  have HW5 := hid (show ∀ W5, W5 = w4.alloc (.cells #[.slice fa p.funcs.length fc, .slice ga p.globals.length gc, .slice ya p.layouts.length yc, .int .i64 p.main] 31) → BoxAt W5 w4.heap.size 31 [.slice fa p.funcs.length fc, .slice ga p.globals.length gc, .slice ya p.layouts.length yc, .int .i64 p.main] ∧ BoxAt W5 w.heap.size 31 PRG0 ∧ Below w.heap.size w W5 ∧ OwnPrg WR.heap.size W5 (.slice fa p.funcs.length fc) (.slice ga p.globals.length gc) (.slice ya p.layouts.length yc) p from fun W5 hX => by
    have hb5 : Below w4.heap.size w4 W5 := by rw [hX]; exact (Below.refl _ _).alloc (Nat.le_refl _) _
    have hp5 : BoxAt W5 w4.heap.size 31 [.slice fa p.funcs.length fc, .slice ga p.globals.length gc, .slice ya p.layouts.length yc, .int .i64 p.main] := by rw [hX]; exact BoxAt.new _ _ _ _ _ rfl rfl
    exact ⟨hp5, HX4.out.below hb5, bvia HB4.out hb5, HOWN.out.stay hb5⟩)
  have hlen : (l.take N).length = N := by have := HN.out; rw [List.length_take]; omega
  have HLN := hid hlen
  rw [hlen] at hnn
  clear hlen
  have HEND := hid (show ∀ (W : World) (e : Int) (r : Act), BoxAt W w.heap.size 31 PRG0 → Below w.heap.size w W → decS l = (noPrg, e) → r.tmps.getD 2 undef = .pointer (some ⟨w.heap.size, 0, none⟩) → r.tmps.getD 3 undef = .int .i64 e → r.defers = [] → bodyPost Try.prog Try.f27 (fun e w' => DecQ w l e w') .ret r ((((W.setCell ⟨w.heap.size, 0, none⟩ (.slice none 0 0)).setCell ⟨w.heap.size, 1, none⟩ (.slice none 0 0)).setCell ⟨w.heap.size, 2, none⟩ (.slice none 0 0)).setCell ⟨w.heap.size, 3, none⟩ (.int .i64 0)) from fun W e r hx hb hde h2 h3 hd => by
    have hx1 := (((hx.set 0 (.slice none 0 0)).set 1 (.slice none 0 0)).set 2 (.slice none 0 0)).set 3 (.int .i64 0)
    exact bodyPost_ret (v := .tuple #[.agg #[.slice none 0 0, .slice none 0 0, .slice none 0 0, .int .i64 0], .int .i64 e]) (rdec_results _ _ w.heap.size _ _ _ _ e h2 h3 hx1) hd (dec_none hde ((((hb.setCell (Nat.le_refl _) _).setCell (Nat.le_refl _) _).setCell (Nat.le_refl _) _).setCell (Nat.le_refl _) _)))
  have HEND8 := hid (show ∀ (r : Act) (o : Obj), decS l = (noPrg, 8) → r.tmps.getD 2 undef = .pointer (some ⟨w.heap.size, 0, none⟩) → r.tmps.getD 3 undef = .int .i64 8 → r.defers = [] → bodyPost Try.prog Try.f27 (fun e w' => DecQ w l e w') .ret r (((((w4.setCell ⟨w.heap.size, 0, none⟩ (.slice none 0 0)).setCell ⟨w.heap.size, 1, none⟩ (.slice none 0 0)).setCell ⟨w.heap.size, 2, none⟩ (.slice none 0 0)).setCell ⟨w.heap.size, 3, none⟩ (.int .i64 0)).alloc o) from fun r o hde h2 h3 hd => by
    have hx1 := (((HX4.out.set 0 (.slice none 0 0)).set 1 (.slice none 0 0)).set 2 (.slice none 0 0)).set 3 (.int .i64 0)
    have hb := bstore (bstore (bstore (bstore HB4.out w.heap.size 0 (.slice none 0 0) (Nat.le_refl _)) w.heap.size 1 (.slice none 0 0) (Nat.le_refl _)) w.heap.size 2 (.slice none 0 0) (Nat.le_refl _)) w.heap.size 3 (.int .i64 0) (Nat.le_refl _)
    exact bodyPost_ret (v := .tuple #[.agg #[.slice none 0 0, .slice none 0 0, .slice none 0 0, .int .i64 0], .int .i64 8]) (rdec_results _ _ w.heap.size _ _ _ _ 8 h2 h3 (hx1.alloc o)) hd (dec_none hde (bone hb o)))
  cases st' with
  | none =>
    have t1 : (none : St10).isNone = true := rfl
    rw [t1] at m2
    have HDE := hid (show decS l = (noPrg, 8) by
      rw [HD.out, show l.length - 4 = N by have := HN.out; omega, HS.out.none_of])
    go_wp2_with fail
    exact HEND8.out _ _ HDE.out rfl rfl rfl
  | some r =>
    have t1 : (some r : St10).isNone = false := rfl
    rw [t1] at m2
    have hrl : r.length = N - nn := by rw [← HRS.out r rfl, List.length_drop, HLN.out]
    by_cases hr0 : nn = N
    · have hb : ((nn : Int) != (N : Int)) = false := by simp [hr0]
      have hnil : r = [] := List.eq_nil_of_length_eq_zero (by omega)
      subst hnil
      have HPR := hid (HS.out.some_of)
      have HRA := hid (fun (W : World) (h : OwnPrg WR.heap.size W (.slice fa p.funcs.length fc) (.slice ga p.globals.length gc) (.slice ya p.layouts.length yc) p) => read_at h HPR.out (by rw [List.length_drop, List.length_take]; omega))
      clear hr0 hrl
      go_wp2_with fail
      generalize hX : World.alloc w4 _ = W5
      obtain ⟨hp5, hx5, hb5, ho5⟩ := HW5.out W5 hX.symm
      have HP5 := hid hp5
      have HX5 := hid hx5
      have HB5 := hid hb5
      have HOWN5 := hid ho5
      have HPA := hid (HRA.out _ ho5)
      clear hX hp5 hx5 hb5 ho5
      refine (valid_calls _ _ _ _ p W5 HPA.out).mono ?_
      rintro e w6 ⟨rfl, hb6⟩
      have hx6 := HX5.out.below hb6
      have hp6 := HP5.out.below hb6
      clear c0 c1 c2 c3 f0 f1 f2 f3 xz m0' m1' m2 mz
      have c0 := hx6.cell 0 _ rfl
      have c1 := hx6.cell 1 _ rfl
      have c2 := hx6.cell 2 _ rfl
      have c3 := hx6.cell 3 _ rfl
      have f0 := hx6.frozen 0
      have f1 := hx6.frozen 1
      have f2 := hx6.frozen 2
      have f3 := hx6.frozen 3
      have xz := hx6.lt
      have d0 := hp6.cell 0 _ rfl
      have d1 := hp6.cell 1 _ rfl
      have d2 := hp6.cell 2 _ rfl
      have d3 := hp6.cell 3 _ rfl
      have dz := hp6.lt
      have HX6 := hid hx6
      have HB6 := hid (bvia HB5.out hb6)
      have HO6 := hid (HOWN5.out.stay hb6)
      clear hx6 hp6 hb6
      rcases hv : validB p with _ | _
      · have HDE := hid (show decS l = (noPrg, 1) by
          rw [HD.out, show l.length - 4 = N by have := HN.out; omega, HPR.out]
          simp [hv])
        clear hv
        go_wp2_with fail
        refine HEND.out _ 1 _ HX6.out HB6.out HDE.out ?_ ?_ ?_ <;> rfl
      · have HDE := hid (show decS l = (p, 0) by
          rw [HD.out, show l.length - 4 = N by have := HN.out; omega, HPR.out]
          simp [hv])
        clear hv
        go_wp2_with fail
        have hx1 := (((HX6.out.set 0 (.slice fa p.funcs.length fc)).set 1 (.slice ga p.globals.length gc)).set 2 (.slice ya p.layouts.length yc)).set 3 (.int .i64 p.main)
        refine bodyPost_ret (v := .tuple #[.agg #[.slice fa p.funcs.length fc, .slice ga p.globals.length gc, .slice ya p.layouts.length yc, .int .i64 p.main], .int .i64 0]) (rdec_results _ _ w.heap.size _ _ _ _ 0 rfl rfl hx1) rfl ?_
        refine ⟨.slice fa p.funcs.length fc, .slice ga p.globals.length gc, .slice ya p.layouts.length yc, by rw [HDE.out], ?_, (((HB6.out.setCell (Nat.le_refl _) _).setCell (Nat.le_refl _) _).setCell (Nat.le_refl _) _).setCell (Nat.le_refl _) _⟩
        rw [HDE.out]
        have o1 := OwnPrg.storeBox (k := 0) (.slice fa p.funcs.length fc) HO6.out HX6.out (by decide) (by decide) (by decide) (by decide) (by decide)
        have o2 := OwnPrg.storeBox (k := 1) (.slice ga p.globals.length gc) o1 (HX6.out.set 0 _) (by decide) (by decide) (by decide) (by decide) (by decide)
        have o3 := OwnPrg.storeBox (k := 2) (.slice ya p.layouts.length yc) o2 ((HX6.out.set 0 _).set 1 _) (by decide) (by decide) (by decide) (by decide) (by decide)
        have o4 := OwnPrg.storeBox (k := 3) (.int .i64 p.main) o3 (((HX6.out.set 0 _).set 1 _).set 2 _) (by decide) (by decide) (by decide) (by decide) (by decide)
        exact o4.mono HWZ.out
    · have hb : ((nn : Int) != (N : Int)) = true := by simp; omega
      have HDE := hid (show decS l = (noPrg, 8) by
        rw [HD.out, show l.length - 4 = N by have := HN.out; omega, HS.out.some_of]
        cases r with
        | nil => simp at hrl; omega
        | cons x r => rfl)
      clear hr0 hrl
      go_wp2_with fail
      exact HEND8.out _ _ HDE.out rfl rfl rfl

theorem rdecode_calls (lo : Nat) (v : Value) (l : List UInt8) (w : World) (h : BytesAt lo w v l) (hl : l.length ≤ 1000000000) :
    Calls Try.prog 27 #[v] w fun e w' => DecQ w l e w' := by
  by_cases h8 : l.length < 8
  · exact rdec_short lo v l w h h8
  by_cases hm : l.take 4 = magicL
  · by_cases hq : sumOf (l.take (l.length - 4)) = l.drop (l.length - 4)
    · exact rdec_run lo v l w h h8 hm hl hq
    · exact rdec_sum lo v l w h h8 hm hq
  · exact rdec_magic lo v l w h h8 hm

end Go.Proofs.Ytkfpacklpelefaa
