/-
  Package object's Decode: the reader's run (begun; the end is open).
-/
import Derived.Test.YtkfpacklpelefaaZSizes10
import Derived.Test.YtkfpacklpelefaaZODecS
namespace Go.Proofs.Ytkfpacklpelefaa
set_option linter.unusedVariables false
set_option linter.unusedSimpArgs false
open Go.RowKit

theorem read_at {N : Nat} {w : World} {vf vg vl : Value} {l r : List UInt8} {p : Prg} (h : OwnPrg N w vf vg vl p) (hr : rdPrg l = some (p, r)) (hl : l.length ≤ 1000000000) : ProgAt N w vf vg vl p := by
  obtain ⟨h1, h2, h3, h4, h5⟩ := rdPrg_sizes hr
  obtain ⟨ss, hs⟩ := h.funcs
  obtain ⟨rs, hy⟩ := h.lays
  exact ⟨hs.at (Nat.le_refl _) (by omega) fun f hf => by have := h4 f hf; omega, h.globs.sl (Nat.le_refl _) (by omega), hy.at (Nat.le_refl _) (by omega) fun y hy' => by have := h5 y hy'; omega⟩

theorem five {w6 : World} {N : Nat} {x0 x1 x2 x3 x : Value} (hx : BoxAt w6 N 31 [x0, x1, x2, x3]) (hy : BoxAt w6 (N + 1) 32 [x]) (u0 u1 u2 u3 r : Value) :
    BoxAt (((((w6.setCell ⟨N, 0, none⟩ u0).setCell ⟨N, 1, none⟩ u1).setCell ⟨N, 2, none⟩ u2).setCell ⟨N, 3, none⟩ u3).setCell ⟨N + 1, 0, none⟩ r) N 31 [u0, u1, u2, u3] ∧
      BoxAt (((((w6.setCell ⟨N, 0, none⟩ u0).setCell ⟨N, 1, none⟩ u1).setCell ⟨N, 2, none⟩ u2).setCell ⟨N, 3, none⟩ u3).setCell ⟨N + 1, 0, none⟩ r) (N + 1) 32 [r] := by
  have n1 : N ≠ N + 1 := by omega
  have n2 : N + 1 ≠ N := by omega
  have hx1 := (((hx.set 0 u0).set 1 u1).set 2 u2).set 3 u3
  have hy1 := hy.other ⟨N, 0, none⟩ u0 n2
  have hy2 := hy1.other ⟨N, 1, none⟩ u1 n2
  have hy3 := hy2.other ⟨N, 2, none⟩ u2 n2
  have hy4 := hy3.other ⟨N, 3, none⟩ u3 n2
  exact ⟨hx1.other ⟨N + 1, 0, none⟩ r n1, hy4.set 0 r⟩

theorem OwnPrg.storeBox {M b k : Nat} {t : TypeId} {vs : List Value} {w : World} {vf vg vl : Value} {p : Prg} (u : Value) (h : OwnPrg M w vf vg vl p) (hb : BoxAt w b t vs) (h1 : 55 ≠ t) (h2 : 57 ≠ t) (h3 : 50 ≠ t) (h4 : 52 ≠ t) (h5 : 3 ≠ t) : OwnPrg M (w.setCell ⟨b, k, none⟩ u) vf vg vl p := by
  obtain ⟨⟨ss, hs⟩, hg, ⟨rs, hy⟩⟩ := h
  exact ⟨⟨ss, hs.onlyBox (Only.store _ _ _ _) hb h1 h2⟩, OwnE.storeBox u hg hb h3, ⟨rs, hy.onlyBox (Only.store _ _ _ _) hb h4 h5⟩⟩
theorem OwnPrg.stay {M : Nat} {w w' : World} {vf vg vl : Value} {p : Prg} (h : OwnPrg M w vf vg vl p) (hb : Below w.heap.size w w') : OwnPrg M w' vf vg vl p := by
  obtain ⟨⟨ss, hs⟩, hg, ⟨rs, hy⟩⟩ := h
  exact ⟨⟨ss, hs.fresh (Only.below hb _)⟩, hg.fresh (Only.below hb _), ⟨rs, hy.fresh (Only.below hb _)⟩⟩
theorem OwnPrg.mono {M M' : Nat} {w : World} {vf vg vl : Value} {p : Prg} (h : OwnPrg M w vf vg vl p) (hm : M' ≤ M) : OwnPrg M' w vf vg vl p := by
  obtain ⟨⟨ss, hs⟩, hg, ⟨rs, hy⟩⟩ := h
  exact ⟨⟨ss, hs.len, hs.row.mono hm, fun i hi => (hs.code i hi).mono hm, hs.apart⟩, hg.mono hm, ⟨rs, hy.len, hy.row.mono hm, fun i hi => (hy.each i hi).mono hm⟩⟩
theorem own_five {M N : Nat} {w6 : World} {x0 x1 x2 x3 x : Value} {vf vg vl : Value} {p : Prg} (h : OwnPrg M w6 vf vg vl p) (hx : BoxAt w6 N 31 [x0, x1, x2, x3]) (hy : BoxAt w6 (N + 1) 32 [x]) (u0 u1 u2 u3 r : Value) :
    OwnPrg M (((((w6.setCell ⟨N, 0, none⟩ u0).setCell ⟨N, 1, none⟩ u1).setCell ⟨N, 2, none⟩ u2).setCell ⟨N, 3, none⟩ u3).setCell ⟨N + 1, 0, none⟩ r) vf vg vl p := by
  have n2 : N + 1 ≠ N := by omega
  have y1 := hy.other ⟨N, 0, none⟩ u0 n2
  have y2 := y1.other ⟨N, 1, none⟩ u1 n2
  have y3 := y2.other ⟨N, 2, none⟩ u2 n2
  have y4 := y3.other ⟨N, 3, none⟩ u3 n2
  have h1 := OwnPrg.storeBox (k := 0) u0 h hx (by decide) (by decide) (by decide) (by decide) (by decide)
  have h2 := OwnPrg.storeBox (k := 1) u1 h1 (hx.set 0 u0) (by decide) (by decide) (by decide) (by decide) (by decide)
  have h3 := OwnPrg.storeBox (k := 2) u2 h2 ((hx.set 0 u0).set 1 u1) (by decide) (by decide) (by decide) (by decide) (by decide)
  have h4 := OwnPrg.storeBox (k := 3) u3 h3 (((hx.set 0 u0).set 1 u1).set 2 u2) (by decide) (by decide) (by decide) (by decide) (by decide)
  exact OwnPrg.storeBox (k := 0) r h4 y4 (by decide) (by decide) (by decide) (by decide) (by decide)

set_option maxRecDepth 100000 in
set_option maxHeartbeats 4000000 in
theorem odec_run (lo : Nat) (v : Value) (l : List UInt8) (w : World) (h : BytesAt lo w v l) (h8 : ¬ l.length < 8) (hm : l.take 4 = magicL) (hl : l.length ≤ 1000000000) (hq : sumOf (l.take (l.length - 4)) = l.drop (l.length - 4)) :
    Calls Try.prog 19 #[v] w fun e w' => DecQ w l e w' := by
  have hmf : ∀ (fn : Fn) (first cap : Array Value) (w : World), (Instr.makeFunc fn first cap).run Try.prog w = .ok (.func fn first cap) w := fun _ _ _ _ => rfl
  obtain ⟨a, c, b, o, rfl, p1, q1, k1, _, m0, m1, n1⟩ := h.open
  obtain rfl := p1 (by omega)
  have HD := hid (show decS l = (match rdPrg ((l.take (l.length - 4)).drop 4) with
    | some (p, []) => if validB p then (p, 0) else (noPrg, 1)
    | _ => (noPrg, 8)) by unfold decS; rw [if_neg h8, if_neg (by simp [hm]), if_neg (by simp [hq])]; rfl)
  have hcv := dec_conv w ((w.alloc (.cells #[.slice none 0 0, .slice none 0 0, .slice none 0 0, .int .i64 0] 31)).alloc (.cells #[.int .i64 0] 32)) b o c l h8 (((Below.refl _ _).alloc (Nat.le_refl _) _).alloc (by simp) _) (k1 (by omega)) q1
  obtain ⟨s4, hs4⟩ : ∃ s : ByteArray, (⟨(l.take 4).toArray⟩ : ByteArray) = s := ⟨_, rfl⟩
  rw [hs4] at hcv
  have hnb : (!s4.toList == [105, 108, 118, 49]) = false := by rw [← hs4, ByteArray.toList_eq, hm]; rfl
  have hc4 : 4 ≤ c := by omega
  have HQ := hid q1
  have HK := hid (k1 (by omega))
  have HSUM := hid hq
  obtain ⟨N, hN⟩ : ∃ N, l.length = N + 4 := ⟨l.length - 4, by omega⟩
  have HN := hid hN
  have hN4 : 4 ≤ N := by omega
  have hs2 : ¬ ((N + 4 : Nat) : Int) < 8 := by omega
  have g0 := q1 N (by omega)
  have g1 := q1 (N + 1) (by omega)
  have g2 := q1 (N + 2) (by omega)
  have g3 := q1 (N + 3) (by omega)
  rw [← Nat.add_assoc] at g1 g2 g3
  have gb := k1 (by omega)
  rw [hN] at m0 n1 ⊢
  have HBA := hid (bytes_take h N (by omega))
  clear h p1 q1 k1 hs4 hm hq h8 hN
  go_enter_defers Try.func19, Try.ntmps19
  go_wp2_with fail
  generalize hW : World.alloc (World.alloc w _) _ = W
  have hbW : Below w.heap.size w W := by rw [← hW]; exact ((Below.refl _ _).alloc (Nat.le_refl _) _).alloc (by simp) _
  have HBW := hid hbW
  have HBX := hid (show BoxAt W w.heap.size 31 [.slice none 0 0, .slice none 0 0, .slice none 0 0, .int .i64 0] by rw [← hW]; exact (BoxAt.new _ _ _ _ _ rfl rfl).alloc _)
  have HBY := hid (show BoxAt W (w.heap.size + 1) 32 [.int .i64 0] by rw [← hW]; exact BoxAt.new _ _ _ _ _ (by simp) rfl)
  have hWz : b < W.heap.size := Nat.lt_of_lt_of_le gb hbW.size
  have y0 := (hbW.cell (p := ⟨b, o + N, none⟩) gb).trans g0
  have y1 := (hbW.cell (p := ⟨b, o + N + 1, none⟩) gb).trans g1
  have y2 := (hbW.cell (p := ⟨b, o + N + 2, none⟩) gb).trans g2
  have y3 := (hbW.cell (p := ⟨b, o + N + 3, none⟩) gb).trans g3
  clear hbW hW
  refine Plan.wp_chain planD5 W.heap.size (by kernel_rfl) rfl (by kernel_rfl) (by kernel_rfl) ?_
  repeat (first | (apply Plan.chain_skip rfl rfl; simp only [Act.put, List.setIfInBounds_toArray, List.set_cons_zero, List.set_cons_succ]) | (apply Plan.chain_det rfl rfl; (· intro w' hb; obtain ⟨hcl, hfz⟩ := bcellB hb; go_simp; rfl); simp only [Act.put, List.setIfInBounds_toArray, List.set_cons_zero, List.set_cons_succ]))
  refine Plan.chain_call 12 #[.slice (some ⟨b, o, none⟩) N c] (fun v w' => v = .int .u32 (natS (sumB (l.take N)) : Nat) ∧ Below W.heap.size W w') rfl rfl rfl (by go_simp) ?_ (fun v w' h => h.2) (fun va w3 h => ?_)
  · refine (osum_calls lo _ (l.take N) W.drew (BytesAt.below HBA.out HBW.out.drew)).mono ?_
    rintro e w' ⟨rfl, hb⟩
    exact ⟨_, rfl, rfl, (Below.refl _ _).drew.trans hb⟩
  obtain ⟨rfl, hb3⟩ := h
  simp only [Act.put, List.setIfInBounds_toArray, List.set_cons_zero, List.set_cons_succ]
  have HB3 := hid hb3
  have hx := HBX.out.below hb3
  have hy := HBY.out.below hb3
  have c0 := hx.cell 0 _ rfl
  have c1 := hx.cell 1 _ rfl
  have c2 := hx.cell 2 _ rfl
  have c3 := hx.cell 3 _ rfl
  have f0 := hx.frozen 0
  have f1 := hx.frozen 1
  have f2 := hx.frozen 2
  have f3 := hx.frozen 3
  have d0 := hy.cell 0 _ rfl
  have f4 := hy.frozen 0
  have xz := hx.lt
  have yz := hy.lt
  have HX3 := hid hx
  have HY3 := hid hy
  have hbe := (bne_eq_false_iff_eq (a := ((natS (sumB (l.take N)) : Nat) : Int)) (b := (((nth l N).toNat * 16777216 + (nth l (N + 1)).toNat * 65536 + (nth l (N + 2)).toNat * 256 + (nth l (N + 3)).toNat : Nat) : Int))).2 (congrArg Int.ofNat ((sum_tail _ _ _ _ _).1 (by
    have e := HSUM.out
    rw [show l.length - 4 = N by have := HN.out; omega, drop4 l N HN.out] at e
    exact e)))
  rw [← tail_num _ _ _ _ (nth l N).toNat_lt (nth l (N + 1)).toNat_lt (nth l (N + 2)).toNat_lt (nth l (N + 3)).toNat_lt] at hbe
  clear hb3 hx hy
  repeat (first | (apply Plan.chain_skip rfl rfl; simp only [Act.put, List.setIfInBounds_toArray, List.set_cons_zero, List.set_cons_succ]) | (apply Plan.chain_det rfl rfl; (· intro w' hb; obtain ⟨hcl, hfz⟩ := bcellB hb; go_simp; rfl); simp only [Act.put, List.setIfInBounds_toArray, List.set_cons_zero, List.set_cons_succ]))
  refine Plan.chain_nil ?_
  go_wp2_with fail
  generalize hR : World.alloc w3 _ = WR
  have hrd := show RdAt w3.heap.size WR ((l.take N).drop 4) by
    have hbb := BytesAt.below (BytesAt.mono HBA.out (Nat.zero_le lo)) (bvia HBW.out HB3.out)
    have hlen : (l.take N).length = N := by have := HN.out; rw [List.length_take]; omega
    have hd := bytes_drop (l := l.take N) (by rw [hlen]; exact hbb) 4 (by omega)
    have hl2 : ((l.take N).drop 4).length = N - 4 := by rw [List.length_drop, hlen]
    rw [hlen] at hd
    rw [← hR]
    refine ⟨_, c - 4, BoxAt.new _ _ _ _ _ rfl (by rw [hl2]), ?_, fun _ k hk => ?_, .inr ⟨b, o + 4, rfl⟩⟩
    · rw [hl2]
      exact BytesAt.below hd ((Below.refl _ _).alloc (Nat.le_refl _) _)
    · have e : b = k := by simpa [Value.ownBlock] using hk
      omega
  have HRD := hid hrd
  have HBR := hid (show Below w3.heap.size w3 WR by rw [← hR]; exact (Below.refl _ _).alloc (Nat.le_refl _) _)
  clear hrd hR
  refine (orprg_calls w3.heap.size _ WR HRD.out (by rw [List.length_drop, List.length_take]; omega)).mono ?_
  rintro e w4 ⟨hq2, hk4⟩
  have hx4 := hk4.box (HX3.out.below HBR.out) (by decide)
  have hy4 := hk4.box (HY3.out.below HBR.out) (by decide)
  have HX4 := hid hx4
  have HY4 := hid hy4
  have HB4 := hid (show Below w.heap.size w w4 from bvia (bvia HBW.out HB3.out) (HBR.out.trans hk4.1))
  rcases hq2 with ⟨p, vf, vg, vl, hp, rfl, hown⟩ | ⟨hno, rfl⟩
  rotate_left
  · refine leaves_cons (f := 28) (args := #[.pointer (some ⟨w.heap.size, 0, none⟩), .pointer (some ⟨w.heap.size + 1, 0, none⟩)]) (by simp) (by simp [go_sem]) ?_
    refine (catch_malformed w.heap.size w.heap.size (w.heap.size + 1) _ _ w4 HX4.out HY4.out rfl (by omega) (Nat.le_refl _) (by omega)).mono ?_
    rintro e u' w5 ⟨rfl, hu, hx5, hy5, hb5⟩
    show Leaves _ _ _ _ [] (settle u') w5
    rw [hu]
    refine ⟨_, dec_results _ _ w.heap.size (w.heap.size + 1) (.slice none 0 0) (.slice none 0 0) (.slice none 0 0) 0 8 rfl rfl hx5 hy5, dec_none ?_ (HB4.out.trans hb5)⟩
    rw [HD.out, show l.length - 4 = N by have := HN.out; omega]
    split
    · rename_i q hq3
      exact absurd hq3 (hno q)
    · rfl
  · have c0 := hx4.cell 0 _ rfl
    have c1 := hx4.cell 1 _ rfl
    have c2 := hx4.cell 2 _ rfl
    have c3 := hx4.cell 3 _ rfl
    have f0 := hx4.frozen 0
    have f1 := hx4.frozen 1
    have f2 := hx4.frozen 2
    have f3 := hx4.frozen 3
    have d0 := hy4.cell 0 _ rfl
    have f4 := hy4.frozen 0
    have xz := hx4.lt
    have yz := hy4.lt
    obtain ⟨⟨ss, hf⟩, hg, ⟨rs, hy⟩⟩ := hown
    obtain ⟨fa, fc, hfv⟩ := hf.row.anySlice
    rw [show (p.funcs.zip ss).length = p.funcs.length by simp [hf.len]] at hfv
    obtain ⟨ga, gc, hgv⟩ := hg.anySlice
    obtain ⟨ya, yc, hyv⟩ := hy.row.anySlice
    rw [hy.len] at hyv
    subst hfv hgv hyv
    have HF := hid hf
    have HG := hid hg
    have HY := hid hy
    have HP := hid hp
    clear hx4 hy4 hf hg hy hp
    go_wp2_with fail
    generalize hW5 : World.setCell (World.setCell (World.setCell (World.setCell w4 _ _) _ _) _ _) _ _ = W5
    have hx5 : BoxAt W5 w.heap.size 31 [.slice fa p.funcs.length fc, .slice ga p.globals.length gc, .slice ya p.layouts.length yc, .int .i64 p.main] := by rw [← hW5]; exact (((HX4.out.set 0 _).set 1 _).set 2 _).set 3 _
    have hon : Only (some w.heap.size) w4 W5 := by rw [← hW5]; exact (((Only.store w4 w.heap.size 0 _).trans (Only.store _ w.heap.size 1 _)).trans (Only.store _ w.heap.size 2 _)).trans (Only.store _ w.heap.size 3 _)
    have hfs := HF.out.onlyBox hon HX4.out (by decide) (by decide)
    have hys := HY.out.onlyBox hon HX4.out (by decide) (by decide)
    have hgs := HG.out.only hon (HG.out.neBox HX4.out (by decide))
    have hb5 : Below w.heap.size w W5 := by rw [← hW5]; exact (((HB4.out.setCell (Nat.le_refl _) _).setCell (Nat.le_refl _) _).setCell (Nat.le_refl _) _).setCell (Nat.le_refl _) _
    have hy5 : BoxAt W5 (w.heap.size + 1) 32 [.int .i64 0] := HY4.out.only hon (by simp)
    have HPR := hid (show OwnPrg WR.heap.size W5 (.slice fa p.funcs.length fc) (.slice ga p.globals.length gc) (.slice ya p.layouts.length yc) p from ⟨⟨ss, hfs⟩, hgs, ⟨rs, hys⟩⟩)
    have HX5 := hid hx5
    have HY5 := hid hy5
    have HB5 := hid hb5
    clear hW5 hx5 hon hfs hys hgs hb5 hy5 c0 c1 c2 c3 f0 f1 f2 f3 d0 f4 xz yz
    refine (cvalid_calls _ _ _ _ p W5 (read_at HPR.out HP.out (by rw [List.length_drop, List.length_take]; omega))).mono ?_
    rintro e w6 ⟨rfl, hb6⟩
    have hx6 := HX5.out.below hb6
    have hy6 := HY5.out.below hb6
    have c0 := hx6.cell 0 _ rfl
    have c1 := hx6.cell 1 _ rfl
    have c2 := hx6.cell 2 _ rfl
    have c3 := hx6.cell 3 _ rfl
    have f0 := hx6.frozen 0
    have f1 := hx6.frozen 1
    have f2 := hx6.frozen 2
    have f3 := hx6.frozen 3
    have d0 := hy6.cell 0 _ rfl
    have f4 := hy6.frozen 0
    have xz := hx6.lt
    have yz := hy6.lt
    have HX6 := hid hx6
    have HY6 := hid hy6
    have HB6 := hid (bvia HB5.out hb6)
    have HBV := hid hb6
    clear hx6 hy6 hb6
    rcases hv : validB p with _ | _
    · have HV := hid hv
      clear hv
      go_wp2_with fail
      obtain ⟨b1, b2⟩ := five HX6.out HY6.out (.slice none 0 0) (.slice none 0 0) (.slice none 0 0) (.int .i64 0) (.int .i64 1)
      refine leaves_cons (f := 28) (args := #[.pointer (some ⟨w.heap.size, 0, none⟩), .pointer (some ⟨w.heap.size + 1, 0, none⟩)]) (by simp) (by simp [go_sem]) ?_
      refine (catch_idle ⟨w.heap.size, 0, none⟩ ⟨w.heap.size + 1, 0, none⟩ _).mono ?_
      rintro e u' w7 ⟨rfl, rfl, rfl⟩
      refine ⟨_, dec_results _ _ w.heap.size (w.heap.size + 1) _ _ _ 0 1 rfl rfl b1 b2, dec_none ?_ (((((HB6.out.setCell (Nat.le_refl _) _).setCell (Nat.le_refl _) _).setCell (Nat.le_refl _) _).setCell (Nat.le_refl _) _).setCell (Nat.le_succ _) _)⟩
      rw [HD.out, show l.length - 4 = N by have := HN.out; omega, HP.out]
      simp [HV.out]
    · have HV := hid hv
      clear hv
      go_wp2_with fail
      obtain ⟨b1, b2⟩ := five HX6.out HY6.out (.slice fa p.funcs.length fc) (.slice ga p.globals.length gc) (.slice ya p.layouts.length yc) (.int .i64 p.main) (.int .i64 0)
      refine leaves_cons (f := 28) (args := #[.pointer (some ⟨w.heap.size, 0, none⟩), .pointer (some ⟨w.heap.size + 1, 0, none⟩)]) (by simp) (by simp [go_sem]) ?_
      refine (catch_idle ⟨w.heap.size, 0, none⟩ ⟨w.heap.size + 1, 0, none⟩ _).mono ?_
      rintro e u' w7 ⟨rfl, rfl, rfl⟩
      have hdec : decS l = (p, 0) := by
        rw [HD.out, show l.length - 4 = N by have := HN.out; omega, HP.out]
        simp [HV.out]
      refine ⟨_, dec_results _ _ w.heap.size (w.heap.size + 1) _ _ _ p.main 0 rfl rfl b1 b2, ?_⟩
      refine ⟨.slice fa p.funcs.length fc, .slice ga p.globals.length gc, .slice ya p.layouts.length yc, by rw [hdec], ?_, ((((HB6.out.setCell (Nat.le_refl _) _).setCell (Nat.le_refl _) _).setCell (Nat.le_refl _) _).setCell (Nat.le_refl _) _).setCell (Nat.le_succ _) _⟩
      rw [hdec]
      exact own_five ((HPR.out.stay HBV.out).mono (Nat.le_trans (bvia HBW.out HB3.out).size HBR.out.size)) HX6.out HY6.out _ _ _ _ _

end Go.Proofs.Ytkfpacklpelefaa
