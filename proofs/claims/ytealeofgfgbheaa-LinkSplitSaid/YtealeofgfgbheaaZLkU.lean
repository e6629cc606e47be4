/-
  link.part walked.
-/
import Derived.Test.YtealeofgfgbheaaZLkT
import Derived.Test.YtealeofgfgbheaaZLkF
namespace Go.Proofs.Ytealeofgfgbheaa
set_option linter.unusedVariables false
set_option linter.unusedSimpArgs false
open Go.RowKit

noncomputable def planPt16 : Plan := mkPlan (regionOf Try.f41 16) [(3, .new), (4, .new), (5, .new), (7, .fin)] []
noncomputable def planPt31 : Plan := mkPlan (regionOf Try.f41 31) [(10, .new), (13, .fin)] []

theorem part_results (tmps : Array Value) (w : World) (b : Nat) (x y z m : Value) (h2 : tmps.getD 4 undef = .pointer (some ⟨b, 0, none⟩)) (hx : BoxAt w b 26 [x, y, z, m]) :
    (results Try.f41 tmps).run Try.prog w = .ok (.agg #[x, y, z, m]) w := by
  have g0 := hx.cell 0 _ rfl
  have g1 := hx.cell 1 _ rfl
  have g2 := hx.cell 2 _ rfl
  have g3 := hx.cell 3 _ rfl
  have h2' : tmps[4]?.getD undef = .pointer (some ⟨b, 0, none⟩) := by simpa using h2
  simp [results, Try.results41, h2', asAddr, go_sem, g0, g1, g2, g3]
set_option maxRecDepth 100000 in
set_option maxHeartbeats 8000000 in
theorem part_calls (lo : Nat) (vf vg vl : Value) (p : Prg) (i : Nat) (w : World) (hp : ProgAt lo w vf vg vl p) (hwf : PrgWf p) (hv : validB p = true) (hi : i < p.funcs.length) :
    Calls Try.prog 41 #[.agg #[vf, vg, vl, .int .i64 p.main], .int .i64 i] w fun e w' => ∃ uf ug ul, e = .returned (.agg #[uf, ug, ul, .int .i64 (partP p i).main]) ∧ PartQ w.heap.size w' uf ug ul (partP p i) ∧ Below w.heap.size w w' := by
  have HP := hid hp
  have HWF := hid hwf
  have HV := hid hv
  have HI := hid hi
  have h64 := (valid_pos hv).2
  obtain ⟨fa, fc, fb, fo, FS, rfl, fp, f0, f1, f2, f3, fcode, fbl, -, -, -⟩ := hp.funcs.open
  obtain ⟨ga, gc, gb, go, rfl, -⟩ := hp.globs.open
  obtain ⟨la, lc, lb, lo', LS, rfl, lp, l0, li, lbl, -, -, -⟩ := hp.lays.open
  obtain rfl := fp (by omega)
  have HFQ := hid (And.intro f0 (And.intro f1 (And.intro f2 (And.intro f3 (And.intro fcode (fbl (by omega)))))))
  have HLQ := hid (And.intro lp (And.intro l0 (And.intro li lbl)))
  have hii : (i : Int) < p.funcs.length := Int.ofNat_lt.2 hi
  have hi0 : ¬ ((i : Int) < 0) := by omega
  obtain ⟨f, hf⟩ : ∃ f, nth p.funcs i = f := ⟨_, rfl⟩
  have HF := hid hf
  have y3 : w.cell? ⟨fb, fo + i * 4 + 3, none⟩ = some (.slice (FS i).a f.code.length (FS i).c) := by rw [← hf]; exact f3 i hi
  have gl : fb < w.heap.size := fbl (by omega)
  have hci : CodeAt lo w (.slice (FS i).a f.code.length (FS i).c) f.code := by rw [← hf]; exact fcode i hi
  have HCI := hid hci
  have hfw := HWF.out.func _ (nth_mem p.funcs i hi)
  rw [hf] at hfw
  have HFW := hid hfw
  obtain ⟨xa, xc, xb, xo, hxe, xp, x0, x1, x2, x3, x4, xbl, -, -⟩ := hci.open
  obtain ⟨hxe1, -, hxe2⟩ := Value.slice.inj hxe
  have hfk := fok_of_funcB (by have := valid_func hv i hi; rw [hf] at this; exact this)
  have hcl0 := hfk.pos
  have hcl1 := hfk.le
  obtain rfl := xp hcl0
  rw [hxe1, hxe2] at y3
  have HXQ := hid (And.intro x0 (And.intro x1 (And.intro x2 (And.intro x3 (And.intro x4 (xbl hcl0))))))
  rw [hxe1, hxe2] at HCI
  clear hp f0 f1 f2 f3 fcode fbl lp l0 li lbl hwf hv hf hfw x0 x1 x2 x3 x4 xbl hci hxe hxe1 hxe2 hfk
  have hi64 : intK.good (i : Int) := by show I64 (i : Int); unfold I64; omega
  obtain ⟨wm, hrun, hm, hg⟩ := (MapB.made (K := intK) ((w.alloc (.cells #[.slice (some ⟨fb, fo, none⟩) p.funcs.length fc, .slice ga p.globals.length gc, .slice la p.layouts.length lc, .int .i64 p.main] 26)).alloc (.cells #[.slice none 0 0, .slice none 0 0, .slice none 0 0, .int .i64 0] 26))).upd 82 Try.underlying82 (by decide) (i : Int) hi64
  have hsz2 : ((w.alloc (.cells #[.slice (some ⟨fb, fo, none⟩) p.funcs.length fc, .slice ga p.globals.length gc, .slice la p.layouts.length lc, .int .i64 p.main] 26)).alloc (.cells #[.slice none 0 0, .slice none 0 0, .slice none 0 0, .int .i64 0] 26)).heap.size = w.heap.size + 1 + 1 := by simp
  rw [hsz2] at hrun hm hg
  have hrun' : (Instr.mapUpdate 82 (.map (some (w.heap.size + 1 + 1))) (.int .i64 i) (.bool true)).run Try.prog (((w.alloc (.cells #[.slice (some ⟨fb, fo, none⟩) p.funcs.length fc, .slice ga p.globals.length gc, .slice la p.layouts.length lc, .int .i64 p.main] 26)).alloc (.cells #[.slice none 0 0, .slice none 0 0, .slice none 0 0, .int .i64 0] 26)).alloc (.map #[] 0)) = .ok () wm := hrun
  have hbW : Below w.heap.size w (((w.alloc (.cells #[.slice (some ⟨fb, fo, none⟩) p.funcs.length fc, .slice ga p.globals.length gc, .slice la p.layouts.length lc, .int .i64 p.main] 26)).alloc (.cells #[.slice none 0 0, .slice none 0 0, .slice none 0 0, .int .i64 0] 26)).alloc (.map #[] 0)) := (((Below.refl _ _).alloc (Nat.le_refl _) _).alloc (by simp) _).alloc (by simp; omega) _
  have hbm : Below w.heap.size w wm := Below.grown hbW hg (by simp; omega) (fun q hq => by cases hq; omega)
  have hne : ∀ b, b < w.heap.size + 1 + 1 → some b ≠ some (w.heap.size + 1 + 1) := fun b hb e => by cases e; omega
  have R1 := hid ((show BoxAt (((w.alloc (.cells #[.slice (some ⟨fb, fo, none⟩) p.funcs.length fc, .slice ga p.globals.length gc, .slice la p.layouts.length lc, .int .i64 p.main] 26)).alloc (.cells #[.slice none 0 0, .slice none 0 0, .slice none 0 0, .int .i64 0] 26)).alloc (.map #[] 0)) w.heap.size 26 [.slice (some ⟨fb, fo, none⟩) p.funcs.length fc, .slice ga p.globals.length gc, .slice la p.layouts.length lc, .int .i64 p.main] from ((BoxAt.new w _ _ _ _ rfl rfl).alloc _).alloc _).only (Only.grown hg) (hne _ (by omega)))
  have R2 := hid ((show BoxAt (((w.alloc (.cells #[.slice (some ⟨fb, fo, none⟩) p.funcs.length fc, .slice ga p.globals.length gc, .slice la p.layouts.length lc, .int .i64 p.main] 26)).alloc (.cells #[.slice none 0 0, .slice none 0 0, .slice none 0 0, .int .i64 0] 26)).alloc (.map #[] 0)) (w.heap.size + 1) 26 [.slice none 0 0, .slice none 0 0, .slice none 0 0, .int .i64 0] from (BoxAt.new (w.alloc (.cells #[.slice (some ⟨fb, fo, none⟩) p.funcs.length fc, .slice ga p.globals.length gc, .slice la p.layouts.length lc, .int .i64 p.main] 26)) _ _ _ _ (by simp) rfl).alloc _).only (Only.grown hg) (hne _ (by omega)))
  have HM := hid hm
  have HBM := hid hbm
  have hmm := @run_makeMap Try.prog
  clear hrun hm hg hsz2 hbW hbm hne hi64
  have c0 := R1.out.cell 0 _ rfl
  have cz := R1.out.lt
  have y3' := (HBM.out.cell (p := ⟨fb, fo + i * 4 + 3, none⟩) gl).trans y3
  have gl2 : fb < wm.heap.size := Nat.lt_of_lt_of_le gl HBM.out.size
  go_enter Try.func41, Try.ntmps41
  go_wp2_with fail
  clear hmm hrun' c0 cz y3' gl2
  go_loopw [25] (fun iv wr => ∃ (k c : Nat), k ≤ f.code.length ∧ iv = .int .i64 k ∧ MapB intK wr (w.heap.size + 1 + 1) c (usedK p i k) ∧ c ≤ k + 1 ∧ BoxAt wr w.heap.size 26 [.slice (some ⟨fb, fo, none⟩) p.funcs.length fc, .slice ga p.globals.length gc, .slice la p.layouts.length lc, .int .i64 p.main] ∧ BoxAt wr (w.heap.size + 1) 26 [.slice none 0 0, .slice none 0 0, .slice none 0 0, .int .i64 0] ∧ Below w.heap.size w wr) (fun iv _ => f.code.length - (intOf iv).toNat)
  case atStart => exact ⟨0, 1, Nat.zero_le _, rfl, HM.out.congr (fun x => by simp [usedK]), by omega, R1.out, R2.out, HBM.out⟩
  case round =>
  clear R1 R2 HM HBM
  obtain ⟨k, c, hk, rfl, hm, hc, h1, h2, hb⟩ := hrel
  obtain ⟨wo, hwo⟩ : ∃ wo, wo = wr := ⟨_, rfl⟩
  subst hwo
  have HM := hid hm
  have R1 := hid h1
  have R2 := hid h2
  have HB := hid hb
  clear hm h1 h2 hb
  by_cases hlt : k < f.code.length
  · have hlt2 : (k : Int) < f.code.length := Int.ofNat_lt.2 hlt
    have hki : ¬ ((k : Int) < 0) := by omega
    obtain ⟨x0, x1, x2, x3, x4, xbl⟩ := HXQ.out
    obtain ⟨x, hx⟩ : ∃ x, nth f.code k = x := ⟨_, rfl⟩
    have z0 := (HB.out.cell (p := ⟨xb, _, none⟩) xbl).trans (x0 k hlt)
    have z1 := (HB.out.cell (p := ⟨xb, _, none⟩) xbl).trans (x1 k hlt)
    have z2 := (HB.out.cell (p := ⟨xb, _, none⟩) xbl).trans (x2 k hlt)
    have z3 := (HB.out.cell (p := ⟨xb, _, none⟩) xbl).trans (x3 k hlt)
    have z4 := (HB.out.cell (p := ⟨xb, _, none⟩) xbl).trans (x4 k hlt)
    have gx : xb < wo.heap.size := Nat.lt_of_lt_of_le xbl HB.out.size
    have HX := hid hx
    rw [hx] at z0 z1 z2 z3 z4
    have hgd : intK.good x.b := by rw [← hx]; exact (HFW.out.ins _ (nth_mem f.code k hlt)).b
    have HGD := hid hgd
    have HUS := hid (fun z => usedK_succ p i k (by rw [HF.out]; exact hlt) z)
    have hal : Below wo.heap.size wo (wo.alloc (.cells #[.int .i64 x.op, .int .i64 x.a, .int .i64 x.b, .int .i64 x.c, .int .i64 x.pos] 43)) := (Below.refl _ _).alloc (Nat.le_refl _) _
    have HAL := hid hal
    clear x0 x1 x2 x3 x4 xbl hx hgd hal
    by_cases hop : callB x.op = true
    · have HOP := hid hop
      have h0 : x.op = 26 ∨ x.op = 28 ∨ x.op = 31 ∨ x.op = 24 := by simpa [callB] using hop
      clear hop
      rcases h0 with h0 | h0 | h0 | h0
      · have e26 : (x.op == 26) = true := by simp [h0]
        clear h0
        go_wp2_with (
          at_mapUpdate
          refine wpList_upd_B (K := intK) rfl _ _ _ 82 rfl Try.underlying82 rfl (HM.out.below HAL.out) (by simp only [maxLen]; omega) x.b rfl rfl HGD.out ?_
          intro wq hq hgq
          have hR1 := (R1.out.below HAL.out).only (Only.grown hgq) ((R1.out.below HAL.out).neMap (HM.out.below HAL.out))
          have hR2 := (R2.out.below HAL.out).only (Only.grown hgq) ((R2.out.below HAL.out).neMap (HM.out.below HAL.out))
          have hBq := Below.grown (HB.out.trans (HAL.out.mono HB.out.size)) hgq (by have := HB.out.size; simp; omega) (fun q hq => by cases hq; omega)
          have HQ := hid (And.intro hq (And.intro hR1 (And.intro hR2 hBq)))
          clear hq hgq hR1 hR2 hBq)
        obtain ⟨hq, hR1, hR2, hBq⟩ := HQ.out
        refine ⟨⟨k + 1, c + 1, hlt, rfl, hq.congr (fun z => ?_), by omega, hR1, hR2, hBq⟩, ?_⟩
        · rw [HUS.out z, HF.out, HX.out, List.mem_cons]
          constructor
          · rintro (h | h)
            · exact .inl ⟨HOP.out, h⟩
            · exact .inr h
          · rintro (⟨_, h⟩ | h)
            · exact .inl h
            · exact .inr h
        · simp only [intOf]
          omega
      · have e26 : (x.op == 26) = false := by simp [h0]
        have e28 : (x.op == 28) = true := by simp [h0]
        clear h0
        go_wp2_with (
          at_mapUpdate
          refine wpList_upd_B (K := intK) rfl _ _ _ 82 rfl Try.underlying82 rfl (HM.out.below HAL.out) (by simp only [maxLen]; omega) x.b rfl rfl HGD.out ?_
          intro wq hq hgq
          have hR1 := (R1.out.below HAL.out).only (Only.grown hgq) ((R1.out.below HAL.out).neMap (HM.out.below HAL.out))
          have hR2 := (R2.out.below HAL.out).only (Only.grown hgq) ((R2.out.below HAL.out).neMap (HM.out.below HAL.out))
          have hBq := Below.grown (HB.out.trans (HAL.out.mono HB.out.size)) hgq (by have := HB.out.size; simp; omega) (fun q hq => by cases hq; omega)
          have HQ := hid (And.intro hq (And.intro hR1 (And.intro hR2 hBq)))
          clear hq hgq hR1 hR2 hBq)
        obtain ⟨hq, hR1, hR2, hBq⟩ := HQ.out
        refine ⟨⟨k + 1, c + 1, hlt, rfl, hq.congr (fun z => ?_), by omega, hR1, hR2, hBq⟩, ?_⟩
        · rw [HUS.out z, HF.out, HX.out, List.mem_cons]
          constructor
          · rintro (h | h)
            · exact .inl ⟨HOP.out, h⟩
            · exact .inr h
          · rintro (⟨_, h⟩ | h)
            · exact .inl h
            · exact .inr h
        · simp only [intOf]
          omega
      · have e26 : (x.op == 26) = false := by simp [h0]
        have e28 : (x.op == 28) = false := by simp [h0]
        have e31 : (x.op == 31) = true := by simp [h0]
        clear h0
        go_wp2_with (
          at_mapUpdate
          refine wpList_upd_B (K := intK) rfl _ _ _ 82 rfl Try.underlying82 rfl (HM.out.below HAL.out) (by simp only [maxLen]; omega) x.b rfl rfl HGD.out ?_
          intro wq hq hgq
          have hR1 := (R1.out.below HAL.out).only (Only.grown hgq) ((R1.out.below HAL.out).neMap (HM.out.below HAL.out))
          have hR2 := (R2.out.below HAL.out).only (Only.grown hgq) ((R2.out.below HAL.out).neMap (HM.out.below HAL.out))
          have hBq := Below.grown (HB.out.trans (HAL.out.mono HB.out.size)) hgq (by have := HB.out.size; simp; omega) (fun q hq => by cases hq; omega)
          have HQ := hid (And.intro hq (And.intro hR1 (And.intro hR2 hBq)))
          clear hq hgq hR1 hR2 hBq)
        obtain ⟨hq, hR1, hR2, hBq⟩ := HQ.out
        refine ⟨⟨k + 1, c + 1, hlt, rfl, hq.congr (fun z => ?_), by omega, hR1, hR2, hBq⟩, ?_⟩
        · rw [HUS.out z, HF.out, HX.out, List.mem_cons]
          constructor
          · rintro (h | h)
            · exact .inl ⟨HOP.out, h⟩
            · exact .inr h
          · rintro (⟨_, h⟩ | h)
            · exact .inl h
            · exact .inr h
        · simp only [intOf]
          omega
      · have e26 : (x.op == 26) = false := by simp [h0]
        have e28 : (x.op == 28) = false := by simp [h0]
        have e31 : (x.op == 31) = false := by simp [h0]
        have e24 : (x.op == 24) = true := by simp [h0]
        clear h0
        go_wp2_with (
          at_mapUpdate
          refine wpList_upd_B (K := intK) rfl _ _ _ 82 rfl Try.underlying82 rfl (HM.out.below HAL.out) (by simp only [maxLen]; omega) x.b rfl rfl HGD.out ?_
          intro wq hq hgq
          have hR1 := (R1.out.below HAL.out).only (Only.grown hgq) ((R1.out.below HAL.out).neMap (HM.out.below HAL.out))
          have hR2 := (R2.out.below HAL.out).only (Only.grown hgq) ((R2.out.below HAL.out).neMap (HM.out.below HAL.out))
          have hBq := Below.grown (HB.out.trans (HAL.out.mono HB.out.size)) hgq (by have := HB.out.size; simp; omega) (fun q hq => by cases hq; omega)
          have HQ := hid (And.intro hq (And.intro hR1 (And.intro hR2 hBq)))
          clear hq hgq hR1 hR2 hBq)
        obtain ⟨hq, hR1, hR2, hBq⟩ := HQ.out
        refine ⟨⟨k + 1, c + 1, hlt, rfl, hq.congr (fun z => ?_), by omega, hR1, hR2, hBq⟩, ?_⟩
        · rw [HUS.out z, HF.out, HX.out, List.mem_cons]
          constructor
          · rintro (h | h)
            · exact .inl ⟨HOP.out, h⟩
            · exact .inr h
          · rintro (⟨_, h⟩ | h)
            · exact .inl h
            · exact .inr h
        · simp only [intOf]
          omega
    · have h0 : ¬ (x.op = 26 ∨ x.op = 28 ∨ x.op = 31 ∨ x.op = 24) := by simpa [callB] using hop
      have HOP := hid hop
      have e26 : (x.op == 26) = false := beq_eq_false_iff_ne.2 (fun e => h0 (.inl e))
      have e28 : (x.op == 28) = false := beq_eq_false_iff_ne.2 (fun e => h0 (.inr (.inl e)))
      have e31 : (x.op == 31) = false := beq_eq_false_iff_ne.2 (fun e => h0 (.inr (.inr (.inl e))))
      have e24 : (x.op == 24) = false := beq_eq_false_iff_ne.2 (fun e => h0 (.inr (.inr (.inr e))))
      clear hop h0
      go_wp2_with fail
      refine ⟨⟨k + 1, c, hlt, rfl, (HM.out.below HAL.out).congr (fun z => ?_), by omega, R1.out.below HAL.out, R2.out.below HAL.out, HB.out.trans (HAL.out.mono HB.out.size)⟩, ?_⟩
      · rw [HUS.out z]
        constructor
        · exact .inr
        · rintro (⟨h1, h2⟩ | h)
          · rw [HF.out, HX.out] at h1
            exact absurd h1 HOP.out
          · exact h
      · simp only [intOf]
        omega
  · have hke : k = f.code.length := by omega
    subst hke
    obtain ⟨_, h2, h3, -⟩ := (valid_iff p).1 HV.out
    have hlz : p.layouts.length ≤ 32 := by simp only [laysB, Bool.and_eq_true, decide_eq_true_eq] at h3; exact h3.2
    have hgz : p.globals.length ≤ 64 := h2
    have c1 := R1.out.cell 1 _ rfl
    have cz := R1.out.lt
    have HM2 := hid HM.out
    rw [← HF.out] at HM2
    clear h2 h3 HM
    go_wp2_with fail
    refine (clnGlob_calls lo _ p.globals wo (HP.out.globs.below HB.out) (by omega)).mono ?_
    rintro e w1 ⟨v1, rfl, ho1, hb1⟩
    obtain ⟨oa, oc, rfl⟩ := ho1.anySlice
    have HO1 := hid (ho1.mono HB.out.size)
    have HM3 := hid (HM2.out.below hb1)
    have R13 := hid (R1.out.below hb1)
    have R23 := hid (R2.out.below hb1)
    have HB1 := hid (bvia HB.out hb1)
    have d2 := R13.out.cell 2 _ rfl
    have dz := R13.out.lt
    have hb8 : w.heap.size + 1 < w1.heap.size := R23.out.lt
    clear ho1 hb1 c1 cz R1 R2 HB HM2
    go_wp2_with fail
    generalize hW4 : World.alloc _ _ = W4
    have hb4 : Below w1.heap.size w1 W4 := by rw [← hW4]; exact (Below.refl _ _).alloc (Nat.le_refl _) _
    have hst : P2St w W4 w1.heap.size (w.heap.size + 1 + 1) c (.slice (some ⟨fb, fo, none⟩) p.funcs.length fc) (.slice ga p.globals.length gc) (.slice la p.layouts.length lc) (.slice oa p.globals.length oc) (.slice none 0 0) p i 0 [] :=
      ⟨HO1.out.fresh (Only.below hb4 none), by rw [List.take_zero]; exact OwnLays.nil _ _, by rw [← hW4]; exact BoxAt.new _ _ _ _ _ rfl rfl, R13.out.below hb4, R23.out.below hb4, HM3.out.below hb4, HB1.out.trans (hb4.mono HB1.out.size), hb8⟩
    obtain ⟨b8, hb8e⟩ : ∃ b, w1.heap.size = b := ⟨_, rfl⟩
    rw [hb8e] at hst hb8 ⊢
    have HST := hid hst
    clear hW4 hb4 hst hb8e HO1 HM3 R13 R23 HB1 d2 dz
    go_loopw [47] (fun iv wr => ∃ (k : Nat) (rs : List Slc) (ua : Option Addr) (uc : Nat), k ≤ p.layouts.length ∧ iv = .int .i64 k ∧ P2St w wr b8 (w.heap.size + 1 + 1) c (.slice (some ⟨fb, fo, none⟩) p.funcs.length fc) (.slice ga p.globals.length gc) (.slice la p.layouts.length lc) (.slice oa p.globals.length oc) (.slice ua k uc) p i k rs) (fun iv _ => p.layouts.length - (intOf iv).toNat)
    case atStart => exact ⟨0, [], none, 0, Nat.zero_le _, rfl, HST.out⟩
    case round =>
    clear HST
    obtain ⟨k, rs, ua, uc, hk, rfl, hst⟩ := hrel
    obtain ⟨wl, hwl⟩ : ∃ wl, wl = wr := ⟨_, rfl⟩
    subst hwl
    have HST := hid hst
    clear hst
    by_cases hlt : k < p.layouts.length
    · have hlt2 : (k : Int) < p.layouts.length := Int.ofNat_lt.2 hlt
      have hki : ¬ ((k : Int) < 0) := by omega
      obtain ⟨lp, l0, li, lbl⟩ := HLQ.out
      obtain rfl := lp (by omega)
      have hlk := li k hlt
      obtain ⟨row, hrow⟩ : ∃ row, nth p.layouts k = row := ⟨_, rfl⟩
      have y0 := l0 k hlt
      have hrl : row.length ≤ 64 := by
        obtain ⟨_, _, h3, -⟩ := (valid_iff p).1 HV.out
        simp only [laysB, Bool.and_eq_true, List.all_eq_true] at h3
        have h4 := h3.1 _ (nth_mem p.layouts k hlt)
        simp only [rowB, Bool.and_eq_true, decide_eq_true_eq] at h4
        rw [← hrow]; exact h4.2
      rw [hrow] at y0 hlk
      have HRO := hid hrow
      obtain ⟨ra, rc, rb, ro, hre, rp, rcell, rlt, -⟩ := hlk.open
      obtain ⟨e1, -, e2⟩ := Value.slice.inj hre
      rw [e1, e2] at y0 hlk
      have HLK := hid hlk
      have gl' := lbl (by omega)
      have y0' := (HST.out.low.cell (p := ⟨lb, _, none⟩) gl').trans y0
      have gl3 : lb < wl.heap.size := Nat.lt_of_lt_of_le gl' HST.out.low.size
      clear lp l0 li lbl y0 hlk hrow hre e1 e2 rp rcell rlt
      go_wp2_with fail
      have HG := hid (show ∀ w', BoxAt w' b8 26 [.slice none 0 0, .slice oa p.globals.length oc, .slice ua k uc, .int .i64 (-1)] → w'.cell? ⟨b8, 2, none⟩ = some (.slice ua k uc) ∧ b8 < w'.heap.size from fun w' hw => ⟨hw.cell 2 _ rfl, hw.lt⟩)
      have hww : w.heap.size ≤ wl.heap.size := HST.out.low.size
      refine Plan.wp_chainG planPt16 (fun w' => BoxAt w' b8 26 [.slice none 0 0, .slice oa p.globals.length oc, .slice ua k uc, .int .i64 (-1)]) HST.out.box.drew (by kernel_rfl) rfl (by kernel_rfl) (by kernel_rfl) ?_
      repeat (first | (apply Plan.chain_skip rfl rfl; simp only [Act.put, List.setIfInBounds_toArray, List.set_cons_zero, List.set_cons_succ]) | (apply Plan.chain_det rfl rfl; (· intro w' hb; obtain ⟨hcl, hG⟩ := HG.out w' hb; go_simp; rfl); simp only [Act.put, List.setIfInBounds_toArray, List.set_cons_zero, List.set_cons_succ]))
      refine Plan.chain_call 53 #[.slice ra row.length rc] (fun v w' => ∃ na nc, v = .slice na row.length nc ∧ OwnE intE wl.heap.size 3 w' v row ∧ Below wl.heap.size wl w') rfl rfl rfl (by go_simp) ?_ (fun v w' h => ?_) (fun v3 w3 h => ?_)
      · refine (clnInt_calls lo _ row wl.drew (HLK.out.below (HST.out.low.drew)) (by omega)).mono ?_
        rintro e w' ⟨v, rfl, ho, hb⟩
        obtain ⟨na, nc, rfl⟩ := ho.anySlice
        exact ⟨_, rfl, na, nc, rfl, ho, (Below.refl _ _).drew.trans hb⟩
      · obtain ⟨_, _, _, _, hb⟩ := h
        exact HST.out.box.below hb
      obtain ⟨na, nc, rfl, ho3, hb3⟩ := h
      simp only [Act.put, List.setIfInBounds_toArray, List.set_cons_zero, List.set_cons_succ]
      have HO3 := hid ho3
      have HB3 := hid hb3
      clear ho3 hb3
      repeat (first | (apply Plan.chain_skip rfl rfl; simp only [Act.put, List.setIfInBounds_toArray, List.set_cons_zero, List.set_cons_succ]) | (apply Plan.chain_det rfl rfl; (· intro w' hb; obtain ⟨hcl, hG⟩ := HG.out w' hb; go_simp; rfl); simp only [Act.put, List.setIfInBounds_toArray, List.set_cons_zero, List.set_cons_succ]))
      have HA3 := hid (show Below w3.heap.size w3 (w3.alloc (.cells #[.slice na row.length nc] 45)) from (Below.refl _ _).alloc (Nat.le_refl _) _)
      have HS3 := hid ((HST.out.fresh HB3.out).fresh HA3.out)
      refine Plan.chain_run (.slice (some ⟨w3.heap.size, 0, none⟩) 1 1) (w3.alloc (.cells #[.slice na row.length nc] 45)) rfl rfl rfl (by go_simp) HS3.out.box ?_
      simp only [Act.put, List.setIfInBounds_toArray, List.set_cons_zero, List.set_cons_succ]
      have hrl2 : rs.length = k := by rw [HST.out.lays.len, List.length_take]; omega
      refine Plan.chain_appG rowE (.tmp 52) (.tmp 55) 24 w.heap.size w.heap.size 45 _ 24 rs [(⟨na, row.length, nc⟩ : Slc)] rfl rfl rfl rfl Try.underlying24 infoRow12 rfl HS3.out.lays.row (OwnE.sl (OwnE.lit rowE w3 w.heap.size 45 [(⟨na, row.length, nc⟩ : Slc)] _ w3.heap.size 1 rfl (by have := HB3.out.size; omega) rfl rfl (by simp)) (Nat.le_refl _) (by simp)) (by rw [hrl2]; simp; omega) (by rw [hrl2]; simp only [maxLen]; simp; omega) (by have := HB3.out.size; simp; omega) (fun g5 cap5 w5 ho5 hg5 => ?_)
      have hz5 : (rs ++ [(⟨na, row.length, nc⟩ : Slc)]).length = k + 1 := by rw [List.length_append, hrl2]; rfl
      rw [hz5] at ho5 ⊢
      have hx5 := HS3.out.box.only (Only.grown hg5) (HS3.out.box.neRow HS3.out.lays.row (by decide))
      have HST5 := hid (HS3.out.add (s := ⟨na, row.length, nc⟩) (v2 := .slice g5 (k + 1) cap5) hlt hg5 ho5 (by rw [HRO.out]; exact (HO3.out.mono hww).alloc _))
      refine ⟨hx5, ?_⟩
      simp only [Act.put, List.setIfInBounds_toArray, List.set_cons_zero, List.set_cons_succ]
      have q0 := hx5.cell 2 _ rfl
      have qf := hx5.frozen 2
      have qz := hx5.lt
      clear hx5 ho5 hg5 hz5 y0' gl3
      repeat (first | (apply Plan.chain_skip rfl rfl; simp only [Act.put, List.setIfInBounds_toArray, List.set_cons_zero, List.set_cons_succ]) | (apply Plan.chain_det rfl rfl; (· intro w' hb; obtain ⟨hcl, hG⟩ := HG.out w' hb; go_simp; rfl); simp only [Act.put, List.setIfInBounds_toArray, List.set_cons_zero, List.set_cons_succ]))
      refine Plan.chain_fin rfl rfl ?_
      unfold Oper.wp
      go_simp
      go_wp2_with fail
      refine ⟨⟨k + 1, _, g5, cap5, hlt, rfl, HST5.out⟩, ?_⟩
      simp only [intOf]
      omega
    · have hke : k = p.layouts.length := by omega
      subst hke
      have hla := HST.out.lays
      rw [List.take_length] at hla
      have HLA := hid hla
      obtain ⟨cU, hcU⟩ : ∃ cU, c = cU := ⟨_, rfl⟩
      have hmm := @run_makeMap Try.prog
      have c0 := HST.out.arg.cell 0 _ rfl
      have cz := HST.out.arg.lt
      have hU : w.heap.size + 1 + 1 < wl.heap.size := HST.out.used.lt
      clear hla
      go_wp2_with fail
      clear hmm c0 cz
      have hal : Below wl.heap.size wl ((wl.alloc (.map #[] 0)).alloc (.cells #[.map (some wl.heap.size)] 84)) := ((Below.refl _ _).alloc (Nat.le_refl _) _).alloc (by simp) _
      have hst2 : PtSt lo w ((wl.alloc (.map #[] 0)).alloc (.cells #[.map (some wl.heap.size)] 84)) b8 (w.heap.size + 1 + 1) c (wl.heap.size + 1) wl.heap.size 0 (.slice (some ⟨fb, fo, none⟩) p.funcs.length fc) (.slice ga p.globals.length gc) (.slice la p.layouts.length lc) (.slice none 0 0) (.slice oa p.globals.length oc) (.slice ua p.layouts.length uc) p i 0 [] rs := by
        have h2 := HST.out.fresh hal
        refine ⟨by have := QFuns.nil lo w _ h2.low; simpa [flP] using this, h2.globs, HLA.out.fresh (Only.below hal none), h2.box, h2.arg, h2.res, h2.used, BoxAt.new _ _ _ _ _ (by simp) rfl, ((MapN.made (K := intK) wl).below ((Below.refl _ _).alloc (Nat.le_refl _) _)).congr (fun n => ?_), Nat.le_refl _, h2.ne8, HST.out.low.size, by omega, fun j hj => by simp [plc] at hj⟩
        unfold plF
        rw [if_neg]
        rintro ⟨h1, h2, _⟩
        omega
      obtain ⟨bC, hbC⟩ : ∃ b, wl.heap.size + 1 = b := ⟨_, rfl⟩
      obtain ⟨bP, hbP⟩ : ∃ b, wl.heap.size = b := ⟨_, rfl⟩
      obtain ⟨W5, hW5⟩ : ∃ W5, (wl.alloc (.map #[] 0)).alloc (.cells #[.map (some wl.heap.size)] 84) = W5 := ⟨_, rfl⟩
      rw [hW5] at hst2 ⊢
      rw [hbC, hbP] at hst2
      first | rw [hbC] | skip
      have HST2 := hid hst2
      clear hW5 hst2 hal HST HLA hU hbP
      go_loopw [63] (fun iv wr => ∃ (k : Nat) (ss : List Slc) (va : Option Addr) (vc cP : Nat), k ≤ p.funcs.length ∧ iv = .int .i64 k ∧ PtSt lo w wr b8 (w.heap.size + 1 + 1) c bC bP cP (.slice (some ⟨fb, fo, none⟩) p.funcs.length fc) (.slice ga p.globals.length gc) (.slice la p.layouts.length lc) (.slice va (plc p i k) vc) (.slice oa p.globals.length oc) (.slice ua p.layouts.length uc) p i k ss rs) (fun iv _ => p.funcs.length - (intOf iv).toNat)
      case atStart => exact ⟨0, [], none, 0, 0, Nat.zero_le _, rfl, HST2.out⟩
      case round =>
      clear HST2
      obtain ⟨k, ss, va, vc, cP, hk, rfl, hst⟩ := hrel
      obtain ⟨wo, hwo⟩ : ∃ wo, wo = wr := ⟨_, rfl⟩
      subst hwo
      have HST := hid hst
      clear hst
      by_cases hlt : k < p.funcs.length
      · have hlt2 : (k : Int) < p.funcs.length := Int.ofNat_lt.2 hlt
        have hki : ¬ ((k : Int) < 0) := by omega
        obtain ⟨f0, f1, f2, f3, fcode, fbl⟩ := HFQ.out
        have hbw := HST.out.q.low
        have z0 := (hbw.cell (p := ⟨fb, _, none⟩) fbl).trans (f0 k hlt)
        have z1 := (hbw.cell (p := ⟨fb, _, none⟩) fbl).trans (f1 k hlt)
        have z2 := (hbw.cell (p := ⟨fb, _, none⟩) fbl).trans (f2 k hlt)
        have z3 := (hbw.cell (p := ⟨fb, _, none⟩) fbl).trans (f3 k hlt)
        have gl3 : fb < wo.heap.size := Nat.lt_of_lt_of_le fbl hbw.size
        have hcd := fcode k hlt
        obtain ⟨h, hh⟩ : ∃ h, nth p.funcs k = h := ⟨_, rfl⟩
        rw [hh] at z0 z1 z2 z3 hcd
        have HH := hid hh
        have HCD := hid hcd
        have hal : Below wo.heap.size wo (wo.alloc (.cells #[.string h.name, .int .i64 h.params, .int .i64 h.regs, .slice (FS k).a h.code.length (FS k).c] 41)) := (Below.refl _ _).alloc (Nat.le_refl _) _
        have HAL := hid hal
        have HS1 := hid (HST.out.fresh hal)
        have HBX := hid (BoxAt.new wo #[.string h.name, .int .i64 h.params, .int .i64 h.regs, .slice (FS k).a h.code.length (FS k).c] 41 wo.heap.size _ rfl rfl)
        have hgk : intK.good (k : Int) := by show I64 (k : Int); unfold I64; omega
        have HGK := hid hgk
        clear f0 f1 f2 f3 fcode fbl hbw hh hcd hal hgk
        cases hu : usedB p i k with
        | false =>
          have hdec : memB (k : Int) (usedK p i (nth p.funcs i).code.length) = false := memB_false (fun hm => by rw [usedK_end] at hm; rw [hm] at hu; cases hu)
          have HU := hid hu
          have HPS := hid (show plc p i (k + 1) = plc p i k by rw [plc_succ, hu]; simp)
          clear hu
          go_wp2_with (
            at_lookup
            refine wpList_look_B (K := intK) rfl _ _ 82 rfl Try.underlying82 rfl HS1.out.used (k : Int) rfl HGK.out ?_
            go_loud (rw [hdec]))
          refine ⟨⟨k + 1, ss, va, vc, cP, hlt, rfl, by rw [HPS.out]; exact HS1.out.skip HU.out⟩, ?_⟩
          simp only [intOf]
          omega
        | true =>
          have hdec : memB (k : Int) (usedK p i (nth p.funcs i).code.length) = true := memB_true ((usedK_end p i k).2 hu)
          have HPS := hid (show plc p i (k + 1) = plc p i k + 1 by rw [plc_succ, hu]; simp)
          have hpl := plc_le p i k
          have HPG := hid (show I64 (plc p i k : Int) by unfold I64; omega)
          have hzf : ((flP p i k).zip ss).length = plc p i k := by rw [HST.out.q.zlen, flP_len]
          have c5 := HS1.out.cell.cell 0 _ rfl
          have c5z := HS1.out.cell.lt
          have c8 := HS1.out.box.cell 0 _ rfl
          have c8z := HS1.out.box.lt
          by_cases hki2 : k = i
          · have hne : ((k : Int) != (i : Int)) = false := by simp [hki2]
            have HS0 := hid (show k ≠ i → (⟨(FS k).a, h.code.length, (FS k).c⟩ : Slc) = ⟨none, 0, 0⟩ from fun h => absurd hki2 h)
            have HPF := hid (show h = partF0 p i k by unfold partF0; rw [if_pos hki2, ← hki2]; exact HH.out.symm)
            clear hki2
            go_wp2_with (
            first
            | (at_lookup
               refine wpList_look_B (K := intK) rfl _ _ 82 rfl Try.underlying82 rfl HS1.out.used (k : Int) rfl HGK.out ?_
               go_loud (rw [hdec]))
            | (at_mapUpdate
               refine wpList_upd_N (K := intK) rfl _ _ _ 84 rfl Try.underlying84 rfl HS1.out.pl (by simp only [maxLen]; have := HS1.out.cle; omega) (k : Int) rfl (plc p i k : Int) rfl HGK.out HPG.out ?_
               intro wA hmA hgA
               have hzA : wo.heap.size + 1 ≤ wA.heap.size := by have := hgA.size; simpa using this
               have hOA : Only (some bP) wo wA := (Only.below HAL.out (some bP)).trans (Only.grown hgA)
               have hLA : Below w.heap.size wo wA := Below.grown (HAL.out.mono HST.out.q.low.size) hgA (by have := HST.out.q.low.size; simp; omega) (fun q hq => by cases hq; exact HST.out.neP)
               have hBXA := HBX.out.only (Only.grown hgA) (HBX.out.neMapN HS1.out.pl)
               have hrA := HST.out.q.row.only hOA (HST.out.q.row.neMapN HST.out.pl)
               have hxA := HST.out.box.only hOA (HST.out.box.neMapN HST.out.pl)
               have HMA := hid hmA
               have HOA := hid hOA
               have HLA := hid hLA
               have HRA := hid hrA
               have HXA := hid hxA
               have HBXA := hid hBXA
               have HSA := hid (show w.heap.size ≤ wA.heap.size ∧ wo.heap.size + 1 ≤ wA.heap.size from ⟨by have := HST.out.q.low.size; omega, hzA⟩)
               have c0 := hxA.cell 0 _ rfl
               have cz := hxA.lt
               have e0 := hBXA.cell 0 _ rfl
               have e1 := hBXA.cell 1 _ rfl
               have e2 := hBXA.cell 2 _ rfl
               have e3 := hBXA.cell 3 _ rfl
               have g0 := hBXA.frozen 0
               have g1 := hBXA.frozen 1
               have g2 := hBXA.frozen 2
               have g3 := hBXA.frozen 3
               have ez := hBXA.lt
               have hBB : Below wo.heap.size wA (wA.alloc (.cells #[.string h.name, .int .i64 h.params, .int .i64 h.regs, .slice (FS k).a h.code.length (FS k).c] 41)) := (Below.refl _ _).alloc (by omega) _
               have HBB := hid hBB
               have HRB := hid (hrA.alloc (.cells #[.string h.name, .int .i64 h.params, .int .i64 h.regs, .slice (FS k).a h.code.length (FS k).c] 41))
               have HXB := hid (hxA.alloc (.cells #[.string h.name, .int .i64 h.params, .int .i64 h.regs, .slice (FS k).a h.code.length (FS k).c] 41))
               have HSRC := hid (show CodeAt lo w (⟨(FS k).a, h.code.length, (FS k).c⟩ : Slc).val h.code ∨ OwnE insE w.heap.size 43 (wA.alloc (.cells #[.string h.name, .int .i64 h.params, .int .i64 h.regs, .slice (FS k).a h.code.length (FS k).c] 41)) (⟨(FS k).a, h.code.length, (FS k).c⟩ : Slc).val h.code from .inl HCD.out)
               clear hBB
               clear hmA hgA hOA hLA hBXA hrA hxA hzA)
            | (
               at_builtin
               go_loud (refine wpList_append_G funE (o := ⟨some 91, _, _, _, _, _⟩) rfl (.tmp 88) (.tmp 90) 22 rfl w.heap.size w.heap.size 41 _ 56 Try.underlying22 infoFun12 rfl ((flP p i k).zip ss) (h, (⟨(FS k).a, h.code.length, (FS k).c⟩ : Slc)) HRB.out (OwnE.sl (OwnE.lit funE _ w.heap.size 41 [(h, (⟨(FS k).a, h.code.length, (FS k).c⟩ : Slc))] _ wA.heap.size 1 (by simp [World.setCell]) (by have := HSA.out.1; omega) rfl rfl (by simp)) (Nat.le_refl _) (by simp)) (by rw [hzf]; omega) (by rw [hzf]; simp only [maxLen]; omega) (by have := HSA.out.1; simp [World.setCell]; omega) ?_)
               intro g5 cap5 w5 ho5 hg5 _ _ _
               rw [hzf] at ho5 ⊢
               have hS5 := HST.out.add (f := h) (s := (⟨(FS k).a, h.code.length, (FS k).c⟩ : Slc)) (v2 := .slice (some ⟨g5, 0, none⟩) (plc p i k + 1) cap5) hu HPF.out HS0.out HOA.out HLA.out HMA.out HBB.out hg5 ho5 HSRC.out
               have hbq := HXB.out.only (Only.grown hg5) (HXB.out.neRow HRB.out (by decide))
               have HS5 := hid hS5
               have q0 := hbq.cell 0 _ rfl
               have qf := hbq.frozen 0
               have qz := hbq.lt
               clear hS5 hbq ho5 hg5))
            refine ⟨⟨k + 1, _, _, _, cP + 1, hlt, rfl, by rw [HPS.out]; exact HS5.out⟩, ?_⟩
            simp only [intOf]
            omega
          · have hne : ((k : Int) != (i : Int)) = true := by simp; omega
            have HS0 := hid (show k ≠ i → (⟨none, 0, 0⟩ : Slc) = ⟨none, 0, 0⟩ from fun _ => rfl)
            have HPF := hid (show imp h = partF0 p i k by unfold partF0; rw [if_neg hki2, HH.out])
            clear hki2
            go_wp2_with (
            first
            | (at_lookup
               refine wpList_look_B (K := intK) rfl _ _ 82 rfl Try.underlying82 rfl HS1.out.used (k : Int) rfl HGK.out ?_
               go_loud (rw [hdec]))
            | (at_mapUpdate
               refine wpList_upd_N (K := intK) rfl _ _ _ 84 rfl Try.underlying84 rfl HS1.out.pl (by simp only [maxLen]; have := HS1.out.cle; omega) (k : Int) rfl (plc p i k : Int) rfl HGK.out HPG.out ?_
               intro wA hmA hgA
               have hzA : wo.heap.size + 1 ≤ wA.heap.size := by have := hgA.size; simpa using this
               have hOA : Only (some bP) wo wA := (Only.below HAL.out (some bP)).trans (Only.grown hgA)
               have hLA : Below w.heap.size wo wA := Below.grown (HAL.out.mono HST.out.q.low.size) hgA (by have := HST.out.q.low.size; simp; omega) (fun q hq => by cases hq; exact HST.out.neP)
               have hBXA := HBX.out.only (Only.grown hgA) (HBX.out.neMapN HS1.out.pl)
               have hrA := HST.out.q.row.only hOA (HST.out.q.row.neMapN HST.out.pl)
               have hxA := HST.out.box.only hOA (HST.out.box.neMapN HST.out.pl)
               have HMA := hid hmA
               have HOA := hid hOA
               have HLA := hid hLA
               have HRA := hid hrA
               have HXA := hid hxA
               have HBXA := hid hBXA
               have HSA := hid (show w.heap.size ≤ wA.heap.size ∧ wo.heap.size + 1 ≤ wA.heap.size from ⟨by have := HST.out.q.low.size; omega, hzA⟩)
               have c0 := hxA.cell 0 _ rfl
               have cz := hxA.lt
               have e0 := hBXA.cell 0 _ rfl
               have e1 := hBXA.cell 1 _ rfl
               have e2 := hBXA.cell 2 _ rfl
               have e3 := hBXA.cell 3 _ rfl
               have g0 := hBXA.frozen 0
               have g1 := hBXA.frozen 1
               have g2 := hBXA.frozen 2
               have g3 := hBXA.frozen 3
               have ez := hBXA.lt
               obtain ⟨m1, m2, m3, m4, m5⟩ := imp_store hzA hBXA hrA (fun q hq => (HST.out.q.row.lt q hq).2) hxA HST.out.box.lt
               have k0 := m1.cell 0 _ rfl
               have k1 := m1.cell 1 _ rfl
               have k2 := m1.cell 2 _ rfl
               have k3 := m1.cell 3 _ rfl
               have j0 := m5.cell 0 _ rfl
               have HBB := hid m2
               have HRB := hid m3
               have HXB := hid m4
               have HSRC := hid (show CodeAt lo w (⟨none, 0, 0⟩ : Slc).val (imp h).code ∨ OwnE insE w.heap.size 43 (((((wA.setCell ⟨wo.heap.size, 0, none⟩ (.string h.name)).setCell ⟨wo.heap.size, 1, none⟩ (.int .i64 h.params)).setCell ⟨wo.heap.size, 2, none⟩ (.int .i64 h.params)).setCell ⟨wo.heap.size, 3, none⟩ (.slice none 0 0)).alloc (.cells #[.string h.name, .int .i64 h.params, .int .i64 h.params, .slice none 0 0] 41)) (⟨none, 0, 0⟩ : Slc).val (imp h).code from .inr (OwnE.nil _ _ _ _))
               clear m1 m2 m3 m4 m5
               clear hmA hgA hOA hLA hBXA hrA hxA hzA)
            | (
               at_builtin
               go_loud (refine wpList_append_G funE (o := ⟨some 91, _, _, _, _, _⟩) rfl (.tmp 88) (.tmp 90) 22 rfl w.heap.size w.heap.size 41 _ 56 Try.underlying22 infoFun12 rfl ((flP p i k).zip ss) (imp h, (⟨none, 0, 0⟩ : Slc)) HRB.out (OwnE.sl (OwnE.lit funE _ w.heap.size 41 [(imp h, (⟨none, 0, 0⟩ : Slc))] _ wA.heap.size 1 (by simp [World.setCell]) (by have := HSA.out.1; omega) rfl rfl (by simp)) (Nat.le_refl _) (by simp)) (by rw [hzf]; omega) (by rw [hzf]; simp only [maxLen]; omega) (by have := HSA.out.1; simp [World.setCell]; omega) ?_)
               intro g5 cap5 w5 ho5 hg5 _ _ _
               rw [hzf] at ho5 ⊢
               have hS5 := HST.out.add (f := imp h) (s := (⟨none, 0, 0⟩ : Slc)) (v2 := .slice (some ⟨g5, 0, none⟩) (plc p i k + 1) cap5) hu HPF.out HS0.out HOA.out HLA.out HMA.out HBB.out hg5 ho5 HSRC.out
               have hbq := HXB.out.only (Only.grown hg5) (HXB.out.neRow HRB.out (by decide))
               have HS5 := hid hS5
               have q0 := hbq.cell 0 _ rfl
               have qf := hbq.frozen 0
               have qz := hbq.lt
               clear hS5 hbq ho5 hg5))
            refine ⟨⟨k + 1, _, _, _, cP + 1, hlt, rfl, by rw [HPS.out]; exact HS5.out⟩, ?_⟩
            simp only [intOf]
            omega
      · have hke : k = p.funcs.length := by omega
        subst hke
        have hats := flP_at p i HI.out
        have hself := plF_self p i HI.out
        have hgi : intK.good (i : Int) := by show I64 (i : Int); unfold I64; omega
        have HGI := hid hgi
        have HSELF := hid hself
        have c5 := HST.out.cell.cell 0 _ rfl
        have c5z := HST.out.cell.lt
        have a3 := HST.out.arg.cell 3 _ rfl
        have az := HST.out.arg.lt
        have c3 := HST.out.box.cell 3 _ rfl
        have c3f := HST.out.box.frozen 3
        have c8z := HST.out.box.lt
        have hat1 := hats.1
        clear hgi hself hats
        by_cases hm : (i : Int) = p.main
        · have hmn : ((i : Int) == p.main) = true := by simp [hm]
          have HMM := hid (show (partP p i).main = plc p i i by unfold partP; simp [hm])
          have HPF := hid (HST.out.done.setMain (plc p i i))
          obtain ⟨X, hX⟩ : ∃ X, wo.setCell ⟨b8, 3, none⟩ (.int .i64 (plc p i i : Nat)) = X := ⟨_, rfl⟩
          have HPF2 := HPF.out
          rw [hX] at HPF2
          clear HPF
          have HPF := hid HPF2
          clear hm HPF2
          go_wp2_with (
            at_lookup
            refine wpList_look_N (K := intK) rfl _ _ 84 rfl Try.underlying84 rfl HST.out.pl (i : Int) rfl HGI.out ?_
            go_loud (rw [HSELF.out, Option.getD_some]))
          clear hX c5 c5z a3 az c3 c3f c8z
          have c0 := HPF.out.box.cell 0 _ rfl
          have c8z := HPF.out.box.lt
          have a0 := HPF.out.arg.cell 0 _ rfl
          have az := HPF.out.arg.lt
          have hbw := HPF.out.q.low
          have y3x := (hbw.cell (p := ⟨fb, fo + i * 4 + 3, none⟩) gl).trans y3
          have gl3 : fb < X.heap.size := Nat.lt_of_lt_of_le gl hbw.size
          obtain ⟨g5, cap5, hge, hg1, hg2⟩ := HPF.out.q.row.open (by rw [HPF.out.q.zlen]; omega)
          obtain ⟨e1, -, e2⟩ := Value.slice.inj hge
          subst e1 e2
          have hFI : i < p.funcs.length := HI.out
          have hplz : (plc p i i : Int) < plc p i p.funcs.length := by have := (flP_at p i hFI).1; rw [flP_len] at this; omega
          have hpl0 : ¬ ((plc p i i : Int) < 0) := by omega
          clear hbw hge
          go_wp2_with fail
          refine Plan.wp_chain planPt31 X.heap.size (by kernel_rfl) rfl (by kernel_rfl) (by kernel_rfl) ?_
          repeat (first | (apply Plan.chain_skip rfl rfl; simp only [Act.put, List.setIfInBounds_toArray, List.set_cons_zero, List.set_cons_succ]) | (apply Plan.chain_det rfl rfl; (· intro w' hb; obtain ⟨hcl, hfz⟩ := bcellB hb; go_simp; rfl); simp only [Act.put, List.setIfInBounds_toArray, List.set_cons_zero, List.set_cons_succ]))
          refine Plan.chain_call 55 #[.slice (some ⟨xb, xo, none⟩) f.code.length xc, .func (.func 57) #[] #[.pointer (some ⟨bC, 0, none⟩)]] (fun v w' => ∃ na nc, v = .slice na f.code.length nc ∧ OwnE insE X.heap.size 43 w' v (f.code.map (reP p i)) ∧ Below X.heap.size X w') rfl rfl rfl (by go_simp) ?_ (fun v w' h => by obtain ⟨_, _, _, _, h4⟩ := h; exact h4) (fun v6 w6 h => ?_)
          · refine (renumber_calls lo (.slice (some ⟨xb, xo, none⟩) f.code.length xc) f.code X.drew 57 #[.pointer (some ⟨bC, 0, none⟩)] (numP p i) (HCI.out.below HPF.out.q.low.drew) (by omega) (fun args w => by go_simp) (fun x hx h6 w' hb' => ?_)).mono ?_
            · have hw : Below X.heap.size X w' := (Below.refl X.heap.size X).drew.trans hb'
              exact part1_calls bC bP cP (plF p i p.funcs.length) x.op x.b w' ((HPF.out.cell.below hw).cell 0 _ rfl) (HPF.out.cell.below hw).lt (HPF.out.pl.below hw) (HFW.out.ins x hx).b
            · rintro e w' ⟨v', rfl, ho, hb⟩
              have hre := reP_eq HV.out HI.out
              rw [HF.out] at hre
              rw [hre] at ho
              obtain ⟨na, nc, hv'⟩ := ho.anySlice
              rw [List.length_map] at hv'
              exact ⟨_, rfl, na, nc, hv', ho, (Below.refl X.heap.size X).drew.trans hb⟩
          obtain ⟨na, nc, rfl, ho6, hb6⟩ := h
          simp only [Act.put, List.setIfInBounds_toArray, List.set_cons_zero, List.set_cons_succ]
          have HO6 := hid ho6
          have HB6 := hid hb6
          have HPF6 := hid (HPF.out.fresh hb6)
          have hwX : w.heap.size ≤ X.heap.size := HPF.out.q.low.size
          have y7 := HPF6.out.q.row.cellAt (plc p i i) 3 (by rw [HPF6.out.q.zlen]; exact hat1) (by decide)
          have y7' : w6.cell? ⟨g5, plc p i i * 4 + 3, none⟩ = some (nth (funE.enc (nth ((flP p i p.funcs.length).zip ss) (plc p i i))) 3) := y7
          have y8 := HPF6.out.q.row.frozenAt (plc p i i * 4 + 3)
          have gl6 : g5 < w6.heap.size := Nat.lt_of_lt_of_le hg2 hb6.size
          clear ho6 hb6 y7
          repeat (first | (apply Plan.chain_skip rfl rfl; simp only [Act.put, List.setIfInBounds_toArray, List.set_cons_zero, List.set_cons_succ]) | (apply Plan.chain_det rfl rfl; (· intro w' hb; obtain ⟨hcl, hfz⟩ := bcellB hb; go_simp; rfl); simp only [Act.put, List.setIfInBounds_toArray, List.set_cons_zero, List.set_cons_succ]))
          refine Plan.chain_fin rfl rfl ?_
          unfold Oper.wp
          go_simp
          have hq7 := HPF6.out.q.setCode (s := ⟨na, f.code.length, nc⟩) (plc p i i) hat1 (HO6.out.mono hwX)
          rw [(flP_at p i HI.out).2, ← HF.out, flP_set p i HI.out] at hq7
          have hS7 : Only (some g5) w6 (w6.setCell ⟨g5, plc p i i * 4 + 3, none⟩ (.slice na f.code.length nc)) := Only.store _ _ _ _
          have hx7 := HPF6.out.box.only hS7 (HPF6.out.box.neRow HPF6.out.q.row (by decide))
          have hr7 := HPF6.out.res.only hS7 (HPF6.out.res.neRow HPF6.out.q.row (by decide))
          have hg7 := HPF6.out.globs.only hS7 (HPF6.out.globs.neRow HPF6.out.q.row (by decide))
          have hl7 : OwnLays w.heap.size _ _ p.layouts rs := HPF6.out.lays.only hS7 (HPF6.out.lays.row.neRow HPF6.out.q.row (by decide)) (fun j hj => (HPF6.out.lays.each j hj).neRow HPF6.out.q.row (by decide))
          obtain ⟨Y, hY⟩ : ∃ Y, w6.setCell ⟨g5, plc p i i * 4 + 3, none⟩ (.slice na f.code.length nc) = Y := ⟨_, rfl⟩
          have hq8 : QFuns lo w Y (.slice (some ⟨g5, 0, none⟩) (plc p i p.funcs.length) vc) (partP p i).funcs (ss.set (plc p i i) ⟨na, f.code.length, nc⟩) := by rw [← hY, HF.out] at *; exact hq7
          rw [hY] at hx7 hr7 hg7 hl7
          try rw [hY]
          have HQ8 := hid hq8
          have HX7 := hid hx7
          have HR7 := hid hr7
          have HG7 := hid hg7
          have HL7 := hid hl7
          have HCO := hid (show OwnE insE w.heap.size 43 Y (.slice na f.code.length nc) (f.code.map (reP p i)) by
            rw [← hY]
            exact (HO6.out.mono hwX).only (Only.store _ _ _ _) ((HO6.out.mono hwX).neRow HPF6.out.q.row (by decide)))
          have HEND := hid (show ∀ r : Act, r.tmps.getD 4 undef = .pointer (some ⟨w.heap.size + 1, 0, none⟩) → r.defers = [] → bodyPost Try.prog Try.f41 (fun e w' => ∃ uf ug ul, e = .returned (.agg #[uf, ug, ul, .int .i64 (partP p i).main]) ∧ PartQ w.heap.size w' uf ug ul (partP p i) ∧ Below w.heap.size w w') .ret r ((((Y.setCell ⟨w.heap.size + 1, 0, none⟩ (.slice (some ⟨g5, 0, none⟩) (plc p i p.funcs.length) vc)).setCell ⟨w.heap.size + 1, 1, none⟩ (.slice oa p.globals.length oc)).setCell ⟨w.heap.size + 1, 2, none⟩ (.slice ua p.layouts.length uc)).setCell ⟨w.heap.size + 1, 3, none⟩ (.int .i64 (plc p i i : Nat))) from fun r h4 hd => by
            have hx1 := (((HR7.out.set 0 (.slice (some ⟨g5, 0, none⟩) (plc p i p.funcs.length) vc)).set 1 (.slice oa p.globals.length oc)).set 2 (.slice ua p.layouts.length uc)).set 3 (.int .i64 (plc p i i : Nat))
            have hO : ∀ (u : Value) (k : Nat) (x : World), Only (some (w.heap.size + 1)) x (x.setCell ⟨w.heap.size + 1, k, none⟩ u) := fun u k x => Only.store x _ k u
            have hB0 : ∀ (u : Value) (k : Nat) (x : World), Below w.heap.size x (x.setCell ⟨w.heap.size + 1, k, none⟩ u) := fun u k x => (Below.refl w.heap.size x).setCell (p := ⟨w.heap.size + 1, k, none⟩) (Nat.le_succ _) u
            have hS : Only (some (w.heap.size + 1)) Y ((((Y.setCell ⟨w.heap.size + 1, 0, none⟩ (.slice (some ⟨g5, 0, none⟩) (plc p i p.funcs.length) vc)).setCell ⟨w.heap.size + 1, 1, none⟩ (.slice oa p.globals.length oc)).setCell ⟨w.heap.size + 1, 2, none⟩ (.slice ua p.layouts.length uc)).setCell ⟨w.heap.size + 1, 3, none⟩ (.int .i64 (plc p i i : Nat))) := (((hO _ _ _).trans (hO _ _ _)).trans (hO _ _ _)).trans (hO _ _ _)
            have hB : Below w.heap.size Y ((((Y.setCell ⟨w.heap.size + 1, 0, none⟩ (.slice (some ⟨g5, 0, none⟩) (plc p i p.funcs.length) vc)).setCell ⟨w.heap.size + 1, 1, none⟩ (.slice oa p.globals.length oc)).setCell ⟨w.heap.size + 1, 2, none⟩ (.slice ua p.layouts.length uc)).setCell ⟨w.heap.size + 1, 3, none⟩ (.int .i64 (plc p i i : Nat))) := (((hB0 _ _ _).trans (hB0 _ _ _)).trans (hB0 _ _ _)).trans (hB0 _ _ _)
            have hqf := HQ8.out.onlyBox hS hB HR7.out (by decide) (by decide)
            have hgf := HG7.out.only hS (HG7.out.neBox HR7.out (by decide))
            have hlf := HL7.out.onlyBox hS HR7.out (by decide) (by decide)
            have hlen : (partP p i).funcs.length = plc p i p.funcs.length := by rw [← flP_set p i HI.out, List.length_set, flP_len]
            have hple := plc_le p i p.funcs.length
            refine bodyPost_ret (v := .agg #[.slice (some ⟨g5, 0, none⟩) (plc p i p.funcs.length) vc, .slice oa p.globals.length oc, .slice ua p.layouts.length uc, .int .i64 (plc p i i : Nat)]) (part_results _ _ (w.heap.size + 1) _ _ _ _ h4 hx1) hd ⟨_, _, _, by rw [HMM.out], ⟨⟨_, hqf.len, hqf.row, fun j hj => ?_⟩, hgf, ⟨_, hlf⟩⟩, hqf.low⟩
            rcases hqf.code j hj with hc | hc
            · by_cases hje : j = plc p i i
              · subst hje
                have h9 := HO6.out.mono hwX
                rw [nth_set_eqQ _ _ _ (by rw [HPF6.out.q.len]; exact hat1)]
                have e5 : nth (partP p i).funcs (plc p i i) = { nth p.funcs i with code := f.code.map (reP p i) } := by rw [← flP_set p i HI.out, nth_set_eqQ _ _ _ hat1, HF.out]
                rw [e5]
                exact (HCO.out.only hS (HCO.out.neBox HR7.out (by decide)))
              · rw [nth_set_neQ _ _ _ _ (fun e => hje e.symm), HPF6.out.nils j (by rw [← hlen]; exact hj) hje] at hc ⊢
                rw [OwnE.nilCode (base := 0) (e := 0) (.inl (SlE.mono hc (Nat.zero_le _)))]
                exact OwnE.nil _ _ _ _
            · exact hc)
          have q0 := HX7.out.cell 0 _ rfl
          have q1 := HX7.out.cell 1 _ rfl
          have q2 := HX7.out.cell 2 _ rfl
          have q3 := HX7.out.cell 3 _ rfl
          have qz := HX7.out.lt
          have r0 := HR7.out.cell 0 _ rfl
          have r1 := HR7.out.cell 1 _ rfl
          have r2 := HR7.out.cell 2 _ rfl
          have r3 := HR7.out.cell 3 _ rfl
          have rz := HR7.out.lt
          have t0 := HR7.out.frozen 0
          have t1 := HR7.out.frozen 1
          have t2 := HR7.out.frozen 2
          have t3 := HR7.out.frozen 3
          clear hY hq7 hS7 hx7 hr7 hg7 hl7 hq8 y7' y8
          go_wp2_with fail
          exact HEND.out _ rfl rfl
        · have hmn : ((i : Int) == p.main) = false := by simp [hm]
          have HMM := hid (show (partP p i).main = -1 by unfold partP; simp [hm])
          have HPF := hid HST.out.done
          clear hm
          go_wp2_with (
            at_lookup
            refine wpList_look_N (K := intK) rfl _ _ 84 rfl Try.underlying84 rfl HST.out.pl (i : Int) rfl HGI.out ?_
            go_loud (rw [HSELF.out, Option.getD_some]))
          clear c5 c5z a3 az c3 c3f c8z
          have c0 := HPF.out.box.cell 0 _ rfl
          have c8z := HPF.out.box.lt
          have a0 := HPF.out.arg.cell 0 _ rfl
          have az := HPF.out.arg.lt
          have hbw := HPF.out.q.low
          have y3x := (hbw.cell (p := ⟨fb, fo + i * 4 + 3, none⟩) gl).trans y3
          have gl3 : fb < wo.heap.size := Nat.lt_of_lt_of_le gl hbw.size
          obtain ⟨g5, cap5, hge, hg1, hg2⟩ := HPF.out.q.row.open (by rw [HPF.out.q.zlen]; omega)
          obtain ⟨e1, -, e2⟩ := Value.slice.inj hge
          subst e1 e2
          have hFI : i < p.funcs.length := HI.out
          have hplz : (plc p i i : Int) < plc p i p.funcs.length := by have := (flP_at p i hFI).1; rw [flP_len] at this; omega
          have hpl0 : ¬ ((plc p i i : Int) < 0) := by omega
          clear hbw hge
          go_wp2_with fail
          refine Plan.wp_chain planPt31 wo.heap.size (by kernel_rfl) rfl (by kernel_rfl) (by kernel_rfl) ?_
          repeat (first | (apply Plan.chain_skip rfl rfl; simp only [Act.put, List.setIfInBounds_toArray, List.set_cons_zero, List.set_cons_succ]) | (apply Plan.chain_det rfl rfl; (· intro w' hb; obtain ⟨hcl, hfz⟩ := bcellB hb; go_simp; rfl); simp only [Act.put, List.setIfInBounds_toArray, List.set_cons_zero, List.set_cons_succ]))
          refine Plan.chain_call 55 #[.slice (some ⟨xb, xo, none⟩) f.code.length xc, .func (.func 57) #[] #[.pointer (some ⟨bC, 0, none⟩)]] (fun v w' => ∃ na nc, v = .slice na f.code.length nc ∧ OwnE insE wo.heap.size 43 w' v (f.code.map (reP p i)) ∧ Below wo.heap.size wo w') rfl rfl rfl (by go_simp) ?_ (fun v w' h => by obtain ⟨_, _, _, _, h4⟩ := h; exact h4) (fun v6 w6 h => ?_)
          · refine (renumber_calls lo (.slice (some ⟨xb, xo, none⟩) f.code.length xc) f.code wo.drew 57 #[.pointer (some ⟨bC, 0, none⟩)] (numP p i) (HCI.out.below HPF.out.q.low.drew) (by omega) (fun args w => by go_simp) (fun x hx h6 w' hb' => ?_)).mono ?_
            · have hw : Below wo.heap.size wo w' := (Below.refl wo.heap.size wo).drew.trans hb'
              exact part1_calls bC bP cP (plF p i p.funcs.length) x.op x.b w' ((HPF.out.cell.below hw).cell 0 _ rfl) (HPF.out.cell.below hw).lt (HPF.out.pl.below hw) (HFW.out.ins x hx).b
            · rintro e w' ⟨v', rfl, ho, hb⟩
              have hre := reP_eq HV.out HI.out
              rw [HF.out] at hre
              rw [hre] at ho
              obtain ⟨na, nc, hv'⟩ := ho.anySlice
              rw [List.length_map] at hv'
              exact ⟨_, rfl, na, nc, hv', ho, (Below.refl wo.heap.size wo).drew.trans hb⟩
          obtain ⟨na, nc, rfl, ho6, hb6⟩ := h
          simp only [Act.put, List.setIfInBounds_toArray, List.set_cons_zero, List.set_cons_succ]
          have HO6 := hid ho6
          have HB6 := hid hb6
          have HPF6 := hid (HPF.out.fresh hb6)
          have hwX : w.heap.size ≤ wo.heap.size := HPF.out.q.low.size
          have y7 := HPF6.out.q.row.cellAt (plc p i i) 3 (by rw [HPF6.out.q.zlen]; exact hat1) (by decide)
          have y7' : w6.cell? ⟨g5, plc p i i * 4 + 3, none⟩ = some (nth (funE.enc (nth ((flP p i p.funcs.length).zip ss) (plc p i i))) 3) := y7
          have y8 := HPF6.out.q.row.frozenAt (plc p i i * 4 + 3)
          have gl6 : g5 < w6.heap.size := Nat.lt_of_lt_of_le hg2 hb6.size
          clear ho6 hb6 y7
          repeat (first | (apply Plan.chain_skip rfl rfl; simp only [Act.put, List.setIfInBounds_toArray, List.set_cons_zero, List.set_cons_succ]) | (apply Plan.chain_det rfl rfl; (· intro w' hb; obtain ⟨hcl, hfz⟩ := bcellB hb; go_simp; rfl); simp only [Act.put, List.setIfInBounds_toArray, List.set_cons_zero, List.set_cons_succ]))
          refine Plan.chain_fin rfl rfl ?_
          unfold Oper.wp
          go_simp
          have hq7 := HPF6.out.q.setCode (s := ⟨na, f.code.length, nc⟩) (plc p i i) hat1 (HO6.out.mono hwX)
          rw [(flP_at p i HI.out).2, ← HF.out, flP_set p i HI.out] at hq7
          have hS7 : Only (some g5) w6 (w6.setCell ⟨g5, plc p i i * 4 + 3, none⟩ (.slice na f.code.length nc)) := Only.store _ _ _ _
          have hx7 := HPF6.out.box.only hS7 (HPF6.out.box.neRow HPF6.out.q.row (by decide))
          have hr7 := HPF6.out.res.only hS7 (HPF6.out.res.neRow HPF6.out.q.row (by decide))
          have hg7 := HPF6.out.globs.only hS7 (HPF6.out.globs.neRow HPF6.out.q.row (by decide))
          have hl7 : OwnLays w.heap.size _ _ p.layouts rs := HPF6.out.lays.only hS7 (HPF6.out.lays.row.neRow HPF6.out.q.row (by decide)) (fun j hj => (HPF6.out.lays.each j hj).neRow HPF6.out.q.row (by decide))
          obtain ⟨Y, hY⟩ : ∃ Y, w6.setCell ⟨g5, plc p i i * 4 + 3, none⟩ (.slice na f.code.length nc) = Y := ⟨_, rfl⟩
          have hq8 : QFuns lo w Y (.slice (some ⟨g5, 0, none⟩) (plc p i p.funcs.length) vc) (partP p i).funcs (ss.set (plc p i i) ⟨na, f.code.length, nc⟩) := by rw [← hY, HF.out] at *; exact hq7
          rw [hY] at hx7 hr7 hg7 hl7
          try rw [hY]
          have HQ8 := hid hq8
          have HX7 := hid hx7
          have HR7 := hid hr7
          have HG7 := hid hg7
          have HL7 := hid hl7
          have HCO := hid (show OwnE insE w.heap.size 43 Y (.slice na f.code.length nc) (f.code.map (reP p i)) by
            rw [← hY]
            exact (HO6.out.mono hwX).only (Only.store _ _ _ _) ((HO6.out.mono hwX).neRow HPF6.out.q.row (by decide)))
          have HEND := hid (show ∀ r : Act, r.tmps.getD 4 undef = .pointer (some ⟨w.heap.size + 1, 0, none⟩) → r.defers = [] → bodyPost Try.prog Try.f41 (fun e w' => ∃ uf ug ul, e = .returned (.agg #[uf, ug, ul, .int .i64 (partP p i).main]) ∧ PartQ w.heap.size w' uf ug ul (partP p i) ∧ Below w.heap.size w w') .ret r ((((Y.setCell ⟨w.heap.size + 1, 0, none⟩ (.slice (some ⟨g5, 0, none⟩) (plc p i p.funcs.length) vc)).setCell ⟨w.heap.size + 1, 1, none⟩ (.slice oa p.globals.length oc)).setCell ⟨w.heap.size + 1, 2, none⟩ (.slice ua p.layouts.length uc)).setCell ⟨w.heap.size + 1, 3, none⟩ (.int .i64 (-1))) from fun r h4 hd => by
            have hx1 := (((HR7.out.set 0 (.slice (some ⟨g5, 0, none⟩) (plc p i p.funcs.length) vc)).set 1 (.slice oa p.globals.length oc)).set 2 (.slice ua p.layouts.length uc)).set 3 (.int .i64 (-1))
            have hO : ∀ (u : Value) (k : Nat) (x : World), Only (some (w.heap.size + 1)) x (x.setCell ⟨w.heap.size + 1, k, none⟩ u) := fun u k x => Only.store x _ k u
            have hB0 : ∀ (u : Value) (k : Nat) (x : World), Below w.heap.size x (x.setCell ⟨w.heap.size + 1, k, none⟩ u) := fun u k x => (Below.refl w.heap.size x).setCell (p := ⟨w.heap.size + 1, k, none⟩) (Nat.le_succ _) u
            have hS : Only (some (w.heap.size + 1)) Y ((((Y.setCell ⟨w.heap.size + 1, 0, none⟩ (.slice (some ⟨g5, 0, none⟩) (plc p i p.funcs.length) vc)).setCell ⟨w.heap.size + 1, 1, none⟩ (.slice oa p.globals.length oc)).setCell ⟨w.heap.size + 1, 2, none⟩ (.slice ua p.layouts.length uc)).setCell ⟨w.heap.size + 1, 3, none⟩ (.int .i64 (-1))) := (((hO _ _ _).trans (hO _ _ _)).trans (hO _ _ _)).trans (hO _ _ _)
            have hB : Below w.heap.size Y ((((Y.setCell ⟨w.heap.size + 1, 0, none⟩ (.slice (some ⟨g5, 0, none⟩) (plc p i p.funcs.length) vc)).setCell ⟨w.heap.size + 1, 1, none⟩ (.slice oa p.globals.length oc)).setCell ⟨w.heap.size + 1, 2, none⟩ (.slice ua p.layouts.length uc)).setCell ⟨w.heap.size + 1, 3, none⟩ (.int .i64 (-1))) := (((hB0 _ _ _).trans (hB0 _ _ _)).trans (hB0 _ _ _)).trans (hB0 _ _ _)
            have hqf := HQ8.out.onlyBox hS hB HR7.out (by decide) (by decide)
            have hgf := HG7.out.only hS (HG7.out.neBox HR7.out (by decide))
            have hlf := HL7.out.onlyBox hS HR7.out (by decide) (by decide)
            have hlen : (partP p i).funcs.length = plc p i p.funcs.length := by rw [← flP_set p i HI.out, List.length_set, flP_len]
            have hple := plc_le p i p.funcs.length
            refine bodyPost_ret (v := .agg #[.slice (some ⟨g5, 0, none⟩) (plc p i p.funcs.length) vc, .slice oa p.globals.length oc, .slice ua p.layouts.length uc, .int .i64 (-1)]) (part_results _ _ (w.heap.size + 1) _ _ _ _ h4 hx1) hd ⟨_, _, _, by rw [HMM.out], ⟨⟨_, hqf.len, hqf.row, fun j hj => ?_⟩, hgf, ⟨_, hlf⟩⟩, hqf.low⟩
            rcases hqf.code j hj with hc | hc
            · by_cases hje : j = plc p i i
              · subst hje
                have h9 := HO6.out.mono hwX
                rw [nth_set_eqQ _ _ _ (by rw [HPF6.out.q.len]; exact hat1)]
                have e5 : nth (partP p i).funcs (plc p i i) = { nth p.funcs i with code := f.code.map (reP p i) } := by rw [← flP_set p i HI.out, nth_set_eqQ _ _ _ hat1, HF.out]
                rw [e5]
                exact (HCO.out.only hS (HCO.out.neBox HR7.out (by decide)))
              · rw [nth_set_neQ _ _ _ _ (fun e => hje e.symm), HPF6.out.nils j (by rw [← hlen]; exact hj) hje] at hc ⊢
                rw [OwnE.nilCode (base := 0) (e := 0) (.inl (SlE.mono hc (Nat.zero_le _)))]
                exact OwnE.nil _ _ _ _
            · exact hc)
          have q0 := HX7.out.cell 0 _ rfl
          have q1 := HX7.out.cell 1 _ rfl
          have q2 := HX7.out.cell 2 _ rfl
          have q3 := HX7.out.cell 3 _ rfl
          have qz := HX7.out.lt
          have r0 := HR7.out.cell 0 _ rfl
          have r1 := HR7.out.cell 1 _ rfl
          have r2 := HR7.out.cell 2 _ rfl
          have r3 := HR7.out.cell 3 _ rfl
          have rz := HR7.out.lt
          have t0 := HR7.out.frozen 0
          have t1 := HR7.out.frozen 1
          have t2 := HR7.out.frozen 2
          have t3 := HR7.out.frozen 3
          clear hY hq7 hS7 hx7 hr7 hg7 hl7 hq8 y7' y8
          go_wp2_with fail
          exact HEND.out _ rfl rfl

end Go.Proofs.Ytealeofgfgbheaa
