/-
  One round of the reference, walked.
-/
import Derived.Test.YteiohnfmlabelaaGreatZCopy
import Derived.Test.YteiohnfmlabelaaGreatZPrClone
import Derived.Test.YteiohnfmlabelaaGreatZPrRound
import Derived.Test.YteiohnfmlabelaaGreatZPrPrune
import Derived.Test.YteiohnfmlabelaaGreatZPrFinR
import Derived.Test.YteiohnfmlabelaaGreatZPrRem
import Derived.Test.YteiohnfmlabelaaGreatZPrWf
namespace Go.Proofs.YteiohnfmlabelaaGreat
set_option linter.unusedVariables false
set_option linter.unusedSimpArgs false
open Go.RowKit

noncomputable def planRR8 : Plan := mkPlan (regionOf Tryz.f24 8) [(10, .new), (13, .fin)] []

theorem OwnFuns.cells {base g n cap : Nat} {w : World} {l : List Fun} {ss : List Slc} (h : OwnFuns base w (.slice (some ⟨g, 0, none⟩) n cap) l ss) (F : Nat) (hF : F < l.length) (c : List Ins) (hc : (nth l F).code = c) (h0 : 0 < c.length) :
    ∃ gF cF, (nth ss F).val = .slice (some ⟨gF, 0, none⟩) c.length cF ∧ base ≤ gF ∧ gF < w.heap.size ∧ gF ≠ g ∧
    w.cell? ⟨g, F * 4, none⟩ = some (.string (nth l F).name) ∧ w.cell? ⟨g, F * 4 + 1, none⟩ = some (.int .i64 (nth l F).params) ∧ w.cell? ⟨g, F * 4 + 2, none⟩ = some (.int .i64 (nth l F).regs) ∧
    w.cell? ⟨g, F * 4 + 3, none⟩ = some (.slice (some ⟨gF, 0, none⟩) c.length cF) ∧ g < w.heap.size ∧ OwnE insE base 39 w (.slice (some ⟨gF, 0, none⟩) c.length cF) c := by
  have hF' : F < (l.zip ss).length := by have := h.len; simp; omega
  have hz : nth (l.zip ss) F = (nth l F, nth ss F) := nth_zip _ _ _ hF (by rw [h.len]; exact hF)
  have hk : ∀ k, k < 4 → w.cell? ⟨g, F * 4 + k, none⟩ = some (nth (funE.enc (nth l F, nth ss F)) k) := fun k hk => by
    have := h.row.cellAt F k hF' hk
    rw [hz] at this
    exact this
  have hcd := h.code F hF
  rw [hc] at hcd
  obtain ⟨gF, cF, hv, l1, l2⟩ := hcd.open h0
  have hne : gF ≠ g := fun e => hcd.neRow h.row (by decide) gF (by rw [hv]; rfl) (by rw [e]; rfl)
  rw [hv] at hcd
  refine ⟨gF, cF, hv, l1, l2, hne, hk 0 (by decide), hk 1 (by decide), hk 2 (by decide), ?_, (h.row.lt g rfl).2, hcd⟩
  have := hk 3 (by decide)
  rw [← hv]
  exact this

theorem OwnE.farLow {α β : Type} {E : Enc α} {E' : Enc β} {base base' g n cap : Nat} {e e' : TypeId} {w : World} {v : Value} {l : List α} {l' : List β} (h : OwnE E base e w v l) (h' : OwnE E' base' e' w (.slice (some ⟨g, 0, none⟩) n cap) l') (hne : e ≠ e') : FarV (fun k => k = g ∨ k < base) v := by
  intro a n' c hv he
  rcases he with he | he
  · exact h.neRow h' hne a.block (by rw [hv]; rfl) (by rw [he]; rfl)
  · have := (h.lt a.block (by rw [hv]; rfl)).1
    omega
theorem OwnFuns.outP {B g cap : Nat} {w : World} {vg vl : Value} {p : Prg} {ss rs : List Slc} (h : OwnFuns B w (.slice (some ⟨g, 0, none⟩) p.funcs.length cap) p.funcs ss) (hg : OwnE globE B 43 w vg p.globals) (hl : OwnLays B w vl p.layouts rs) (hwf : PrgWf p) (hB : B ≤ w.heap.size) :
    OutP (fun k => k = g ∨ k < B) B g cap w vg vl p ss rs := by
  have h1 := hwf.globs
  have h2 := hwf.lays
  exact {
    xg := .inl rfl
    xlt := fun k hk => by
      rcases hk with rfl | hk
      · exact (h.row.lt _ rfl).2
      · omega
    len := h.len
    row := h.row
    code := fun i hi => ⟨(h.code i hi).sl (Nat.zero_le _) (by have := (hwf.func _ (nth_mem p.funcs i hi)).code; omega), (h.code i hi).farLow h.row (by decide)⟩
    globs := ⟨hg.sl (Nat.zero_le _) (by omega), hg.farLow h.row (by decide)⟩
    rlen := hl.len
    lays := ⟨hl.row.sl (Nat.zero_le _) (by have := hl.len; omega), hl.row.farLow h.row (by decide)⟩
    each := fun i hi => ⟨(hl.each i hi).sl (Nat.zero_le _) (by have := (hwf.lay _ (nth_mem p.layouts i hi)).1; omega), (hl.each i hi).farLow h.row (by decide)⟩ }
theorem OutP.mono {X : Nat → Prop} {base base' g cap : Nat} {w : World} {vg vl : Value} {p : Prg} {ss rs : List Slc} (h : OutP X base g cap w vg vl p ss rs) (hb : base' ≤ base) : OutP X base' g cap w vg vl p ss rs :=
  ⟨h.xg, h.xlt, h.len, h.row.mono hb, h.code, h.globs, h.rlen, h.lays, h.each⟩

theorem put_set (p : Prg) (F : Nat) (hF : F < p.funcs.length) (t : List Ins) (K : Nat) (x : Ins) : (put p F t).funcs.set F { nth (put p F t).funcs F with code := (nth (put p F t).funcs F).code.set K x } = (put p F (t.set K x)).funcs := by
  rw [put_at p F t hF]
  unfold put
  simp [List.set_set]

set_option maxRecDepth 100000 in
set_option maxHeartbeats 8000000 in
theorem rround_calls (lo : Nat) (vf vg vl : Value) (p : Prg) (F : Nat) (w : World) (hp : ProgAt lo w vf vg vl p) (hwf : PrgWf p) (hv : validB p = true) (hF : F < p.funcs.length) :
    Calls Tryz.prog 24 #[.agg #[vf, vg, vl, .int .i64 p.main], .int .i64 F] w fun e w' =>
      ∃ g cap ug ul ss rs, e = .returned (.agg #[.slice (some ⟨g, 0, none⟩) p.funcs.length cap, ug, ul, .int .i64 p.main]) ∧ OutP (fun k => k = g ∨ k < w.heap.size) w.heap.size g cap w' ug ul (put p F (newC p F)) ss rs ∧ Below w.heap.size w w' := by
  have HP := hid hp
  have HV := hid hv
  have HWF := hid hwf
  have HK := hid (fok_of_funcB (valid_func hv F hF))
  obtain ⟨c, hc⟩ : ∃ c, (nth p.funcs F).code = c := ⟨_, rfl⟩
  have HC := hid hc
  have HFF := hid hF
  have hn := HK.out.pos
  have hn2 := HK.out.le
  have HTG := hid (fok_tgs HK.out)
  rw [hc] at hn hn2 HTG
  have hFi : ¬ ((F : Int) < 0) := by omega
  have hFl : (F : Int) < p.funcs.length := by omega
  obtain ⟨fa, fc, _, _, _, rfl, -⟩ := hp.funcs.open
  obtain ⟨ga, gc, _, _, rfl, -⟩ := hp.globs.open
  obtain ⟨la, lc, _, _, _, rfl, -⟩ := hp.lays.open
  obtain ⟨base, hbase⟩ : ∃ base, w.heap.size = base := ⟨_, rfl⟩
  have HBS := hid hbase
  clear hp hv hwf hc
  go_enter Tryz.func24, Tryz.ntmps24
  go_wp2_with fail
  generalize hW : World.alloc _ _ = W
  have hbW : Below base w W := by rw [← hW, ← hbase]; exact ((Below.refl _ _).alloc (Nat.le_refl _) _).alloc (by simp) _
  have R1 := hid (show BoxAt W base 26 [.slice fa p.funcs.length fc, .slice ga p.globals.length gc, .slice la p.layouts.length lc, .int .i64 p.main] by
    rw [← hW]
    exact (BoxAt.new w _ _ _ _ hbase.symm rfl).alloc _)
  have R2 := hid (show BoxAt W (base + 1) 26 [.slice none 0 0, .slice none 0 0, .slice none 0 0, .int .i64 0] by
    rw [← hW]
    exact BoxAt.new _ _ _ _ _ (by simp [hbase]) rfl)
  have HBW := hid hbW
  clear hW hbW
  have c0 := R1.out.cell 0 _ rfl
  have c1 := R1.out.cell 1 _ rfl
  have c2 := R1.out.cell 2 _ rfl
  have c3 := R1.out.cell 3 _ rfl
  have s1 := R1.out.lt
  go_wp2_with fail
  refine (copy_calls lo _ _ _ p W (HP.out.below (by rw [HBS.out]; exact HBW.out)) HWF.out).mono ?_
  rintro e w1 ⟨uf, ug, ul, rfl, hop, hb1⟩
  obtain ⟨⟨ss, hof⟩, hog, ⟨rs, hol⟩⟩ := hop
  obtain ⟨g, cap, hv1, lg, ug1⟩ := hof.row.open (by have h1 := hof.len; simp; omega)
  rw [show (p.funcs.zip ss).length = p.funcs.length by have h1 := hof.len; simp; omega] at hv1
  subst hv1
  obtain ⟨ga2, gc2, rfl⟩ := hog.anySlice
  obtain ⟨la2, lc2, rfl⟩ := hol.row.anySlice
  rw [hol.len] at hol ⊢
  have HOF := hid hof
  have HOG := hid hog
  have HOL := hid hol
  have HB1 := hid hb1
  have HR1 := hid (R1.out.below hb1)
  have HR2 := hid (R2.out.below hb1)
  have hWs : base + 2 ≤ W.heap.size := R2.out.lt
  have hWs1 := hb1.size
  clear hof hog hol hb1 c0 c1 c2 c3 s1
  have e0 := HR1.out.cell 0 _ rfl
  have e1 := HR1.out.cell 1 _ rfl
  have e2 := HR1.out.cell 2 _ rfl
  have e3 := HR1.out.cell 3 _ rfl
  have z0 := HR1.out.frozen 0
  have z1 := HR1.out.frozen 1
  have z2 := HR1.out.frozen 2
  have z3 := HR1.out.frozen 3
  have t0 := HR1.out.lt
  obtain ⟨gF, cF, hssF, l1, l2, hgF, q0, q1, q2, q3, q4, hcF⟩ := HOF.out.cells F HFF.out c HC.out hn
  have HSS := hid hssF
  have HCF := hid hcF
  have n1 : ¬ (g = base) := by omega
  clear hssF hcF lg ug1
  go_wp2_with (
    at_builtin
    generalize hX : World.alloc _ _ = X
    have hXb : BoxAt X base 26 [.slice (some ⟨g, 0, none⟩) p.funcs.length cap, .slice ga2 p.globals.length gc2, .slice la2 p.layouts.length lc2, .int .i64 p.main] := by
      rw [← hX]; exact ((((((HR1.out.set 0 _).set 1 _).set 2 _).set 3 _).alloc _).alloc _)
    have hXr : BoxAt X (base + 1) 26 [.slice none 0 0, .slice none 0 0, .slice none 0 0, .int .i64 0] := by
      rw [← hX]; exact ((((((HR2.out.other _ _ (by show base + 1 ≠ base; omega)).other _ _ (by show base + 1 ≠ base; omega)).other _ _ (by show base + 1 ≠ base; omega)).other _ _ (by show base + 1 ≠ base; omega)).alloc _).alloc _)
    have hXf : BoxAt X w1.heap.size 33 [.string (nth p.funcs F).name, .int .i64 (nth p.funcs F).params, .int .i64 (nth p.funcs F).regs, .slice (some ⟨gF, 0, none⟩) c.length cF] := by
      rw [← hX]; exact (BoxAt.new _ _ _ _ _ (by simp) rfl).alloc _
    have hXe : OwnE insE (w1.heap.size + 1) 39 X (.slice (some ⟨w1.heap.size + 1, 0, none⟩) 0 0) [] := by
      rw [← hX]; exact OwnE.lit insE _ _ _ [] _ _ 0 (by simp) (Nat.le_refl _) rfl rfl (by simp)
    have hXo : Only (some base) w1 X := by
      rw [← hX]; exact (((((Only.store w1 base 0 _).trans (Only.store _ base 1 _)).trans (Only.store _ base 2 _)).trans (Only.store _ base 3 _)).trans (Only.alloc _ _ _)).trans (Only.alloc _ _ _)
    have hXw : Below base w1 X := by
      have hA := ((((Below.refl base w1).setCell (p := ⟨base, 0, none⟩) (Nat.le_refl _) (.slice (some ⟨g, 0, none⟩) p.funcs.length cap)).setCell (p := ⟨base, 1, none⟩) (Nat.le_refl _) (.slice ga2 p.globals.length gc2)).setCell (p := ⟨base, 2, none⟩) (Nat.le_refl _) (.slice la2 p.layouts.length lc2)).setCell (p := ⟨base, 3, none⟩) (Nat.le_refl _) (.int .i64 p.main)
      have hz := hA.size
      rw [← hX]; exact (hA.alloc (by omega) _).alloc (by simp only [World.size_alloc, World.size_setCell]; omega) _
    have hXs : X.heap.size = w1.heap.size + 2 := by rw [← hX]; simp
    have HXB := hid hXb
    have HXR := hid hXr
    have HXF := hid hXf
    have HXE := hid hXe
    have HXO := hid hXo
    have HXW := hid ((HBW.out.trans (HB1.out.mono (by omega))).trans hXw)
    have f3 := hXf.cell 3 _ rfl
    have fz := hXf.lt
    have HCX := hid (HCF.out.only hXo (fun q hq e => by have e2 : gF = base := (by cases hq; exact Option.some.inj e); omega))
    clear hX hXb hXr hXf hXe hXo hXw q0 q1 q2 q3 q4 e0 e1 e2 e3 z0 z1 z2 z3 t0
    go_loud (refine wpList_append_E insE (o := ⟨some 23, _, _, _, _, _⟩) rfl (.tmp 20) (.tmp 22) 31 rfl (w1.heap.size + 1) 0 39 _ 40 Tryz.underlying31 clnIns_info rfl [] c HXE.out (HCX.out.sl (Nat.zero_le _) (by omega)) (by simp; omega) (by simp only [maxLen]; simp; omega) (by omega) ?_)
    intro v2 w2 ho2 hg2
    have HO2 := hid ho2
    have HG2 := hid hg2
    clear ho2 hg2)
  obtain ⟨go, co, rfl, lo1, uo1⟩ := HO2.out.open (by simpa using hn)
  have HB2 := hid (Below.grownE (Below.refl (w1.heap.size + 1) X) HXE.out HG2.out (by omega) (Nat.le_refl _))
  have HOLD := hid (show OwnE insE (w1.heap.size + 1) 39 w2 (.slice (some ⟨go, 0, none⟩) c.length co) c from HO2.out)
  have HO12 := hid (show Only (some base) w1 w2 from ⟨Nat.le_trans HXO.out.1 HB2.out.size, fun k hk hne => (HB2.out.block k (by omega)).trans (HXO.out.2 k hk hne)⟩)
  have HOF2 := hid (HOF.out.onlyBox HO12.out HR1.out (by decide) (by decide))
  have HOG2 := hid (HOG.out.only HO12.out (HOG.out.neBox HR1.out (by decide)))
  have HOL2 := hid (HOL.out.onlyBox HO12.out HR1.out (by decide) (by decide))
  have HXB2 := hid (HXB.out.ofBlock (HB2.out.block _ (by omega)))
  have HXR2 := hid (HXR.out.ofBlock (HB2.out.block _ (by have := HR2.out.lt; omega)))
  have HXF2 := hid (HXF.out.ofBlock (HB2.out.block _ (by omega)))
  have HBW2 := hid (HXW.out.trans (HB2.out.mono (by omega)))
  have hws2 : w1.heap.size + 2 ≤ w2.heap.size := by have := HB2.out.size; omega
  simp only [List.nil_append] at *
  clear f3 fz hXs uo1
  go_wp2_with fail
  go_loopw [7] (fun i wr => ∃ (k : Nat) (t : List Ins), k ≤ c.length ∧ i = .int .i64 k ∧ TgK c k t ∧ OwnFuns W.heap.size wr (.slice (some ⟨g, 0, none⟩) p.funcs.length cap) (put p F t).funcs ss ∧ Only (some gF) w2 wr ∧ Below base w2 wr) (fun i _ => c.length - (intOf i).toNat)
  case atStart => exact ⟨0, c, Nat.zero_le _, rfl, TgK.start c, by rw [← HC.out, put_self p F HFF.out]; exact HOF2.out, Only.refl _ _, Below.refl _ _⟩
  case round =>
  obtain ⟨k, t, hk, rfl, htk, hft, hon, hbl⟩ := hrel
  obtain ⟨wo, hwo⟩ : ∃ wo, wo = wr := ⟨_, rfl⟩
  subst hwo
  have HTK := hid htk
  have HFT := hid hft
  have HON := hid hon
  have HBL := hid hbl
  have hfF : ¬ (w1.heap.size = gF) := by omega
  have HXF3 := hid (HXF2.out.only hon (fun e => hfF (Option.some.inj e)))
  have f3 := HXF3.out.cell 3 _ rfl
  have fz := HXF3.out.lt
  clear htk hft hon hbl
  by_cases hlt : k < c.length
  · have hlt2 : (k : Int) < c.length := Int.ofNat_lt.2 hlt
    have hki : ¬ ((k : Int) < 0) := by omega
    have hput : (nth (put p F t).funcs F).code = t := by rw [put_at p F t HFF.out]
    have HPUT := hid hput
    have hrow := HFT.out.code F (by rw [put_len]; exact HFF.out)
    rw [hput, HSS.out] at hrow
    obtain ⟨y0, y1, y2, y3, y4, yf, yg⟩ := ins_cells hrow k (by rw [HTK.out.1]; exact hlt)
    have hok : nth t k = nth c k := by rw [HTK.out.2 k hlt, if_neg (by omega)]
    rw [hok] at y0 y1 y2 y3 y4
    have HOK := hid hok
    have HROW := hid hrow
    have hold := HOLD.out.only HON.out (fun q hq e => by have e2 : go = gF := (by cases hq; exact Option.some.inj e); omega)
    have HOLD3 := hid hold
    obtain ⟨x0, x1, x2, x3, x4, xf, xg⟩ := ins_cells hold k hlt
    have z3 := yf (k * 5 + 3)
    clear hput hrow hok hold xf yf
    cases hj : jmpB (nth c k).op with
    | false =>
      have HJ := hid hj
      clear hj
      go_wp2_with (
        go_at_call 46
        refine (rjumps_calls _ _).mono ?_
        rw [HJ.out]
        rintro e wj ⟨rfl, rfl⟩)
      go_roundw
      case rel => exact ⟨k + 1, t, by omega, by go_num, HTK.out.skip (of_decide_eq_false HJ.out), HFT.out, HON.out, HBL.out⟩
      case measure => simp [intOf] <;> omega
    | true =>
      have HJ := hid hj
      clear hj
      go_wp2_with (
        go_at_call 46
        refine (rjumps_calls _ _).mono ?_
        rw [HJ.out]
        rintro e wj ⟨rfl, rfl⟩)
      refine Plan.wp_chain planRR8 wj.heap.size (by kernel_rfl) rfl (by kernel_rfl) (by kernel_rfl) ?_
      repeat (first | (apply Plan.chain_skip rfl rfl; simp only [Act.put, List.setIfInBounds_toArray, List.set_cons_zero, List.set_cons_succ]) | (apply Plan.chain_det rfl rfl; (· intro w' hb; obtain ⟨hcl, hfz⟩ := bcellB hb; go_simp; rfl); simp only [Act.put, List.setIfInBounds_toArray, List.set_cons_zero, List.set_cons_succ]))
      refine Plan.chain_call 47 #[.agg #[.string ⟨#[]⟩, .int .i64 0, .int .i64 0, .slice (some ⟨go, 0, none⟩) c.length co], .int .i64 (nth c k).c] (fun v w' => v = .int .i64 (finL c (nth c k).c) ∧ Below wj.heap.size wj w') rfl rfl rfl (by go_simp) ?_ (fun v w' h => h.2) (fun va w4 h => ?_)
      · refine (rfinal_calls 0 _ _ _ _ c _ _ (HOLD3.out.drew.sl (Nat.zero_le _) (by omega)) HTG.out (HTG.out k hlt (of_decide_eq_true HJ.out)) hn2).mono ?_
        rintro e w' ⟨rfl, hb⟩
        exact ⟨_, rfl, rfl, (Below.refl _ _).drew.trans hb⟩
      obtain ⟨rfl, hb4⟩ := h
      simp only [Act.put, List.setIfInBounds_toArray, List.set_cons_zero, List.set_cons_succ]
      have HB4 := hid hb4
      have hf4 := HFT.out.fresh (Only.below hb4 none)
      have HF4 := hid hf4
      obtain ⟨y0, y1, y2, y3, y4, yf, yg⟩ := ins_cells (HROW.out.fresh (Only.below hb4 none)) k (by rw [HTK.out.1]; exact hlt)
      have z3 := yf (k * 5 + 3)
      clear hb4 hf4 yf
      repeat (first | (apply Plan.chain_skip rfl rfl; simp only [Act.put, List.setIfInBounds_toArray, List.set_cons_zero, List.set_cons_succ]) | (apply Plan.chain_det rfl rfl; (· intro w' hb; obtain ⟨hcl, hfz⟩ := bcellB hb; go_simp; rfl); simp only [Act.put, List.setIfInBounds_toArray, List.set_cons_zero, List.set_cons_succ]))
      refine Plan.chain_fin rfl rfl ?_
      unfold Oper.wp
      go_simp
      go_wp2_with fail
      go_roundw
      case rel =>
        refine ⟨k + 1, t.set k { nth t k with c := finL c (nth c k).c }, by omega, by go_num, HTK.out.step hlt (of_decide_eq_true HJ.out), ?_, (HON.out.trans (Only.below HB4.out _)).trans (Only.store _ _ _ _), (HBL.out.trans (HB4.out.mono (by have := HBL.out.size; omega))).setCell (by show base ≤ gF; omega) _⟩
        rw [← put_set p F HFF.out]
        refine HF4.out.put F gF c.length cF k 3 _ _ (by rw [put_len]; exact HFF.out) HSS.out (by rw [HPUT.out, HTK.out.1]; exact hlt) (by decide) ?_
        rw [HPUT.out]; rfl
      case measure => simp [intOf] <;> omega
  · have hke : k = c.length := by omega
    have HKE := hid hke
    subst hke
    have htt := HTK.out.done
    subst htt
    have hput : put p F (targL c) = targP p F := by unfold targP; rw [HC.out]
    rw [hput] at HFT
    have HF' := hid (show F < (targP p F).funcs.length by unfold targP; rw [put_len]; exact HFF.out)
    have HTL := hid (show (targP p F).funcs.length = p.funcs.length by unfold targP; rw [put_len])
    have HVT := hid (targ_valid HV.out F HFF.out)
    have HWT := hid (targ_wf HWF.out HV.out F HFF.out)
    have hcT : (nth (targP p F).funcs F).code = targL c := by rw [targ_code p F HFF.out, HC.out]
    have HCT := hid hcT
    have HOG3 := hid (HOG2.out.only HON.out (fun q hq e => HOG2.out.neRow (HOF2.out.code F HFF.out) (by decide) q hq (by rw [e, HSS.out]; rfl)))
    have HOL3 := hid (HOL2.out.only HON.out (fun q hq e => HOL2.out.row.neRow (HOF2.out.code F HFF.out) (by decide) q hq (by rw [e, HSS.out]; rfl)) (fun i hi q hq e => (HOL2.out.each i hi).neRow (HOF2.out.code F HFF.out) (by decide) q hq (by rw [e, HSS.out]; rfl)))
    have hbF : ¬ (base = gF) := by omega
    have HXB3 := hid (HXB2.out.only HON.out (fun e => hbF (Option.some.inj e)))
    have HXR3 := hid (HXR2.out.only HON.out (fun e => by have := Option.some.inj e; omega))
    have hat := OwnPrg.at (lo := 0) (p := targP p F) ⟨⟨ss, HFT.out⟩, HOG3.out, ⟨rs, HOL3.out⟩⟩ (Nat.zero_le _) HWT.out
    have HAT := hid hat
    have e0 := HXB3.out.cell 0 _ rfl
    have e1 := HXB3.out.cell 1 _ rfl
    have e2 := HXB3.out.cell 2 _ rfl
    have e3 := HXB3.out.cell 3 _ rfl
    have ez := HXB3.out.lt
    have hmi : ∀ u : World, (Instr.makeSlice 36 (.int .i64 ((c.length : Int) + 1)) (.int .i64 ((c.length : Int) + 1))).run Tryz.prog u = .ok (.slice (some ⟨u.heap.size, 0, none⟩) (c.length + 1) (c.length + 1)) (u.alloc (.cells (madeCells #[.int .i64 0] (c.length + 1)) 3)) := fun u => run_make_row' (P := Tryz.prog) 36 3 (.int .i64 0) 8 Tryz.underlying36 infoI1 rfl .i64 .i64 (c.length + 1) (by omega) (by omega) u
    clear hput hcT hat
    go_wp2_with fail
    refine (rem_calls 0 _ _ _ (targP p F) F (targL c) wo HAT.out HVT.out HF'.out HCT.out).mono ?_
    rintro e w6 ⟨gR, gl, rfl, lgR, hgl, hgn, hrb, hb6⟩
    rw [targL_len] at hgl hgn ⊢
    have HGL := hid hgl
    have HGN := hid hgn
    have HRB := hid hrb
    have HB6 := hid hb6
    have HXF6 := hid (HXF3.out.below hb6)
    have f3 := HXF6.out.cell 3 _ rfl
    have fz := HXF6.out.lt
    have hgRu := hrb.lt
    clear hgl hgn hrb hb6 e0 e1 e2 e3 ez
    go_wp2_with fail
    obtain ⟨G, hGe⟩ : ∃ G, goneP p F = G := ⟨_, rfl⟩
    have HGE := hid hGe
    have HGD := hid (show ∀ i, i < c.length → nth gl i = G i from fun i hi => by
      rw [← hGe]
      unfold goneP
      rw [HC.out]
      exact HGN.out i hi)
    clear hGe
    obtain ⟨g14, hg14⟩ : ∃ g14, g14 = w6.heap.size := ⟨_, rfl⟩
    rw [← hg14]
    obtain ⟨WC, hWC⟩ : ∃ WC, w6.alloc (.cells (madeCells #[.int .i64 0] (c.length + 1)) 3) = WC := ⟨_, rfl⟩
    rw [hWC]
    obtain ⟨B, hB⟩ : ∃ B, B = WC.heap.size := ⟨_, rfl⟩
    have hBg : B = g14 + 1 := by rw [hB, ← hWC, hg14]; simp
    have HBC := hid (show Below w6.heap.size w6 WC from by rw [← hWC]; exact (Below.refl _ _).alloc (Nat.le_refl _) _)
    have HRIC := hid (show RowI WC g14 (List.replicate (c.length + 1) 0) from by rw [← hWC, hg14]; exact RowI.made w6 (c.length + 1))
    have h6g : w6.heap.size ≤ g14 := Nat.le_of_eq hg14.symm
    have hrow6 := HFT.out.code F HF'.out
    rw [HCT.out, HSS.out] at hrow6
    have HROW6 := hid (hrow6.fresh (Only.below HB6.out none))
    clear hg14 hWC hrow6 f3 fz
    go_loopw [11, 10] (fun i o wr => ∃ (k : Nat) (a15 : Option Addr) (c15 : Nat) (nl : List Int), k ≤ c.length ∧ i = .int .i64 k ∧ o = .slice a15 (keepN G k) c15 ∧ OwnE insE B 39 wr (.slice a15 (keepN G k) c15) (filt id G ((targL c).take k) 0) ∧ nl.length = c.length + 1 ∧ (∀ j, j < k → nth nl j = (keepN G j : Nat)) ∧ RowI wr g14 nl ∧ Below w6.heap.size w6 wr ∧ B ≤ wr.heap.size) (fun i _ _ => c.length - (intOf i).toNat)
    case atStart => exact ⟨0, none, 0, _, Nat.zero_le _, rfl, rfl, OwnE.nil _ _ _ _, by simp, fun j hj => by omega, HRIC.out, HBC.out, by omega⟩
    case round =>
    obtain ⟨k, a15, c15, nl, hk, rfl, rfl, hout, hnl3, hnn3, hri3, hbl3, hBw3⟩ := hrel
    obtain ⟨wo3, hwo3⟩ : ∃ wo3, wo3 = wr := ⟨_, rfl⟩
    subst hwo3
    have HOUT3 := hid hout
    have HNL3 := hid hnl3
    have HNN3 := hid hnn3
    have HRI3 := hid hri3
    have HBL3 := hid hbl3
    have hkn := keepN_le G k
    have HLN := hid (show (filt id G ((targL c).take k) 0).length = keepN G k by rw [filt_len0, List.length_take, targL_len, Nat.min_eq_left hk])
    have HXF7 := hid (HXF6.out.below hbl3)
    have f3 := HXF7.out.cell 3 _ rfl
    have fz := HXF7.out.lt
    clear hout hnl3 hnn3 hri3 hbl3
    by_cases hlt : k < c.length
    · have hlt2 : (k : Int) < c.length := Int.ofNat_lt.2 hlt
      have hlt3 : (k : Int) < (c.length : Int) + 1 := by omega
      have hki : ¬ ((k : Int) < 0) := by omega
      obtain ⟨x0, x1, x2, x3, x4, xf, xg⟩ := ins_cells (HROW6.out.fresh (Only.below HBL3.out none)) k (by rw [targL_len]; exact hlt)
      have hrr := HRB.out.below HBL3.out
      have ck := hrr.cell (i := k) (by rw [HGL.out]; exact hlt)
      rw [HGD.out k hlt] at ck
      have sk := hrr.lt
      have ci := HRI3.out.cell (i := k) (by rw [HNL3.out]; omega)
      have zi := HRI3.out.frozen k
      have si := HRI3.out.lt
      have n1 : ¬ (gR = g14) := by omega
      have n2 : ¬ (g14 = gR) := by omega
      have n3 : ¬ (gF = g14) := by have := HB6.out.size; have := HON.out.1; omega
      have n4 : ¬ (g14 = gF) := fun e => n3 e.symm
      have n5 : ¬ (w1.heap.size = g14) := by have := HB6.out.size; have := HON.out.1; omega
      have n6 : ¬ (g14 = w1.heap.size) := fun e => n5 e.symm
      have hoN : ∀ q, (Value.slice a15 (keepN G k) c15).ownBlock = some q → q ≠ (⟨g14, k, none⟩ : Addr).block := fun q hq => by have := (HOUT3.out.lt q hq).1; show q ≠ g14; omega
      clear hrr xf
      cases hG : G k with
      | true =>
        rw [hG] at ck
        have HGK := hid hG
        have HK1 := hid (show keepN G (k + 1) = keepN G k + 0 by simp [keepN, hG])
        clear hG
        go_wp2_with fail
        go_roundw
        case rel =>
          refine ⟨k + 1, a15, c15, nl.set k (keepN G k : Nat), by omega, by go_num, by rw [HK1.out]; rfl, ?_, by simp [HNL3.out], fun j hj => ?_, HRI3.out.set k _, HBL3.out.setCell (by show w6.heap.size ≤ g14; omega) _, by simp; exact hBw3⟩
          · rw [filt_take id G (targL c) k (by rw [targL_len]; exact hlt), HGK.out]
            rw [HK1.out, if_pos rfl, List.append_nil]
            exact HOUT3.out.other _ _ hoN
          · rw [nth_set _ _ _ _ (by rw [HNL3.out]; omega)]
            by_cases e : j = k
            · subst e; rw [if_pos rfl]
            · rw [if_neg e]; exact HNN3.out j (by omega)
        case measure => simp [intOf] <;> omega
      | false =>
        rw [hG] at ck
        have HGK := hid hG
        have HK1 := hid (show keepN G (k + 1) = keepN G k + 1 by simp [keepN, hG])
        clear hG
        go_wp2_with (
          at_builtin
          go_loud (refine wpList_append_one insE (o := ⟨some 83, _, _, _, _, _⟩) rfl (.tmp 76) (.tmp 82) 31 rfl B 0 39 _ 40 Tryz.underlying31 clnIns_info rfl (filt id G ((targL c).take k) 0) (nth (targL c) k) ((HOUT3.out.other _ _ hoN).alloc _) ((OwnE.lit insE _ 0 39 [nth (targL c) k] #[.int .i64 (nth (targL c) k).op, .int .i64 (nth (targL c) k).a, .int .i64 (nth (targL c) k).b, .int .i64 (nth (targL c) k).c, .int .i64 (nth (targL c) k).pos] wo3.heap.size 1 (by simp) (Nat.zero_le _) rfl rfl (by simp)).sl (Nat.zero_le _) (by simp)) (by rw [HLN.out]; omega) (by rw [HLN.out]; simp only [maxLen]; omega) (by simp; omega) ?_)
          intro g15 c16 w15 ho15 _ _ hb15
          have HO15 := hid ho15
          have HB15 := hid hb15
          clear ho15 hb15)
        go_roundw
        case rel =>
          refine ⟨k + 1, some ⟨g15, 0, none⟩, c16, nl.set k (keepN G k : Nat), by omega, by go_num, by rw [HK1.out, HLN.out], ?_, by simp [HNL3.out], fun j hj => ?_, ?_, ?_, ?_⟩
          · rw [filt_take id G (targL c) k (by rw [targL_len]; exact hlt), HGK.out]
            have := HO15.out
            rw [HLN.out] at this
            rw [HK1.out]
            exact this
          · rw [nth_set _ _ _ _ (by rw [HNL3.out]; omega)]
            by_cases e : j = k
            · subst e; rw [if_pos rfl]
            · rw [if_neg e]; exact HNN3.out j (by omega)
          · exact World.rowIs.of_block ((HRI3.out.set k _).alloc _) (HB15.out.block _ (by omega))
          · exact ((HBL3.out.setCell (by show w6.heap.size ≤ g14; omega) _).alloc (by simp; exact HBL3.out.size) _).trans (HB15.out.mono (by omega))
          · have := HB15.out.size; simp at this; omega
        case measure => simp [intOf] <;> omega
    · have hkc : k = c.length := by omega
      subst hkc
      have hlt3 : ¬ ((c.length : Int) < c.length) := by omega
      have HTAKE := hid (show (targL c).take c.length = targL c by rw [← targL_len c]; exact List.take_length)
      have HL0 := hid (show (filt id G (targL c) 0).length = keepN G c.length by rw [filt_len0, targL_len])
      have HNM := hid (show newC p F = (filt id G (targL c) 0).map (reN G) by unfold newC outC; rw [filt_map, HC.out, HGE.out])
      obtain ⟨m, hm⟩ : ∃ m, m = keepN G c.length := ⟨_, rfl⟩
      rw [HTAKE.out, ← hm] at HOUT3
      rw [← hm] at HL0 hkn
      simp only [← hm]
      clear hm
      obtain ⟨o0, ho0⟩ : ∃ o0, filt id G (targL c) 0 = o0 := ⟨_, rfl⟩
      rw [ho0] at HOUT3 HL0 HNM
      have HOF0 := hid (show ∀ j, j < o0.length → jumps (nth o0 j).op → ∃ q : Nat, (nth o0 j).c = q ∧ q < c.length from fun j hj hjm => by
        rw [← ho0] at hj hjm ⊢
        obtain ⟨q, h1, h2, h3⟩ := filt_from id G (targL c) j hj
        have h4 := (filt_at id G (targL c) q h1 h2).2
        rw [h3] at h4
        replace h4 : nth (filt id G (targL c) 0) j = nth (targL c) q := h4
        rw [h4] at hjm ⊢
        obtain ⟨t1, t2, _⟩ := targL_tgs HTG.out q h1 hjm
        rw [targL_len] at t2
        exact ⟨(nth (targL c) q).c.toNat, (Int.toNat_of_nonneg t1).symm, by omega⟩)
      clear ho0
      go_wp2_with fail
      go_loopw [12] (fun i wr => ∃ (k : Nat) (ol : List Ins), k ≤ m ∧ i = .int .i64 k ∧ ol.length = m ∧ (∀ j, j < m → nth ol j = if j < k then reN G (nth o0 j) else nth o0 j) ∧ OwnE insE B 39 wr (.slice a15 m c15) ol ∧ Below B wo3 wr) (fun i _ => m - (intOf i).toNat)
      case atStart => exact ⟨0, o0, Nat.zero_le _, rfl, HL0.out, fun j _ => by rw [if_neg (by omega)], HOUT3.out, Below.refl _ _⟩
      case round =>
      obtain ⟨k, ol, hk4, rfl, hol, holn, how, hbl4⟩ := hrel
      obtain ⟨wo4, hwo4⟩ : ∃ wo4, wo4 = wr := ⟨_, rfl⟩
      subst hwo4
      have HOLL := hid hol
      have HOLN := hid holn
      have HOW := hid how
      have HB4 := hid hbl4
      clear hol holn how hbl4
      by_cases hlt4 : k < m
      · have hlt5 : (k : Int) < m := Int.ofNat_lt.2 hlt4
        have hki : ¬ ((k : Int) < 0) := by omega
        obtain ⟨g15, c16, he15, l15, u15⟩ := HOW.out.open (by rw [HOLL.out]; omega)
        obtain ⟨rfl, hml, rfl⟩ := Value.slice.inj he15
        clear hml
        obtain ⟨y0, y1, y2, y3, y4, yf, yg⟩ := ins_cells HOW.out k (by rw [HOLL.out]; exact hlt4)
        have hok : nth ol k = nth o0 k := by rw [HOLN.out k hlt4, if_neg (by omega)]
        rw [hok] at y0 y1 y2 y3 y4
        have HOK := hid hok
        clear hok he15
        cases hj : jmpB (nth o0 k).op with
        | false =>
          have HJ := hid hj
          clear hj
          go_wp2_with (
            go_at_call 46
            refine (rjumps_calls _ _).mono ?_
            rw [HJ.out]
            rintro e wj ⟨rfl, rfl⟩)
          go_roundw
          case rel =>
            refine ⟨k + 1, ol, by omega, by go_num, HOLL.out, fun j hj => ?_, HOW.out, HB4.out⟩
            rw [HOLN.out j hj]
            by_cases e : j = k
            · subst e
              rw [if_neg (by omega), if_pos (by omega)]
              unfold reN
              rw [if_neg (of_decide_eq_false HJ.out)]
            · by_cases e2 : j < k
              · rw [if_pos e2, if_pos (by omega)]
              · rw [if_neg e2, if_neg (by omega)]
          case measure => simp [intOf] <;> omega
        | true =>
          have HJ := hid hj
          clear hj
          obtain ⟨q, hq, hqn⟩ := HOF0.out k (by rw [HL0.out]; exact hlt4) (of_decide_eq_true HJ.out)
          rw [hq] at y3
          have HQQ := hid hq
          have hqi : (q : Int) < (c.length : Int) + 1 := by omega
          have hq0 : ¬ ((q : Int) < 0) := by omega
          have hri : RowI wo4 g14 nl := World.rowIs.of_block HRI3.out (HB4.out.block _ (by omega))
          have cq := hri.cell (i := q) (by rw [HNL3.out]; omega)
          rw [HNN3.out q hqn] at cq
          have sq := hri.lt
          have z3 := yf (k * 5 + 3)
          clear hri hq yf
          go_wp2_with (
            go_at_call 46
            refine (rjumps_calls _ _).mono ?_
            rw [HJ.out]
            rintro e wj ⟨rfl, rfl⟩)
          go_roundw
          case rel =>
            refine ⟨k + 1, ol.set k { nth ol k with c := (keepN G q : Nat) }, by omega, by go_num, by simp [HOLL.out], fun j hj => ?_, HOW.out.put k 3 _ _ (by rw [HOLL.out]; exact hlt4) (by decide) rfl, HB4.out.setCell (by show B ≤ g15; omega) _⟩
            by_cases e : k = j
            · subst e
              rw [nth_set_eq _ _ _ (by rw [HOLL.out]; exact hlt4), if_pos (by omega), HOK.out]
              unfold reN
              rw [if_pos (of_decide_eq_true HJ.out), HQQ.out, Int.toNat_natCast]
            · rw [nth_set_ne _ _ _ _ e, HOLN.out j hj]
              by_cases e2 : j < k
              · rw [if_pos e2, if_pos (by omega)]
              · rw [if_neg e2, if_neg (by omega)]
          case measure => simp [intOf] <;> omega
      · have hkm : k = m := by omega
        have HOE := hid (show ol = newC p F by
          rw [HNM.out]
          refine List.ext_getElem (by rw [List.length_map, HL0.out, HOLL.out]) fun i h1 h2 => ?_
          rw [← nth_eq _ _ h1, HOLN.out i (by rw [← HOLL.out]; exact h1), if_pos (by rw [hkm, ← HOLL.out]; exact h1), List.getElem_map, ← nth_eq])
        clear hkm
        have HW4 := hid (show Below wo.heap.size wo wo4 from HB6.out.trans ((HBL3.out.trans (HB4.out.mono (by omega))).mono HB6.out.size))
        have HF4 := hid (HFT.out.fresh (Only.below HW4.out none))
        have HOG4 := hid (HOG3.out.fresh (Only.below HW4.out none))
        have HOL4 := hid (HOL3.out.fresh (Only.below HW4.out none))
        have HXB4 := hid (HXB3.out.below HW4.out)
        have HXR4 := hid (HXR3.out.below HW4.out)
        have hf4 := HF4.out
        have HP4 := hid (show OutP (fun k => k = g ∨ k < W.heap.size) W.heap.size g cap wo4 (.slice ga2 p.globals.length gc2) (.slice la2 p.layouts.length lc2) (targP p F) ss rs from (by rw [HTL.out]; exact hf4 : OwnFuns W.heap.size wo4 (.slice (some ⟨g, 0, none⟩) (targP p F).funcs.length cap) (targP p F).funcs ss).outP HOG4.out HOL4.out HWT.out (by have h1 := HON.out.1; have h2 := HW4.out.size; omega))
        obtain ⟨q0, q1, q2, q3, qf, qg, qc⟩ := HP4.out.cells F HF'.out
        have z3 := qf (F * 4 + 3)
        have hgu := HOF2.out.row.lt g rfl
        have hwo4 : w2.heap.size ≤ wo.heap.size := HON.out.1
        have hw6 := HB6.out.size
        have HCAn := hid (show CodeAt 0 wo4 (.slice a15 m c15) (newC p F) by rw [← HOE.out]; exact HOW.out.sl (Nat.zero_le _) (by rw [HOLL.out]; omega))
        have HFar := hid (HOW.out.far (X := fun k => k = g ∨ k < W.heap.size) (fun k hk => by rcases hk with rfl | hk <;> omega))
        have HFin := hid (show OutP (fun k => k = g ∨ k < W.heap.size) W.heap.size g cap (wo4.setCell ⟨g, F * 4 + 3, none⟩ (.slice a15 m c15)) (.slice ga2 p.globals.length gc2) (.slice la2 p.layouts.length lc2) (put (targP p F) F (newC p F)) (ss.set F ⟨a15, m, c15⟩) rs from HP4.out.put F HF'.out ⟨a15, m, c15⟩ (newC p F) HCAn.out HFar.out)
        rw [show put (targP p F) F (newC p F) = put p F (newC p F) by unfold targP; rw [put_put p F _ _ HFF.out]] at HFin
        have hbg : base ≠ g := by omega
        have hbg1 : base + 1 ≠ g := by omega
        have HXBe := hid (HXB4.out.other ⟨g, F * 4 + 3, none⟩ (.slice a15 m c15) hbg)
        have HXRe := hid (HXR4.out.other ⟨g, F * 4 + 3, none⟩ (.slice a15 m c15) hbg1)
        have HBe := hid (show Below base w (wo4.setCell ⟨g, F * 4 + 3, none⟩ (.slice a15 m c15)) from (((HBW2.out.trans HBL.out).trans (HW4.out.mono (by omega))).setCell (by show base ≤ g; omega) _))
        have e0 := HXB4.out.cell 0 _ rfl
        have e1 := HXB4.out.cell 1 _ rfl
        have e2 := HXB4.out.cell 2 _ rfl
        have e3 := HXB4.out.cell 3 _ rfl
        have ez := HXB4.out.lt
        have r0 := HXR4.out.cell 0 _ rfl
        have r1 := HXR4.out.cell 1 _ rfl
        have r2 := HXR4.out.cell 2 _ rfl
        have r3 := HXR4.out.cell 3 _ rfl
        have n10 : ¬ (base + 1 = g) := hbg1
        have v0 := HXR4.out.frozen 0
        have v1 := HXR4.out.frozen 1
        have v2 := HXR4.out.frozen 2
        have v3 := HXR4.out.frozen 3
        have y7 := HXR4.out.lt
        have hE := ((((HXRe.out.set 0 (.slice (some ⟨g, 0, none⟩) p.funcs.length cap)).set 1 (.slice ga2 p.globals.length gc2)).set 2 (.slice la2 p.layouts.length lc2)).set 3 (.int .i64 p.main))
        have g0 := hE.cell 0 _ rfl
        have g1 := hE.cell 1 _ rfl
        have g2 := hE.cell 2 _ rfl
        have g3 := hE.cell 3 _ rfl
        have HGG := hid (And.intro g0 (And.intro g1 (And.intro g2 g3)))
        have hne : base + 1 ≠ g := hbg1
        have HOE := hid ((((HFin.out.aside (Only.store _ (base + 1) 0 (.slice (some ⟨g, 0, none⟩) p.funcs.length cap)) (.inr (by show base + 1 < W.heap.size; omega)) hne.symm).aside (Only.store _ (base + 1) 1 (.slice ga2 p.globals.length gc2)) (.inr (by show base + 1 < W.heap.size; omega)) hne.symm).aside (Only.store _ (base + 1) 2 (.slice la2 p.layouts.length lc2)) (.inr (by show base + 1 < W.heap.size; omega)) hne.symm).aside (Only.store _ (base + 1) 3 (.int .i64 p.main)) (.inr (by show base + 1 < W.heap.size; omega)) hne.symm)
        have HBE := hid ((((HBe.out.setCell (p := ⟨base + 1, 0, none⟩) (by show base ≤ base + 1; omega) (.slice (some ⟨g, 0, none⟩) p.funcs.length cap)).setCell (p := ⟨base + 1, 1, none⟩) (by show base ≤ base + 1; omega) (.slice ga2 p.globals.length gc2)).setCell (p := ⟨base + 1, 2, none⟩) (by show base ≤ base + 1; omega) (.slice la2 p.layouts.length lc2)).setCell (p := ⟨base + 1, 3, none⟩) (by show base ≤ base + 1; omega) (.int .i64 p.main))
        have HATE := hid ((HOE.out.weak (X' := fun k => k = g ∨ k < base) (fun k hk => by rcases hk with h | h; exact .inl h; exact .inr (by omega)) (.inl rfl)).mono (base' := base) (by omega))
        have n9 : ¬ (base = g) := hbg
        clear q0 q1 q2 qf qc hE g0 g1 g2 g3
        go_wp2_with fail
        obtain ⟨g0, g1, g2, g3⟩ := HGG.out
        exact bodyPost_ret (v := .agg #[.slice (some ⟨g, 0, none⟩) p.funcs.length cap, .slice ga2 p.globals.length gc2, .slice la2 p.layouts.length lc2, .int .i64 p.main]) (by simp [results, Tryz.results24, go_sem, g0, g1, g2, g3]) rfl ⟨g, cap, _, _, _, _, rfl, by rw [HBS.out]; exact HATE.out, by rw [HBS.out]; exact HBE.out⟩

end Go.Proofs.YteiohnfmlabelaaGreat
