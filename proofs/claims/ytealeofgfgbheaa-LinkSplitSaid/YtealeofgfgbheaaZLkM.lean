/-
  The linker's relocate, walked.
-/
import Derived.Test.YtealeofgfgbheaaZLkK
namespace Go.Proofs.Ytealeofgfgbheaa
set_option linter.unusedVariables false
set_option linter.unusedSimpArgs false
open Go.RowKit

def idxD (D : List Fun) (nm : ByteArray) : Nat := ((fnd (D.map fun f => f.name) nm).getD 0).toNat
def relStep (g : Int → Int → Int) (D : List Fun) (f : Fun) : List Fun := D.set (idxD D f.name) { nth D (idxD D f.name) with code := f.code.map (reI g) }
def relK (g : Int → Int → Int) (D : List Fun) (P : Prg) (j : Nat) : List Fun := (defsK P j).foldl (relStep g) D
theorem relStep_len (g : Int → Int → Int) (D : List Fun) (f : Fun) : (relStep g D f).length = D.length := by unfold relStep; simp
theorem relStep_names (g : Int → Int → Int) (D : List Fun) (f : Fun) : (relStep g D f).map (fun f => f.name) = D.map fun f => f.name := by
  unfold relStep
  rw [List.map_set]
  rcases Nat.lt_or_ge (idxD D f.name) D.length with h | h
  · have e : (nth D (idxD D f.name)).name = (D.map fun f => f.name)[idxD D f.name]'(by simpa using h) := by rw [nth_eq _ _ h]; simp
    show (D.map fun f => f.name).set _ (nth D (idxD D f.name)).name = _
    rw [e]
    exact List.set_getElem_self _
  · rw [List.set_eq_of_length_le (by simpa using h)]
theorem relK_succ (g : Int → Int → Int) (D : List Fun) (P : Prg) (j : Nat) (h : j < P.funcs.length) : relK g D P (j + 1) = if isDef (nth P.funcs j) = true then relStep g (relK g D P j) (nth P.funcs j) else relK g D P j := by
  unfold relK
  rw [defsK_succ P j h]
  cases hd : isDef (nth P.funcs j) <;> simp
theorem relK_fold (g : Int → Int → Int) : ∀ (l : List Fun) (D : List Fun), (l.foldl (relStep g) D).length = D.length ∧ (l.foldl (relStep g) D).map (fun f => f.name) = D.map fun f => f.name
  | [], D => ⟨rfl, rfl⟩
  | f :: l, D => by
    have ih := relK_fold g l (relStep g D f)
    rw [relStep_len, relStep_names] at ih
    exact ih
theorem relK_len (g : Int → Int → Int) (D : List Fun) (P : Prg) (j : Nat) : (relK g D P j).length = D.length := (relK_fold g _ D).1
theorem relK_names (g : Int → Int → Int) (D : List Fun) (P : Prg) (j : Nat) : (relK g D P j).map (fun f => f.name) = D.map fun f => f.name := (relK_fold g _ D).2

theorem LkSt.recode {lo : Nat} {w0 w : World} {bK bF bG cF cG g n cap : Nat} {vg vl : Value} {D : List Fun} {ss : List Slc} {G : List Glob} {Y : List (List Int)} {rs : List Slc} {m : Int} {s : Slc} {c : List Ins} (F : Nat)
    (h : LkSt lo w0 w bK bF bG cF cG (.slice (some ⟨g, 0, none⟩) n cap) vg vl D ss G Y rs m) (hF : F < D.length) (hc : OwnE insE w0.heap.size 43 w s.val c) :
    LkSt lo w0 (w.setCell ⟨g, F * 4 + 3, none⟩ s.val) bK bF bG cF cG (.slice (some ⟨g, 0, none⟩) n cap) vg vl (D.set F { nth D F with code := c }) (ss.set F s) G Y rs m := by
  have hS : Only (some g) w (w.setCell ⟨g, F * 4 + 3, none⟩ s.val) := Only.store w g _ _
  have eN : (D.set F { nth D F with code := c }).map (fun f => f.name) = D.map fun f => f.name := by
    rw [List.map_set]
    have e : (nth D F).name = (D.map fun f => f.name)[F]'(by simpa using hF) := by rw [nth_eq _ _ hF]; simp
    show (D.map fun f => f.name).set _ (nth D F).name = _
    rw [e]
    exact List.set_getElem_self _
  have hq := h.q.setCode (s := s) F hF hc
  refine ⟨hq, h.globs.only hS (h.globs.neRow h.q.row (by decide)), h.lays.only hS (h.lays.row.neRow h.q.row (by decide)) (fun j hj => (h.lays.each j hj).neRow h.q.row (by decide)), h.box.only hS (h.box.neRow h.q.row (by decide)), ?_, h.mG.setCell (fun e => (h.q.row.neMapN h.mG) g rfl (by rw [e])) _, by rw [List.length_set]; exact h.cF, h.cG, h.ne, h.hK, h.hF, h.hG⟩
  rw [eN]
  exact h.mF.setCell (fun e => (h.q.row.neMapN h.mF) g rfl (by rw [e])) _

/-- The code of a function lies in a row of the call's own. -/
def OwnC (base : Nat) (w : World) (D : List Fun) (ss : List Slc) (i : Nat) : Prop := OwnE insE base 43 w (nth ss i).val (nth D i).code
theorem OwnC.fresh {base : Nat} {w w' : World} {D : List Fun} {ss : List Slc} {i : Nat} (h : OwnC base w D ss i) (hb : Below w.heap.size w w') : OwnC base w' D ss i := OwnE.fresh h (Only.below hb none)
noncomputable def planRl6 : Plan := mkPlan (regionOf Try.f34 6) [(15, .new), (18, .fin)] []

set_option maxRecDepth 100000 in
set_option maxHeartbeats 8000000 in
theorem relocate_calls (lo : Nat) (w0 w : World) (bK bF bG cF cG g qc : Nat) (ya : Option Addr) (yc : Nat) (vg uf ug ul : Value) (D : List Fun) (ss : List Slc) (G : List Glob) (Y : List (List Int)) (rs : List Slc) (m : Int) (P : Prg)
    (h : LkSt lo w0 w bK bF bG cF cG (.slice (some ⟨g, 0, none⟩) D.length qc) vg (.slice ya Y.length yc) D ss G Y rs m) (hP : ProgAt lo w0 uf ug ul P) (hW : PrgWf P) (hD : D.length ≤ 10000)
    (hdef : ∀ j, j < P.funcs.length → isDef (nth P.funcs j) = true → ∃ i : Nat, i < D.length ∧ fnd (D.map fun f => f.name) (nth P.funcs j).name = some (i : Int))
    (hrng : ∀ f ∈ P.funcs, ∀ x ∈ f.code, Num6 x.op → RngI P x.op x.b) (hcl : ∀ f ∈ P.funcs, f.code.length ≤ 1000000) (hY : Y.length ≤ 10000) (hYr : ∀ c ∈ Y, c.length ≤ 1000000) (hPY : ∀ c ∈ P.layouts, c ∈ Y) :
    Calls Try.prog 34 #[.pointer (some ⟨bK, 0, none⟩), .agg #[uf, ug, ul, .int .i64 P.main]] w fun e w' => e = .returned (.tuple #[]) ∧ ∃ ss', LkSt lo w0 w' bK bF bG cF cG (.slice (some ⟨g, 0, none⟩) D.length qc) vg (.slice ya Y.length yc) (relK (numR (D.map fun f => f.name) (G.map fun g => g.name) Y P) D P P.funcs.length) ss' G Y rs m ∧ ∀ i, i < D.length → (OwnC w0.heap.size w D ss i ∨ ∃ f ∈ defsP P, idxD D f.name = i) → OwnC w0.heap.size w' (relK (numR (D.map fun f => f.name) (G.map fun g => g.name) Y P) D P P.funcs.length) ss' i := by
  have H := hid h
  have HW := hid hW
  have HP := hid hP
  have HDEF := hid hdef
  have HRNG := hid hrng
  have HYR := hid hYr
  have HPY := hid hPY
  have HCL := hid hcl
  have hfz := hW.funcs
  obtain ⟨nu, hnu⟩ : ∃ nu, numR (D.map fun f => f.name) (G.map fun g => g.name) Y P = nu := ⟨_, rfl⟩
  rw [hnu]
  have HNU := hid hnu
  obtain ⟨fa, fc, fb, fo, FS, rfl, fp, f0, f1, f2, f3, fcode, fbl, -, -, -⟩ := hP.funcs.open
  obtain ⟨pa, pc, _, _, rfl, -⟩ := hP.globs.open
  obtain ⟨la, lc, _, _, _, rfl, -⟩ := hP.lays.open
  have HFQ := hid (And.intro fp (And.intro f0 (And.intro f1 (And.intro f2 (And.intro f3 (And.intro fcode fbl))))))
  clear h hP hW hdef hrng hYr hPY hcl hnu fp f0 f1 f2 f3 fcode fbl
  go_enter Try.func34, Try.ntmps34
  go_wp2_with fail
  generalize hWa : World.alloc w _ = Wa
  have ha1 : Below w.heap.size w Wa := by rw [← hWa]; exact (Below.refl _ _).alloc (Nat.le_refl _) _
  have hsz : Wa.heap.size = w.heap.size + 1 := by rw [← hWa]; exact Array.size_push _
  have ra1 := (show BoxAt Wa w.heap.size 51 [.pointer (some ⟨bK, 0, none⟩)] by rw [← hWa]; exact BoxAt.new _ _ _ _ _ rfl rfl)
  clear hWa
  generalize hWb : World.alloc Wa _ = Wb
  have hab : Below Wa.heap.size Wa Wb := by rw [← hWb]; exact (Below.refl _ _).alloc (Nat.le_refl _) _
  have R2 := hid (show BoxAt Wb Wa.heap.size 26 [.slice fa P.funcs.length fc, .slice pa P.globals.length pc, .slice la P.layouts.length lc, .int .i64 P.main] by rw [← hWb]; exact BoxAt.new _ _ _ _ _ rfl rfl)
  have R1 := hid (ra1.below hab)
  have HB1 := hid (ha1.trans (hab.mono ha1.size))
  rw [hsz] at R2
  clear hWb ha1 hsz ra1 hab
  have b0 := R2.out.cell 0 _ rfl
  have bz := R2.out.lt
  go_wp2_with fail
  clear b0 bz
  go_loopw [11] (fun iv wr => ∃ (j : Nat) (ss' : List Slc), j ≤ P.funcs.length ∧ iv = .int .i64 j ∧ LkSt lo w0 wr bK bF bG cF cG (.slice (some ⟨g, 0, none⟩) D.length qc) vg (.slice ya Y.length yc) (relK nu D P j) ss' G Y rs m ∧ (∀ i, i < D.length → (OwnC w0.heap.size w D ss i ∨ ∃ f ∈ defsK P j, idxD D f.name = i) → OwnC w0.heap.size wr (relK nu D P j) ss' i) ∧ BoxAt wr w.heap.size 51 [.pointer (some ⟨bK, 0, none⟩)] ∧ BoxAt wr (w.heap.size + 1) 26 [.slice fa P.funcs.length fc, .slice pa P.globals.length pc, .slice la P.layouts.length lc, .int .i64 P.main]) (fun iv _ => P.funcs.length - (intOf iv).toNat)
  case atStart => exact ⟨0, ss, Nat.zero_le _, rfl, by rw [show relK nu D P 0 = D by simp [relK, defsK]]; exact H.out.fresh HB1.out, fun i hi hc => by
    rw [show relK nu D P 0 = D by simp [relK, defsK]]
    rcases hc with hc | ⟨f, hf, -⟩
    · exact hc.fresh HB1.out
    · simp [defsK] at hf, R1.out, R2.out⟩
  case round =>
  clear HB1 R1 R2
  obtain ⟨j, ss', hj, rfl, hst, hoc, hk, hp⟩ := hrel
  have HOC := hid hoc
  clear hoc
  obtain ⟨wo, hwo⟩ : ∃ wo, wo = wr := ⟨_, rfl⟩
  subst hwo
  have hwz : w.heap.size + 1 < wo.heap.size := hp.lt
  have HST := hid hst
  have HK := hid hk
  have HX := hid hp
  clear hst hk hp
  by_cases hlt : j < P.funcs.length
  · have hlt2 : (j : Int) < P.funcs.length := Int.ofNat_lt.2 hlt
    have hki : ¬ ((j : Int) < 0) := by omega
    obtain ⟨fp, f0, f1, f2, f3, fcode, fbl⟩ := HFQ.out
    obtain rfl := fp (by omega)
    have hbw := HST.out.q.low
    have gl := fbl (by omega)
    have z0 := (hbw.cell (p := ⟨fb, _, none⟩) gl).trans (f0 j hlt)
    have z1 := (hbw.cell (p := ⟨fb, _, none⟩) gl).trans (f1 j hlt)
    have z2 := (hbw.cell (p := ⟨fb, _, none⟩) gl).trans (f2 j hlt)
    have z3 := (hbw.cell (p := ⟨fb, _, none⟩) gl).trans (f3 j hlt)
    have gl2 : fb < wo.heap.size := Nat.lt_of_lt_of_le gl hbw.size
    have hfw := HW.out.func _ (nth_mem P.funcs j hlt)
    have hrn := HRNG.out _ (nth_mem P.funcs j hlt)
    have hcn := HCL.out _ (nth_mem P.funcs j hlt)
    have hdf := HDEF.out j hlt
    have hsu := relK_succ nu D P j hlt
    have hds := defsK_succ P j hlt
    have hcj := fcode j hlt
    obtain ⟨f, hf⟩ : ∃ f, nth P.funcs j = f := ⟨_, rfl⟩
    rw [hf] at z0 z1 z2 z3 hfw hrn hcn hdf hsu hcj hds
    obtain ⟨E, hE⟩ : ∃ E, relK nu D P j = E := ⟨_, rfl⟩
    have hEl : E.length = D.length := by rw [← hE]; exact relK_len nu D P j
    have hEn : (E.map fun f => f.name) = D.map fun f => f.name := by rw [← hE]; exact relK_names nu D P j
    rw [hE] at hsu
    have hst := HST.out
    rw [hE] at hst
    have hoc := HOC.out
    rw [hE] at hoc
    have HOE := hid hoc
    have HDS := hid hds
    clear hoc hds HOC
    have HSE := hid hst
    have hgd : strK.good f.name := hfw.name
    have HGD := hid hgd
    have HRN := hid hrn
    have HDF := hid hdf
    have HSU := hid hsu
    have HCJ := hid hcj
    have HEN := hid hEn
    clear fp f0 f1 f2 f3 fcode fbl gl hbw hfw hrn hdf hsu hcj hf hE hEn hst hgd HST
    go_wp2_with fail
    generalize hX : World.alloc _ _ = X
    have hal : Below wo.heap.size wo X := by rw [← hX]; exact (Below.refl _ _).alloc (Nat.le_refl _) _
    have HBX := hid (show BoxAt X wo.heap.size 41 [.string f.name, .int .i64 f.params, .int .i64 f.regs, .slice (FS j).a f.code.length (FS j).c] by rw [← hX]; exact BoxAt.new _ _ _ _ _ rfl rfl)
    have HK2 := hid (HK.out.below hal)
    have HX2 := hid (HX.out.below hal)
    have HS2 := hid (HSE.out.fresh hal)
    have HO2 := hid (show ∀ i, i < D.length → (OwnC w0.heap.size w D ss i ∨ ∃ f ∈ defsK P j, idxD D f.name = i) → OwnC w0.heap.size X E ss' i from fun i hi hc => (HOE.out i hi hc).fresh hal)
    have q0 := HBX.out.cell 0 _ rfl
    have q1 := HBX.out.cell 1 _ rfl
    have q2 := HBX.out.cell 2 _ rfl
    have q3 := HBX.out.cell 3 _ rfl
    have qz := HBX.out.lt
    have hxo : wo.heap.size < X.heap.size := HBX.out.lt
    clear hX hal z0 z1 z2 z3 gl2
    go_wp2_with fail
    refine (imported_calls lo _ f X (HCJ.out.below HS2.out.q.low)).mono ?_
    rintro e w2 ⟨rfl, hb2⟩
    have HS3 := hid (HS2.out.fresh hb2)
    have HO3 := hid (show ∀ i, i < D.length → (OwnC w0.heap.size w D ss i ∨ ∃ f ∈ defsK P j, idxD D f.name = i) → OwnC w0.heap.size w2 E ss' i from fun i hi hc => (HO2.out i hi hc).fresh hb2)
    have HK3 := hid (HK2.out.below hb2)
    have HX3 := hid (HX2.out.below hb2)
    have HBX3 := hid (HBX.out.below hb2)
    have hz2 : wo.heap.size < w2.heap.size := Nat.lt_of_lt_of_le hxo hb2.size
    clear hb2 q0 q1 q2 q3 qz HS2 HK2 HX2 HBX
    have k0 := HK3.out.cell 0 _ rfl
    have kz := HK3.out.lt
    have b0 := HS3.out.box.cell 0 _ rfl
    have b4 := HS3.out.box.cell 4 _ rfl
    have bz := HS3.out.box.lt
    have q0 := HBX3.out.cell 0 _ rfl
    have q3 := HBX3.out.cell 3 _ rfl
    have qz := HBX3.out.lt
    cases hde : f.code.isEmpty with
    | true =>
      have hnd : isDef f = false := by unfold isDef; rw [hde]; rfl
      have HSU2 := hid (show relK nu D P (j + 1) = E by rw [HSU.out, hnd]; rfl)
      have HDS2 := hid (show defsK P (j + 1) = defsK P j by rw [HDS.out, hnd]; simp)
      clear hnd hde
      go_wp2_with fail
      refine ⟨⟨j + 1, ss', hlt, rfl, by rw [HSU2.out]; exact HS3.out, by rw [HSU2.out, HDS2.out]; exact HO3.out, HK3.out, HX3.out⟩, ?_⟩
      simp only [intOf]
      omega
    | false =>
      have hnd : isDef f = true := by unfold isDef; rw [hde]; rfl
      have HSU2 := hid (show relK nu D P (j + 1) = relStep nu E f by rw [HSU.out, hnd]; rfl)
      have HDS2 := hid (show defsK P (j + 1) = defsK P j ++ [f] by rw [HDS.out, hnd]; rfl)
      obtain ⟨i, hi, hfi⟩ := HDF.out hnd
      have hix : idxD E f.name = i := by unfold idxD; rw [HEN.out, hfi]; simp
      have HIX := hid hix
      have HIXD := hid (show idxD D f.name = i by unfold idxD; rw [hfi]; simp)
      have hiE : i < E.length := by omega
      have HFI := hid (show fnd (E.map fun f => f.name) f.name = some (i : Int) by rw [HEN.out]; exact hfi)
      have hi2 : (i : Int) < D.length := Int.ofNat_lt.2 hi
      have hi3 : ¬ ((i : Int) < 0) := by omega
      clear hnd hde hfi hix
      go_wp2_with fail
      refine Plan.wp_chain planRl6 w2.heap.size (by kernel_rfl) rfl (by kernel_rfl) (by kernel_rfl) ?_
      repeat (first | (apply Plan.chain_skip rfl rfl; simp only [Act.put, List.setIfInBounds_toArray, List.set_cons_zero, List.set_cons_succ]) | (apply Plan.chain_det rfl rfl; (· intro w' hb; obtain ⟨hcl, hfz⟩ := bcellB hb; go_simp; rfl); simp only [Act.put, List.setIfInBounds_toArray, List.set_cons_zero, List.set_cons_succ]))
      refine Plan.chain_det (v := .int .i64 (i : Nat)) rfl rfl (fun w' hb => ?_) ?_
      · have hlk := (HS3.out.mF.below hb).look 52 Try.underlying52 f.name HGD.out
        rw [HFI.out] at hlk
        have hlk' : (Instr.lookup 52 (.map (some bF)) (.string f.name) false).run Try.prog w' = .ok (.int .i64 (i : Nat)) w' := hlk
        clear hlk
        go_simp
      simp only [Act.put, List.setIfInBounds_toArray, List.set_cons_zero, List.set_cons_succ]
      repeat (first | (apply Plan.chain_skip rfl rfl; simp only [Act.put, List.setIfInBounds_toArray, List.set_cons_zero, List.set_cons_succ]) | (apply Plan.chain_det rfl rfl; (· intro w' hb; obtain ⟨hcl, hfz⟩ := bcellB hb; go_simp; rfl); simp only [Act.put, List.setIfInBounds_toArray, List.set_cons_zero, List.set_cons_succ]))
      refine Plan.chain_call 55 #[.slice (FS j).a f.code.length (FS j).c, .func (.func 54) #[] #[.pointer (some ⟨w.heap.size, 0, none⟩), .pointer (some ⟨w.heap.size + 1, 0, none⟩)]] (fun v w' => ∃ na nc, v = .slice na f.code.length nc ∧ OwnE insE w2.heap.size 43 w' v (f.code.map (reI nu)) ∧ Below w2.heap.size w2 w') rfl rfl rfl (by go_simp) ?_ (fun v w' h => by obtain ⟨_, _, _, _, h4⟩ := h; exact h4) (fun v6 w6 h => ?_)
      · refine (renumber_calls lo (.slice (FS j).a f.code.length (FS j).c) f.code w2.drew 54 #[.pointer (some ⟨w.heap.size, 0, none⟩), .pointer (some ⟨w.heap.size + 1, 0, none⟩)] nu (HCJ.out.below HS3.out.q.low.drew) hcn (fun args w => by go_simp) (fun x hx h6 w' hb' => ?_)).mono ?_
        · have hw : Below w2.heap.size w2 w' := (Below.refl w2.heap.size w2).drew.trans hb'
          have hnum := number_calls lo w0 w' bK bF bG cF cG w.heap.size (w.heap.size + 1) ya yc _ vg _ _ _ E ss' G Y rs m P x.op x.b (HS3.out.fresh hw) HP.out HW.out (HK3.out.below hw) (HX3.out.below hw) (HRN.out x hx h6) hY HYR.out HPY.out
          rw [HEN.out, HNU.out] at hnum
          exact hnum
        · rintro e w' ⟨v', rfl, ho, hb⟩
          obtain ⟨na, nc, hv'⟩ := ho.anySlice
          rw [List.length_map] at hv'
          exact ⟨_, rfl, na, nc, hv', ho, (Below.refl w2.heap.size w2).drew.trans hb⟩
      obtain ⟨na, nc, rfl, ho6, hb6⟩ := h
      simp only [Act.put, List.setIfInBounds_toArray, List.set_cons_zero, List.set_cons_succ]
      have HS6 := hid (HS3.out.fresh hb6)
      have HB6 := hid hb6
      have HK6 := hid (HK3.out.below hb6)
      have HX6 := hid (HX3.out.below hb6)
      have HO6 := hid (ho6.mono HS3.out.q.low.size)
      have hgz := HS3.out.q.row.lt g rfl
      have y7 := HS6.out.q.row.cellAt i 3 (by rw [HS6.out.q.zlen]; exact hiE) (by decide)
      have y7' : w6.cell? ⟨g, i * 4 + 3, none⟩ = some (nth (funE.enc (nth (E.zip ss') i)) 3) := y7
      have y8 := HS6.out.q.row.frozenAt (i * 4 + 3)
      have gl6 : g < w6.heap.size := Nat.lt_of_lt_of_le hgz.2 hb6.size
      clear ho6 hb6 y7
      repeat (first | (apply Plan.chain_skip rfl rfl; simp only [Act.put, List.setIfInBounds_toArray, List.set_cons_zero, List.set_cons_succ]) | (apply Plan.chain_det rfl rfl; (· intro w' hb; obtain ⟨hcl, hfz⟩ := bcellB hb; go_simp; rfl); simp only [Act.put, List.setIfInBounds_toArray, List.set_cons_zero, List.set_cons_succ]))
      refine Plan.chain_fin rfl rfl ?_
      unfold Oper.wp
      go_simp
      have hst7 := HS6.out.recode (s := ⟨na, f.code.length, nc⟩) (c := f.code.map (reI nu)) i hiE HO6.out
      have hS7 : Only (some g) w6 (w6.setCell ⟨g, i * 4 + 3, none⟩ (.slice na f.code.length nc)) := Only.store _ _ _ _
      have hk7 := HK6.out.only hS7 (HK6.out.neRow HS6.out.q.row (by decide))
      have hx7 := HX6.out.only hS7 (HX6.out.neRow HS6.out.q.row (by decide))
      obtain ⟨X9, hX9⟩ : ∃ X9, w6.setCell ⟨g, i * 4 + 3, none⟩ (.slice na f.code.length nc) = X9 := ⟨_, rfl⟩
      have hst8 : LkSt lo w0 X9 bK bF bG cF cG (.slice (some ⟨g, 0, none⟩) D.length qc) vg (.slice ya Y.length yc) (relK nu D P (j + 1)) (ss'.set i ⟨na, f.code.length, nc⟩) G Y rs m := by
        rw [← hX9, HSU2.out]
        unfold relStep
        rw [HIX.out]
        exact hst7
      have ho8 : ∀ i', i' < D.length → (OwnC w0.heap.size w D ss i' ∨ ∃ f ∈ defsK P (j + 1), idxD D f.name = i') → OwnC w0.heap.size X9 (relK nu D P (j + 1)) (ss'.set i ⟨na, f.code.length, nc⟩) i' := by
        intro i' hi' hc
        rw [← hX9, HSU2.out]
        unfold relStep
        rw [HIX.out]
        unfold OwnC
        by_cases e : i = i'
        · subst e
          rw [nth_set_eqQ _ _ _ hiE, nth_set_eqQ _ _ _ (by rw [HS6.out.q.len]; exact hiE)]
          exact HO6.out.only hS7 (HO6.out.neRow HS6.out.q.row (by decide))
        · rw [nth_set_neQ _ _ _ _ e, nth_set_neQ _ _ _ _ e]
          have hc2 : OwnC w0.heap.size w D ss i' ∨ ∃ f ∈ defsK P j, idxD D f.name = i' := by
            rcases hc with hc | ⟨f', hf', he⟩
            · exact .inl hc
            · rw [HDS2.out] at hf'
              rcases List.mem_append.1 hf' with h1 | h1
              · exact .inr ⟨f', h1, he⟩
              · rw [List.mem_singleton] at h1
                subst h1
                rw [HIXD.out] at he
                exact absurd he e
          have h9 : OwnC w0.heap.size w6 E ss' i' := (HO3.out i' hi' hc2).fresh HB6.out
          exact OwnE.only h9 hS7 (OwnE.neRow h9 HS6.out.q.row (by decide))
      rw [hX9] at hk7 hx7
      try rw [hX9]
      have HS9 := hid hst8
      have HO9 := hid ho8
      clear ho8
      have HK9 := hid hk7
      have HX9 := hid hx7
      clear hX9 hst8 hk7 hx7 hst7 hS7 y7' y8
      go_wp2_with fail
      refine ⟨⟨j + 1, _, hlt, rfl, HS9.out, HO9.out, HK9.out, HX9.out⟩, ?_⟩
      simp only [intOf]
      omega
  · have hke : j = P.funcs.length := by omega
    subst hke
    go_wp2_with fail
    go_end0
    exact ⟨rfl, ss', HST.out, by have := HOC.out; rw [defsK_end] at this; exact this⟩

end Go.Proofs.Ytealeofgfgbheaa
