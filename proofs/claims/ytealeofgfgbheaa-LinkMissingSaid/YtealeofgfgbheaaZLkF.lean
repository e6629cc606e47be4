/-
  Cells below a bound read as before.
-/
import Derived.Test.YtealeofgfgbheaaZRowAt
import Derived.Test.YtealeofgfgbheaaZLkD
namespace Go.Proofs.Ytealeofgfgbheaa
set_option linter.unusedVariables false
set_option linter.unusedSimpArgs false
open Go.RowKit

theorem bcellB {B : Nat} {W w1 : World} (hb : Below B W w1) : (∀ b o, b < B → w1.cell? ⟨b, o, none⟩ = W.cell? ⟨b, o, none⟩) ∧ (∀ b o, b < B → w1.frozen? ⟨b, o, none⟩ = W.frozen? ⟨b, o, none⟩) :=
  ⟨fun b o h => hb.cell (p := ⟨b, o, none⟩) h, fun b o h => hb.frozen (p := ⟨b, o, none⟩) h⟩

end Go.Proofs.Ytealeofgfgbheaa

/-
  The linker's resolved, walked.
-/
namespace Go.Proofs.Ytealeofgfgbheaa
set_option linter.unusedVariables false
set_option linter.unusedSimpArgs false
open Go.RowKit

noncomputable def planRs4 : Plan := mkPlan (regionOf Try.f31 4) [] []
def hasB (D : List Fun) (f : Fun) : Bool := memB f.name (D.map fun f => f.name)
def resB (D : List Fun) (P : Prg) : Bool := (List.range P.funcs.length).all fun j => hasB D (nth P.funcs j)
theorem hasB_some (D : List Fun) (f : Fun) : (fnd (D.map fun f => f.name) f.name).isSome = hasB D f := by
  unfold hasB
  by_cases h : f.name ∈ D.map fun f => f.name
  · rw [memB_true h]
    obtain ⟨i, _, h2, _⟩ := fnd_some _ _ h
    rw [h2]; rfl
  · rw [memB_false h, (fnd_none _ _).2 h]; rfl

set_option maxRecDepth 100000 in
set_option maxHeartbeats 8000000 in
theorem resolved_calls (lo : Nat) (w0 w : World) (bK bF bG cF cG : Nat) (vq vg vl uf ug ul : Value) (D : List Fun) (ss : List Slc) (G : List Glob) (Y : List (List Int)) (rs : List Slc) (m : Int) (P : Prg)
    (h : LkSt lo w0 w bK bF bG cF cG vq vg vl D ss G Y rs m) (hP : ProgAt lo w0 uf ug ul P) (hW : PrgWf P) :
    Calls Try.prog 31 #[.pointer (some ⟨bK, 0, none⟩), .agg #[uf, ug, ul, .int .i64 P.main]] w fun e w' => e = .returned (.bool (resB D P)) ∧ Below w.heap.size w w' := by
  have H := hid h
  have HW := hid hW
  have hfz := hW.funcs
  have hlow := h.q.low
  have HLOW := hid hlow
  obtain ⟨fa, fc, fb, fo, FS, rfl, fp, f0, f1, f2, f3, fcode, fbl, -, -, -⟩ := hP.funcs.open
  obtain ⟨ga, gc, _, _, rfl, -⟩ := hP.globs.open
  obtain ⟨la, lc, _, _, _, rfl, -⟩ := hP.lays.open
  have HFQ := hid (And.intro fp (And.intro f0 (And.intro f1 (And.intro f2 (And.intro f3 (And.intro fcode fbl))))))
  clear h hP hW fp f0 f1 f2 f3 fcode fbl hlow
  go_enter Try.func31, Try.ntmps31
  go_wp2_with fail
  generalize hW1 : World.alloc _ _ = W1
  have hb1 : Below w.heap.size w W1 := by rw [← hW1]; exact (Below.refl _ _).alloc (Nat.le_refl _) _
  have HB1 := hid hb1
  clear hW1 hb1
  go_loopw [12] (fun iv wr => ∃ j : Nat, j ≤ P.funcs.length ∧ iv = .int .i64 j ∧ Below w.heap.size w wr ∧ ∀ i, i < j → hasB D (nth P.funcs i) = true) (fun iv _ => P.funcs.length - (intOf iv).toNat)
  case atStart => exact ⟨0, Nat.zero_le _, rfl, HB1.out, fun i hi => by omega⟩
  case round =>
  clear HB1
  obtain ⟨j, hj, rfl, hb, hall⟩ := hrel
  obtain ⟨wo, hwo⟩ : ∃ wo, wo = wr := ⟨_, rfl⟩
  subst hwo
  have HB := hid hb
  have HALL := hid hall
  clear hb hall
  by_cases hlt : j < P.funcs.length
  · have hlt2 : (j : Int) < P.funcs.length := Int.ofNat_lt.2 hlt
    have hki : ¬ ((j : Int) < 0) := by omega
    obtain ⟨fp, f0, f1, f2, f3, fcode, fbl⟩ := HFQ.out
    obtain rfl := fp (by omega)
    have hbw := HLOW.out.trans (HB.out.mono HLOW.out.size)
    have gl := fbl (by omega)
    have z0 := (hbw.cell (p := ⟨fb, _, none⟩) gl).trans (f0 j hlt)
    have z1 := (hbw.cell (p := ⟨fb, _, none⟩) gl).trans (f1 j hlt)
    have z2 := (hbw.cell (p := ⟨fb, _, none⟩) gl).trans (f2 j hlt)
    have z3 := (hbw.cell (p := ⟨fb, _, none⟩) gl).trans (f3 j hlt)
    have gl2 : fb < wo.heap.size := Nat.lt_of_lt_of_le gl hbw.size
    have hfw := HW.out.func _ (nth_mem P.funcs j hlt)
    obtain ⟨f, hf⟩ : ∃ f, nth P.funcs j = f := ⟨_, rfl⟩
    rw [hf] at z0 z1 z2 z3 hfw
    have HF := hid hf
    have hgd : strK.good f.name := hfw.name
    have HGD := hid hgd
    clear fp f0 f1 f2 f3 fcode fbl hbw gl hfw hf hgd
    go_wp2_with fail
    generalize hX : World.alloc _ _ = X
    have hal : Below wo.heap.size wo X := by rw [← hX]; exact (Below.refl _ _).alloc (Nat.le_refl _) _
    have hbx := (show BoxAt X wo.heap.size 41 [.string f.name, .int .i64 f.params, .int .i64 f.regs, .slice (FS j).a f.code.length (FS j).c] by rw [← hX]; exact BoxAt.new _ _ _ _ _ rfl rfl)
    have HBX := hid (HB.out.trans (hal.mono HB.out.size))
    have HS := hid (H.out.fresh HBX.out)
    have e0 := hbx.cell 0 _ rfl
    have ez := hbx.lt
    have k4 := HS.out.box.cell 4 _ rfl
    have kz := HS.out.box.lt
    clear hX hal hbx z0 z1 z2 z3 gl2
    refine Plan.wp_chain planRs4 X.heap.size (by kernel_rfl) rfl (by kernel_rfl) (by kernel_rfl) ?_
    repeat (first | (apply Plan.chain_skip rfl rfl; simp only [Act.put, List.setIfInBounds_toArray, List.set_cons_zero, List.set_cons_succ]) | (apply Plan.chain_det rfl rfl; (· intro w' hb; obtain ⟨hcl, hfz⟩ := bcellB hb; go_simp; rfl); simp only [Act.put, List.setIfInBounds_toArray, List.set_cons_zero, List.set_cons_succ]))
    refine Plan.chain_det (v := .tuple #[.int .i64 ((fnd (D.map fun f => f.name) f.name).getD 0), .bool (hasB D f)]) rfl rfl (fun w' hb => ?_) ?_
    · have hlk := (HS.out.mF.below hb).look_ok 52 Try.underlying52 f.name HGD.out
      rw [hasB_some] at hlk
      have hlk' : (Instr.lookup 52 (.map (some bF)) (.string f.name) true).run Try.prog w' = .ok (.tuple #[.int .i64 ((fnd (D.map fun f => f.name) f.name).getD 0), .bool (hasB D f)]) w' := hlk
      clear hlk
      go_simp
    simp only [Act.put, List.setIfInBounds_toArray, List.set_cons_zero, List.set_cons_succ]
    repeat (first | (apply Plan.chain_skip rfl rfl; simp only [Act.put, List.setIfInBounds_toArray, List.set_cons_zero, List.set_cons_succ]) | (apply Plan.chain_det rfl rfl; (· intro w' hb; obtain ⟨hcl, hfz⟩ := bcellB hb; go_simp; rfl); simp only [Act.put, List.setIfInBounds_toArray, List.set_cons_zero, List.set_cons_succ]))
    refine Plan.chain_nil ?_
    have HDW := hid (show Below w.heap.size w X.drew from HBX.out.drew)
    clear e0 ez k4 kz
    generalize X.drew = X3 at *
    cases hh : hasB D f with
    | true =>
      have HH := hid hh
      clear hh
      go_wp2_with fail
      refine ⟨⟨j + 1, hlt, rfl, HDW.out, fun i hi => ?_⟩, ?_⟩
      · rcases Nat.lt_or_ge i j with h5 | h5
        · exact HALL.out i h5
        · rw [show i = j by omega, HF.out]; exact HH.out
      · simp only [intOf]
        omega
    | false =>
      have HH := hid (show resB D P = false by
        unfold resB
        rw [List.all_eq_false]
        exact ⟨j, List.mem_range.2 hlt, by rw [HF.out, hh]; simp⟩)
      clear hh
      go_wp2_with fail
      go_ret
      exact ⟨by rw [HH.out]; rfl, HDW.out⟩
  · have hke : j = P.funcs.length := by omega
    subst hke
    have HH := hid (show resB D P = true by
      unfold resB
      rw [List.all_eq_true]
      intro i hi
      exact HALL.out i (List.mem_range.1 hi))
    go_wp2_with fail
    go_ret
    exact ⟨by rw [HH.out]; rfl, HB.out⟩

end Go.Proofs.Ytealeofgfgbheaa
