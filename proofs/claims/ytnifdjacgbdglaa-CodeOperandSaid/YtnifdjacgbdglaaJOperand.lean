/-
  The statement CodeOperand holds: the law returns true for every argument, which reads as before.
-/
import Derived.Test.YtnifdjacgbdglaaRows
import Derived.Test.YtnifdjacgbdglaaOpen
import Derived.Test.YtnifdjacgbdglaaLOperand
import Derived.WalkKit
import Derived.ProofKit
import Derived.OpenShut
import Derived.ShutString
import Derived.ChangeOld
import Derived.Below
import Derived.SizedLaws
namespace Go.Proofs.Ytnifdjacgbdglaa.codeOperandDone
set_option linter.unusedVariables false
set_option linter.unusedSimpArgs false
open Go.ChangeShapes Go.WideShapes Go.ChangeAt Go.RowKit
open Go.ChangeMaps (open_string shut_string)

theorem own : ownKnob Try.prog.godebug = none := by kernel_rfl
theorem laidOut : laidOutB Try.prog = true := by kernel_rfl
theorem cellsT : Try.prog.cellsOf 41 = 7 := by kernel_rfl
theorem cellsU16 : Try.prog.cellsOf 39 = 1 := by kernel_rfl

theorem match7' {α : Type} {l : List α} (h : l.length = 7) : ∃ z0 z1 z2 z3 z4 z5 z6, l = [z0, z1, z2, z3, z4, z5, z6] := by
  match l, h with
  | [z0, z1, z2, z3, z4, z5, z6], _ => exact ⟨z0, z1, z2, z3, z4, z5, z6, rfl⟩

set_option maxRecDepth 100000 in
theorem lifted (os : Os) (started : os.Started) (H : Type) (enc : TypeId × Value → H) :
    ReturnsInHanded {} Try.checked os 6 .any (Rows.codeOperandSpec.pre6 enc Try.prog Try.f6 Rows.codeOperandRow.domain false) (Rows.codeOperandSpec.post enc Try.prog Try.f6 false true false false) := by
  refine returnsInHanded_of_change_sized (C := Try.checked) own started (by kernel_rfl) Try.func6
    (ChangeSpec.witness6 (enc := enc) (C := Try.checked) false ⟨#[], #[.agg #[.slice none 0 0, .slice none 0 0, .slice none 0 0, .int .i64 0, .int .u16 0, .int .u16 0, .int .u16 0]], []⟩ 8 (by kernel_rfl) (by kernel_rfl) (by kernel_rfl) (by kernel_rfl)) ?_
  intro W base args ds gs before hval0 hW hcnd hsz0 _
  have hval : ∀ (j : Nat) t v, Try.f6.params[j]? = some t → args[j]? = some v → Value.okWide Try.prog W .any base t v := hval0
  have hW' := hW
  obtain ⟨p, q, hA0, hV, rfl, hfz, hnd⟩ := hW
  have hA : DataW.TrodAll enc Try.prog W 0 (fun _ => true) true Try.f6.params.toList args.toList ds p := hA0
  rw [Try.params6] at hA hval
  obtain ⟨v0, vs0, d0, ds0, p0, q0, hargs, rfl, rfl, h0, r0⟩ := trodAll_cons hA
  obtain ⟨rfl, rfl, rfl⟩ := trodAll_nil r0
  obtain rfl : args = #[v0] := by cases args; simp_all
  obtain ⟨rfl, rfl⟩ := trodVars_none hV
  have k0 := h0
  have lt0 : ∀ x ∈ p0, x.block < W.heap.size := by obtain ⟨m, hm⟩ := k0; exact DataW.trod_lt m _ _ _ hm
  have hsz : (DataW.weightsEach Try.prog (Try.f6.params.toList ++ Rows.codeOperandSpec.plain.varTypes Try.prog) ([d0] ++ [])).all (· ≤ reachBytes) = true := hsz0
  rw [Try.params6] at hsz
  obtain ⟨cs, rfl, hcs⟩ := okWide_struct Try.underlying41 (hval 0 41 v0 rfl rfl)
  have hrd : Rd enc Try.prog W 41 cs.toList := by
    obtain ⟨fuel, hf⟩ := h0
    refine ⟨fuel, _, hf, fun n hn => ?_⟩
    have := List.all_eq_true.1 hsz n (DataW.weights_mem_each (j := 0) (t := 41) rfl rfl n hn)
    simpa using this
  obtain ⟨cl⟩ := cs
  obtain ⟨hl, hf⟩ := hrd.struct Try.underlying41
  rw [cellsT] at hl
  obtain ⟨vf, vg, vl, x3, y0, y1, y2, rfl⟩ := match7' hl
  have f0 := hf 0 _ rfl
  have g0 := hf 1 _ rfl
  have g1 := hf 2 _ rfl
  have g2 := hf 3 _ rfl
  have f0' : Rd enc Try.prog W 26 [vf, vg, vl, x3] := by have := f0; simpa [cellsPrg] using this
  have g0' : Rd enc Try.prog W 39 [y0] := by have := g0; simpa [cellsU16] using this
  have g1' : Rd enc Try.prog W 39 [y1] := by have := g1; simpa [cellsU16] using this
  have g2' : Rd enc Try.prog W 39 [y2] := by have := g2; simpa [cellsU16] using this
  obtain ⟨vf', vg', vl', p, e0, hp, hwf⟩ := rdPrgWf f0'
  simp only [List.cons.injEq, and_true] at e0
  obtain ⟨rfl, rfl, rfl, rfl⟩ := e0
  obtain ⟨b0, e2, u0⟩ := g0'.int Try.underlying39
  simp only [List.cons.injEq, and_true] at e2
  subst e2
  have hb0 : 0 ≤ b0 ∧ b0 < 65536 := by have := u0; simp [Lit.wf, IntKind.min, IntKind.max, IntKind.signed, IntKind.bits] at this; omega
  obtain ⟨a, rfl⟩ := Int.eq_ofNat_of_zero_le hb0.1
  obtain ⟨b1, e3, u1⟩ := g1'.int Try.underlying39
  simp only [List.cons.injEq, and_true] at e3
  subst e3
  have hb1 : 0 ≤ b1 ∧ b1 < 65536 := by have := u1; simp [Lit.wf, IntKind.min, IntKind.max, IntKind.signed, IntKind.bits] at this; omega
  obtain ⟨b, rfl⟩ := Int.eq_ofNat_of_zero_le hb1.1
  obtain ⟨b2, e4, u2⟩ := g2'.int Try.underlying39
  simp only [List.cons.injEq, and_true] at e4
  subst e4
  have hb2 : 0 ≤ b2 ∧ b2 < 65536 := by have := u2; simp [Lit.wf, IntKind.min, IntKind.max, IntKind.signed, IntKind.bits] at this; omega
  obtain ⟨c, rfl⟩ := Int.eq_ofNat_of_zero_le hb2.1
  clear hA0 hval0
  have hc : Calls Try.prog 6 #[.agg #[vf, vg, vl, .int .i64 p.main, .int .u16 a, .int .u16 b, .int .u16 c]] W fun e w' => e = .returned (.bool true) ∧ Below W.heap.size W w' := by
    cases hv : validB p with
    | false => exact loperand_no 0 vf vg vl p a b c W hp hv
    | true => exact loperand_yes 0 vf vg vl p a b c W hp hwf hv (by omega) (by omega) (by omega)
  refine hc.mono fun e W' ⟨he, bel⟩ => ?_
  subst he
  exact ⟨_, rfl, _, _, _, [], _, [], hW', trodAll_mk1 (shut_bool Try.underlying4 _), (trodAll_cons_mk (Below.trod laidOut (by kernel_rfl) (of_decide_eq_true (by kernel_rfl)) k0 bel lt0) trodAll_mk0), rfl, bel.frame _, fun h => by cases h⟩

theorem over : Rows.codeOperandRow.holds Try.pinned (OpenSpec.ofChange Rows.codeOperandSpec) :=
  OpenClaim.holds_of_wide 6 Try.f6 rfl rfl rfl rfl rfl rfl rfl ⟨rfl, rfl, rfl, rfl, rfl⟩ rfl rfl rfl rfl rfl (by kernel_rfl) Try.func6 (by kernel_rfl)
    (of_decide_eq_true (by kernel_rfl)) (by unfold Func.isWrapper; rw [if_neg (of_decide_eq_false (by kernel_rfl))]; exact ⟨rfl, rfl⟩)
    (fun os started H enc _ => lifted os started H enc)

theorem proved : Rows.CodeOperandSaid := over
end Go.Proofs.Ytnifdjacgbdglaa.codeOperandDone
