/-
  The statement FlowPartial holds: the law returns true for every argument, which reads as before.
-/
import Derived.Test.YtiaajdckhedofaaRows
import Derived.Test.YtiaajdckhedofaaOpen
import Derived.Test.YtiaajdckhedofaaLPartial
import Derived.WalkKit
import Derived.ProofKit
import Derived.OpenShut
import Derived.ShutString
import Derived.ChangeOld
import Derived.Below
import Derived.SizedLaws
namespace Go.Proofs.Ytiaajdckhedofaa.flowPartialDone
set_option linter.unusedVariables false
set_option linter.unusedSimpArgs false
open Go.ChangeShapes Go.WideShapes Go.ChangeAt Go.RowKit
open Go.ChangeMaps (open_string shut_string)

theorem own : ownKnob Try.prog.godebug = none := by kernel_rfl
theorem laidOut : laidOutB Try.prog = true := by kernel_rfl
theorem cellsT : Try.prog.cellsOf 51 = 8 := by kernel_rfl
theorem cellsU8 : Try.prog.cellsOf 5 = 1 := by kernel_rfl

theorem match8' {α : Type} {l : List α} (h : l.length = 8) : ∃ z0 z1 z2 z3 z4 z5 z6 z7, l = [z0, z1, z2, z3, z4, z5, z6, z7] := by
  match l, h with
  | [z0, z1, z2, z3, z4, z5, z6, z7], _ => exact ⟨z0, z1, z2, z3, z4, z5, z6, z7, rfl⟩

set_option maxRecDepth 100000 in
theorem lifted (os : Os) (started : os.Started) (H : Type) (enc : TypeId × Value → H) :
    ReturnsInHanded {} Try.checked os 8 .any (Rows.flowPartialSpec.pre6 enc Try.prog Try.f8 Rows.flowPartialRow.domain false) (Rows.flowPartialSpec.post enc Try.prog Try.f8 false true false false) := by
  refine returnsInHanded_of_change_sized (C := Try.checked) own started (by kernel_rfl) Try.func8
    (ChangeSpec.witness6 (enc := enc) (C := Try.checked) false ⟨#[], #[.agg #[.slice none 0 0, .slice none 0 0, .slice none 0 0, .int .i64 0, .int .u8 0, .int .u8 0, .int .u8 0, .int .u8 0]], []⟩ 8 (by kernel_rfl) (by kernel_rfl) (by kernel_rfl) (by kernel_rfl)) ?_
  intro W base args ds gs before hval0 hW hcnd hsz0 _
  have hval : ∀ (j : Nat) t v, Try.f8.params[j]? = some t → args[j]? = some v → Value.okWide Try.prog W .any base t v := hval0
  have hW' := hW
  obtain ⟨p, q, hA0, hV, rfl, hfz, hnd⟩ := hW
  have hA : DataW.TrodAll enc Try.prog W 0 (fun _ => true) true Try.f8.params.toList args.toList ds p := hA0
  rw [Try.params8] at hA hval
  obtain ⟨v0, vs0, d0, ds0, p0, q0, hargs, rfl, rfl, h0, r0⟩ := trodAll_cons hA
  obtain ⟨rfl, rfl, rfl⟩ := trodAll_nil r0
  obtain rfl : args = #[v0] := by cases args; simp_all
  obtain ⟨rfl, rfl⟩ := trodVars_none hV
  have k0 := h0
  have lt0 : ∀ x ∈ p0, x.block < W.heap.size := by obtain ⟨m, hm⟩ := k0; exact DataW.trod_lt m _ _ _ hm
  have hsz : (DataW.weightsEach Try.prog (Try.f8.params.toList ++ Rows.flowPartialSpec.plain.varTypes Try.prog) ([d0] ++ [])).all (· ≤ reachBytes) = true := hsz0
  rw [Try.params8] at hsz
  obtain ⟨cs, rfl, hcs⟩ := okWide_struct Try.underlying51 (hval 0 51 v0 rfl rfl)
  have hrd : Rd enc Try.prog W 51 cs.toList := by
    obtain ⟨fuel, hf⟩ := h0
    refine ⟨fuel, _, hf, fun n hn => ?_⟩
    have := List.all_eq_true.1 hsz n (DataW.weights_mem_each (j := 0) (t := 51) rfl rfl n hn)
    simpa using this
  obtain ⟨cl⟩ := cs
  obtain ⟨hl, hf⟩ := hrd.struct Try.underlying51
  rw [cellsT] at hl
  obtain ⟨vf, vg, vl, x3, x4, y0, y1, y2, rfl⟩ := match8' hl
  have f0 := hf 0 _ rfl
  have f1 := hf 1 _ rfl
  have g0 := hf 2 _ rfl
  have g1 := hf 3 _ rfl
  have g2 := hf 4 _ rfl
  have f0' : Rd enc Try.prog W 26 [vf, vg, vl, x3] := by have := f0; simpa [cellsPrg] using this
  have f1' : Rd enc Try.prog W 5 [x4] := by have := f1; simpa [cellsU8] using this
  have g0' : Rd enc Try.prog W 5 [y0] := by have := g0; simpa [cellsU8] using this
  have g1' : Rd enc Try.prog W 5 [y1] := by have := g1; simpa [cellsU8] using this
  have g2' : Rd enc Try.prog W 5 [y2] := by have := g2; simpa [cellsU8] using this
  obtain ⟨vf', vg', vl', p, e0, hp⟩ := rdPrg f0'
  simp only [List.cons.injEq, and_true] at e0
  obtain ⟨rfl, rfl, rfl, rfl⟩ := e0
  obtain ⟨a1, e1, w1⟩ := f1'.int Try.underlying5
  simp only [List.cons.injEq, and_true] at e1
  subst e1
  have hb := bounds_u8 w1
  obtain ⟨n, rfl⟩ := Int.eq_ofNat_of_zero_le hb.1
  obtain ⟨b0, e2, u0⟩ := g0'.int Try.underlying5
  simp only [List.cons.injEq, and_true] at e2
  subst e2
  have hb0 := bounds_u8 u0
  obtain ⟨a, rfl⟩ := Int.eq_ofNat_of_zero_le hb0.1
  obtain ⟨b1, e3, u1⟩ := g1'.int Try.underlying5
  simp only [List.cons.injEq, and_true] at e3
  subst e3
  have hb1 := bounds_u8 u1
  obtain ⟨b, rfl⟩ := Int.eq_ofNat_of_zero_le hb1.1
  obtain ⟨b2, e4, u2⟩ := g2'.int Try.underlying5
  simp only [List.cons.injEq, and_true] at e4
  subst e4
  have hb2 := bounds_u8 u2
  obtain ⟨c, rfl⟩ := Int.eq_ofNat_of_zero_le hb2.1
  clear hA0 hval0
  have hc : Calls Try.prog 8 #[.agg #[vf, vg, vl, .int .i64 p.main, .int .u8 n, .int .u8 a, .int .u8 b, .int .u8 c]] W fun e w' => e = .returned (.bool true) ∧ Below W.heap.size W w' := by
    cases hv : validB p with
    | false => exact partial_no 0 vf vg vl p n a b c W hp hv
    | true => exact partial_yes 0 vf vg vl p n a b c W hp hv (by omega) (by omega) (by omega) (by omega)
  refine hc.mono fun e W' ⟨he, bel⟩ => ?_
  subst he
  exact ⟨_, rfl, _, _, _, [], _, [], hW', trodAll_mk1 (shut_bool Try.underlying4 _), (trodAll_cons_mk (Below.trod laidOut (by kernel_rfl) (of_decide_eq_true (by kernel_rfl)) k0 bel lt0) trodAll_mk0), rfl, bel.frame _, fun h => by cases h⟩

theorem over : Rows.flowPartialRow.holds Try.pinned (OpenSpec.ofChange Rows.flowPartialSpec) :=
  OpenClaim.holds_of_wide 8 Try.f8 rfl rfl rfl rfl rfl rfl rfl ⟨rfl, rfl, rfl, rfl, rfl⟩ rfl rfl rfl rfl rfl (by kernel_rfl) Try.func8 (by kernel_rfl)
    (of_decide_eq_true (by kernel_rfl)) (by unfold Func.isWrapper; rw [if_neg (of_decide_eq_false (by kernel_rfl))]; exact ⟨rfl, rfl⟩)
    (fun os started H enc _ => lifted os started H enc)

theorem proved : Rows.FlowPartialSaid := over
end Go.Proofs.Ytiaajdckhedofaa.flowPartialDone
