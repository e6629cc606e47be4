/-
  The statement LatticeMonotone holds: the law returns true for every argument, which reads as before.
-/
import Derived.Test.YtnbffkcnhphdnaaRows
import Derived.WalkKit
import Derived.ProofKit
import Derived.OpenShut
import Derived.ShutString
import Derived.ChangeOld
import Derived.Below
import Derived.SizedLaws
import Derived.Test.YtnbffkcnhphdnaaZLMono42
import Derived.Test.YtnbffkcnhphdnaaZRd42
namespace Go.Proofs.Ytnbffkcnhphdnaa.latticeMonotoneDone
set_option linter.unusedVariables false
set_option linter.unusedSimpArgs false
open Go.ChangeShapes Go.WideShapes Go.ChangeAt Go.RowKit
open Go.ChangeMaps (open_string shut_string)

theorem own : ownKnob Try.prog.godebug = none := by kernel_rfl
theorem laidOut : laidOutB Try.prog = true := by kernel_rfl

set_option maxRecDepth 100000 in
theorem lifted (os : Os) (started : os.Started) (H : Type) (enc : TypeId × Value → H) :
    ReturnsInHanded {} Try.checked os 7 .any (Rows.latticeMonotoneSpec.pre6 enc Try.prog Try.f7 Rows.latticeMonotoneRow.domain false) (Rows.latticeMonotoneSpec.post enc Try.prog Try.f7 false true false false) := by
  refine returnsInHanded_of_change_sized (C := Try.checked) own started (by kernel_rfl) Try.func7
    (ChangeSpec.witness6 (enc := enc) (C := Try.checked) false ⟨#[], #[.agg #[.int .u8 0, .slice none 0 0, .slice none 0 0], .agg #[.int .i64 0, .int .i64 0, .slice none 0 0, .slice none 0 0], .slice none 0 0], []⟩ 8 (by kernel_rfl) (by kernel_rfl) (by kernel_rfl) (by kernel_rfl)) ?_
  intro W base args ds gs before hval0 hW hcnd hsz0 _
  have hval : ∀ (j : Nat) t v, Try.f7.params[j]? = some t → args[j]? = some v → Value.okWide Try.prog W .any base t v := hval0
  have hW' := hW
  obtain ⟨p, q, hA0, hV, rfl, hfz, hnd⟩ := hW
  have hA : DataW.TrodAll enc Try.prog W 0 (fun _ => true) true Try.f7.params.toList args.toList ds p := hA0
  rw [Try.params7] at hA hval
  obtain ⟨v0, vs0, d0, ds0, p0, q0, hargs, rfl, rfl, h0, r0⟩ := trodAll_cons hA
  obtain ⟨v1, vs1, d1, ds1, p1, q1, rfl, rfl, rfl, h1, r1⟩ := trodAll_cons r0
  obtain ⟨v2, vs2, d2, ds2, p2, q2, rfl, rfl, rfl, h2, r2⟩ := trodAll_cons r1
  obtain ⟨rfl, rfl, rfl⟩ := trodAll_nil r2
  obtain rfl : args = #[v0, v1, v2] := by cases args; simp_all
  obtain ⟨rfl, rfl⟩ := trodVars_none hV
  have hsz : (DataW.weightsEach Try.prog (Try.f7.params.toList ++ Rows.latticeMonotoneSpec.plain.varTypes Try.prog) ([d0, d1, d2] ++ [])).all (· ≤ reachBytes) = true := hsz0
  rw [Try.params7] at hsz
  have k0 := h0
  have lt0 : ∀ x ∈ p0, x.block < W.heap.size := by obtain ⟨m, hm⟩ := k0; exact DataW.trod_lt m _ _ _ hm
  obtain ⟨cs0, rfl, hcs0⟩ := okWide_struct Try.underlying25 (hval 0 25 v0 rfl rfl)
  have hrd0 : Rd enc Try.prog W 25 cs0.toList := by
    obtain ⟨fuel, hf⟩ := h0
    refine ⟨fuel, _, hf, fun n hn => ?_⟩
    have := List.all_eq_true.1 hsz n (DataW.weights_mem_each (j := 0) (t := 25) rfl rfl n hn)
    simpa using this
  obtain ⟨N0, ve0, vs0', E0, S0, hcv0, hN0, hE0, hS0⟩ := rdGraph hrd0
  obtain rfl : cs0 = #[.int .u8 (N0 : Nat), ve0, vs0'] := by cases cs0; simp_all
  have k1 := h1
  have lt1 : ∀ x ∈ p1, x.block < W.heap.size := by obtain ⟨m, hm⟩ := k1; exact DataW.trod_lt m _ _ _ hm
  obtain ⟨cs1, rfl, hcs1⟩ := okWide_struct Try.underlying47 (hval 1 47 v1 rfl rfl)
  have hrd1 : Rd enc Try.prog W 47 cs1.toList := by
    obtain ⟨fuel, hf⟩ := h1
    refine ⟨fuel, _, hf, fun n hn => ?_⟩
    have := List.all_eq_true.1 hsz n (DataW.weights_mem_each (j := 1) (t := 47) rfl rfl n hn)
    simpa using this
  obtain ⟨x1, K1, G1, hcv1, hE1⟩ := rdEdge hrd1
  obtain rfl : cs1 = #[.int .i64 x1.src, .int .i64 x1.dst, K1.val, G1.val] := by cases cs1; simp_all
  have k2 := h2
  have lt2 : ∀ x ∈ p2, x.block < W.heap.size := by obtain ⟨m, hm⟩ := k2; exact DataW.trod_lt m _ _ _ hm
  obtain ⟨a2, n2, c2, rfl⟩ := okWide_slice Try.underlying34 (hval 2 34 v2 rfl rfl)
  have hrd2 : Rd enc Try.prog W 34 [.slice a2 n2 c2] := by
    obtain ⟨fuel, hf⟩ := h2
    refine ⟨fuel, _, hf, fun n hn => ?_⟩
    have := List.all_eq_true.1 hsz n (DataW.weights_mem_each (j := 2) (t := 34) rfl rfl n hn)
    simpa using this
  obtain ⟨l2, hl2, hk2⟩ := rdInts hrd2
  clear hA0 hval0
  have hc : Calls Try.prog 7 #[.agg #[.int .u8 (N0 : Nat), ve0, vs0'], .agg #[.int .i64 x1.src, .int .i64 x1.dst, K1.val, G1.val], .slice a2 n2 c2] W fun e w' => e = .returned (.bool true) ∧ Below W.heap.size W w' := lmono_calls 0 0 ve0 vs0' N0 E0 S0 0 0 x1 K1 G1 0 (.slice a2 n2 c2) l2 W hN0 hE0.1 hS0.1 hE1.1 hE1.2.1 hl2
  refine hc.mono fun e W' ⟨he, bel⟩ => ?_
  subst he
  exact ⟨_, rfl, _, _, _, [], _, [], hW', trodAll_mk1 (shut_bool Try.underlying4 _), (trodAll_cons_mk (Below.trod laidOut (by kernel_rfl) (of_decide_eq_true (by kernel_rfl)) k0 bel lt0) (trodAll_cons_mk (Below.trod laidOut (by kernel_rfl) (of_decide_eq_true (by kernel_rfl)) k1 bel lt1) (trodAll_cons_mk (Below.trod laidOut (by kernel_rfl) (of_decide_eq_true (by kernel_rfl)) k2 bel lt2) trodAll_mk0))), rfl, bel.frame _, fun h => by cases h⟩

theorem over : Rows.latticeMonotoneRow.holds Try.pinned (OpenSpec.ofChange Rows.latticeMonotoneSpec) :=
  OpenClaim.holds_of_wide 7 Try.f7 rfl rfl rfl rfl rfl rfl rfl ⟨rfl, rfl, rfl, rfl, rfl⟩ rfl rfl rfl rfl rfl (by kernel_rfl) Try.func7 (by kernel_rfl)
    (of_decide_eq_true (by kernel_rfl)) (by unfold Func.isWrapper; rw [if_neg (of_decide_eq_false (by kernel_rfl))]; exact ⟨rfl, rfl⟩)
    (fun os started H enc _ => lifted os started H enc)

theorem proved : Rows.LatticeMonotoneSaid := over
end Go.Proofs.Ytnbffkcnhphdnaa.latticeMonotoneDone
