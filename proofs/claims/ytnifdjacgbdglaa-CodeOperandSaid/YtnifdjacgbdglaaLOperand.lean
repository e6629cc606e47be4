/-
  The law CodeOperand, walked.
-/
import Derived.Test.YtnifdjacgbdglaaAwake9
import Derived.Test.YtnifdjacgbdglaaCopy
import Derived.Test.YtnifdjacgbdglaaPut
import Derived.Test.YtnifdjacgbdglaaVia
import Derived.Test.YtnifdjacgbdglaaUsesV
import Derived.IntWalk
namespace Go.Proofs.Ytnifdjacgbdglaa
set_option linter.unusedVariables false
set_option linter.unusedSimpArgs false
open Go.RowKit

theorem role_a (op : Int) (h0 : 0 < op ∧ op < 53) : roleN op 0 = 100 ∨ roleN op 0 = 114 ∨ roleN op 0 = 68 ∨ roleN op 0 = 82 ∨ roleN op 0 = 45 :=
  op_fin (P := fun op => roleN op 0 = 100 ∨ roleN op 0 = 114 ∨ roleN op 0 = 68 ∨ roleN op 0 = 82 ∨ roleN op 0 = 45) (by decide +kernel) op h0

/-- A program with a great operand A is not valid. -/
theorem great_a {p : Prg} (F K : Nat) (f : Fun) (x : Ins) (n : Int) (hF : F < p.funcs.length) (hK : K < f.code.length) (hr : f.regs ≤ 64) (hn : 5000 ≤ n) :
    validB { p with funcs := p.funcs.set F { f with code := f.code.set K { x with a := n } } } = false := by
  cases hv : validB { p with funcs := p.funcs.set F { f with code := f.code.set K { x with a := n } } } with
  | false => rfl
  | true =>
    exfalso
    have hf := fok_of_funcB (valid_func hv F (by simpa using hF))
    simp only at hf
    rw [nth_set_eq _ _ _ hF] at hf
    have hi := hf.ins K (by simpa using hK)
    simp only at hi
    rw [nth_set_eq _ _ _ hK] at hi
    have hop := instr_op hi
    simp only [instrB, Bool.and_eq_true] at hi
    have ho := hi.2.2.1
    rcases role_a x.op hop with h | h | h | h | h <;> rw [h] at ho <;> simp [operandB] at ho <;> omega

theorem idx_mod (n m : Nat) (hn : n < 65536) : (wrap64 (n : Int)).tmod (m : Int) = ((n % m : Nat) : Int) := by
  have e : wrap64 (n : Int) = (n : Int) := by unfold wrap64; omega
  rw [e]
  exact (Int.tmod_eq_emod_of_nonneg (by omega)).trans (by simp)

theorem idx_mod2 (n m : Nat) (hn : n < 65536) : (IntKind.i64.wrap (n : Int)).tmod (m : Int) = ((n % m : Nat) : Int) := by
  rw [IntWalk.i64_in _ (by omega)]
  exact (Int.tmod_eq_emod_of_nonneg (by omega)).trans (by simp)

noncomputable def planLO4 : Plan := mkPlan (regionOf Try.f6 4) [(11, .new), (12, .new)] []
noncomputable def planLO5 : Plan := mkPlan (regionOf Try.f6 5) [(15, .fin)] []

set_option maxRecDepth 100000 in
set_option maxHeartbeats 4000000 in
theorem loperand_no (lo : Nat) (vf vg vl : Value) (p : Prg) (a b c : Nat) (w : World) (hp : ProgAt lo w vf vg vl p) (hv : validB p = false) :
    Calls Try.prog 6 #[.agg #[vf, vg, vl, .int .i64 p.main, .int .u16 a, .int .u16 b, .int .u16 c]] w fun e w' => e = .returned (.bool true) ∧ Below w.heap.size w w' := by
  have HV := hid hv
  clear hv
  go_enter Try.func6, Try.ntmps6
  go_wp2_with fail
  generalize hW : World.alloc _ _ = W
  have hbW : Below w.heap.size w W := by rw [← hW]; exact (Below.refl _ _).alloc (Nat.le_refl _) _
  have R1 := hid (show BoxAt W w.heap.size 41 [vf, vg, vl, .int .i64 p.main, .int .u16 a, .int .u16 b, .int .u16 c] by rw [← hW]; exact BoxAt.new _ _ _ _ _ rfl rfl)
  have HBW := hid hbW
  have HP := hid hp
  clear hW hbW hp
  refine (awake9_calls W).mono ?_
  rintro e w1 ⟨rfl, hb1⟩
  have HB1 := hid hb1
  have hr := R1.out.below hb1
  have c0 := hr.cell 0 _ rfl
  have c1 := hr.cell 1 _ rfl
  have c2 := hr.cell 2 _ rfl
  have c3 := hr.cell 3 _ rfl
  have s1 := hr.lt
  clear hb1 hr
  go_wp2_with fail
  refine (valid_calls lo vf vg vl p w1 (HP.out.below (bvia HBW.out HB1.out))).mono ?_
  rintro e w2 ⟨rfl, hb2⟩
  rw [HV.out]
  have HB2 := hid (bvia HB1.out hb2)
  clear hb2 c0 c1 c2 c3 s1
  go_wp2_with fail
  refine (awake9_calls w2).mono ?_
  rintro e w3 ⟨rfl, hb3⟩
  have HB3 := hid (bvia HB2.out hb3)
  clear hb3
  go_wp2_with fail
  go_ret
  exact ⟨rfl, bvia HBW.out HB3.out⟩

set_option maxRecDepth 100000 in
set_option maxHeartbeats 8000000 in
theorem loperand_yes (lo : Nat) (vf vg vl : Value) (p : Prg) (a b c : Nat) (w : World) (hp : ProgAt lo w vf vg vl p) (hwf : PrgWf p) (hv : validB p = true) (ha : a < 65536) (hb : b < 65536) (hc : c < 65536) :
    Calls Try.prog 6 #[.agg #[vf, vg, vl, .int .i64 p.main, .int .u16 a, .int .u16 b, .int .u16 c]] w fun e w' => e = .returned (.bool true) ∧ Below w.heap.size w w' := by
  have HV := hid hv
  have HP := hid hp
  have HWF := hid hwf
  obtain ⟨hl0, hl1⟩ := valid_pos hv
  have hF : a % p.funcs.length < p.funcs.length := Nat.mod_lt _ hl0
  have hfok := fok_of_funcB (valid_func hv _ hF)
  have hregs := (fun_regs hv _ hF).2.2
  have hidx := idx_mod a p.funcs.length ha
  have hidx3 := idx_mod2 a p.funcs.length ha
  have hidx2 : (a : Int) % (p.funcs.length : Int) = ((a % p.funcs.length : Nat) : Int) := by simp
  obtain ⟨F, hFe⟩ : ∃ F, a % p.funcs.length = F := ⟨_, rfl⟩
  rw [hFe] at hF hfok hregs hidx hidx2 hidx3
  obtain ⟨f, hfe⟩ : ∃ f, nth p.funcs F = f := ⟨_, rfl⟩
  rw [hfe] at hfok hregs
  have hcl0 := hfok.pos
  have hcl1 := hfok.le
  have hK : b % f.code.length < f.code.length := Nat.mod_lt _ hcl0
  have hidy := idx_mod b f.code.length hb
  have hidy3 := idx_mod2 b f.code.length hb
  have hidy2 : (b : Int) % (f.code.length : Int) = ((b % f.code.length : Nat) : Int) := by simp
  obtain ⟨K, hKe⟩ : ∃ K, b % f.code.length = K := ⟨_, rfl⟩
  rw [hKe] at hK hidy hidy2 hidy3
  have hz0 : ((p.funcs.length : Int) == 0) = false := beq_eq_false_iff_ne.2 (by omega)
  have hz1 : ((f.code.length : Int) == 0) = false := beq_eq_false_iff_ne.2 (by omega)
  have hF2 : (F : Int) < p.funcs.length := Int.ofNat_lt.2 hF
  have hK2 : (K : Int) < f.code.length := Int.ofNat_lt.2 hK
  have HFE := hid hfe
  have HI := hid (And.intro hidx (And.intro hidx2 (And.intro hidy (And.intro hidy2 (And.intro hz0 (And.intro hz1 (And.intro hidx3 (And.intro hidy3 (And.intro (show ¬ p.funcs = [] from fun h => by rw [h] at hl0; simp at hl0) (show ¬ f.code = [] from fun h => by rw [h] at hcl0; simp at hcl0))))))))))
  clear hfok hFe hKe hp hwf hv hidx hidx2 hidy hidy2 hz0 hz1 hfe hidx3 hidy3
  go_enter Try.func6, Try.ntmps6
  go_wp2_with fail
  generalize hW : World.alloc _ _ = W
  have hbW : Below w.heap.size w W := by rw [← hW]; exact (Below.refl _ _).alloc (Nat.le_refl _) _
  have R1 := hid (show BoxAt W w.heap.size 41 [vf, vg, vl, .int .i64 p.main, .int .u16 a, .int .u16 b, .int .u16 c] by rw [← hW]; exact BoxAt.new _ _ _ _ _ rfl rfl)
  have HBW := hid hbW
  clear hW hbW
  refine (awake9_calls W).mono ?_
  rintro e w1 ⟨rfl, hb1⟩
  have HB1 := hid hb1
  have hr := R1.out.below hb1
  have c0 := hr.cell 0 _ rfl
  have c1 := hr.cell 1 _ rfl
  have c2 := hr.cell 2 _ rfl
  have c3 := hr.cell 3 _ rfl
  have s1 := hr.lt
  clear hb1 hr
  go_wp2_with fail
  refine (valid_calls lo vf vg vl p w1 (HP.out.below (bvia HBW.out HB1.out))).mono ?_
  rintro e w2 ⟨rfl, hb2⟩
  rw [HV.out]
  have HB2 := hid (bvia HB1.out hb2)
  have hr := R1.out.below HB2.out
  clear hb2 c0 c1 c2 c3 s1
  have c0 := hr.cell 0 _ rfl
  have c1 := hr.cell 1 _ rfl
  have c2 := hr.cell 2 _ rfl
  have c3 := hr.cell 3 _ rfl
  have s1 := hr.lt
  clear hr
  go_wp2_with fail
  refine (copy_calls lo vf vg vl p w2 (HP.out.below (bvia HBW.out HB2.out)) HWF.out).mono ?_
  rintro e w3 ⟨uf, ug, ul, rfl, ho3, hb3⟩
  have HB3 := hid (bvia HB2.out hb3)
  obtain ⟨ss, hfs⟩ := ho3.funcs
  obtain ⟨rs, hls⟩ := ho3.lays
  obtain ⟨ga', gc', rfl⟩ := ho3.globs.anySlice
  obtain ⟨la', lc', rfl⟩ := hls.row.anySlice
  have HO := hid (And.intro hfs (And.intro ho3.globs hls))
  obtain ⟨fg, fcap, rfl, hfg1, hfg2⟩ := hfs.row.open (by rw [List.length_zip, hfs.len]; simpa using hl0)
  have hzl : (p.funcs.zip ss).length = p.funcs.length := by rw [List.length_zip, hfs.len]; simp
  rw [hzl] at HO
  obtain ⟨cg, ccap, hcs, hcg1, hcg2⟩ := (hfs.code F hF).open (by rw [HFE.out]; exact hcl0)
  rw [HFE.out] at hcs
  have HCS := hid hcs
  have hnz := nth_zip p.funcs ss F hF (by rw [hfs.len]; exact hF)
  have hSv : nth ss F = ⟨some ⟨cg, 0, none⟩, f.code.length, ccap⟩ := by
    unfold Slc.val at hcs
    obtain ⟨e1, e2, e3⟩ := Value.slice.inj hcs
    cases hq : nth ss F with | mk qa qn qc => rw [hq] at e1 e2 e3; simp only at e1 e2 e3; rw [e1, e2, e3]
  rw [hzl] at hfs ⊢
  have hat := fun k hk => (hfs.row.cellAt (i := F) (k := k) (by rw [hzl]; exact hF) hk)
  rw [hnz, HFE.out, hSv] at hat
  have HAT := hid (And.intro (hat 0 (by decide)) (And.intro (hat 1 (by decide)) (And.intro (hat 2 (by decide)) (hat 3 (by decide)))))
  clear hb3 ho3 hfs hls hcs hnz hat hSv c0 c1 c2 c3 s1
  go_wp2_with fail
  generalize hW4 : World.alloc _ _ = W4
  have hb4 : Below w3.heap.size w3 W4 := by rw [← hW4]; exact (Below.refl _ _).alloc (Nat.le_refl _) _
  have R4 := hid (show BoxAt W4 w3.heap.size 26 [.slice (some ⟨fg, 0, none⟩) p.funcs.length fcap, .slice ga' p.globals.length gc', .slice la' rs.length lc', .int .i64 p.main] by rw [← hW4]; exact BoxAt.new _ _ _ _ _ rfl rfl)
  have HB4 := hid (bvia HB3.out hb4)
  have HO4 := hid (And.intro (HO.out.1.fresh (Only.below hb4 _)) (And.intro (OwnE.fresh HO.out.2.1 (Only.below hb4 _)) (HO.out.2.2.fresh (Only.below hb4 _))))
  have hr := R1.out.below HB4.out
  have c4 := hr.cell 4 _ rfl
  have c5 := hr.cell 5 _ rfl
  have c6 := hr.cell 6 _ rfl
  have s1 := hr.lt
  have q0 := R4.out.cell 0 _ rfl
  have q1 := R4.out.cell 1 _ rfl
  have q2 := R4.out.cell 2 _ rfl
  have q3 := R4.out.cell 3 _ rfl
  have q7 := R4.out.lt
  have d0 : W4.cell? ⟨fg, F * 4, none⟩ = some (.string f.name) := (hb4.cell (p := ⟨fg, F * 4, none⟩) hfg2).trans HAT.out.1
  have d1 : W4.cell? ⟨fg, F * 4 + 1, none⟩ = some (.int .i64 f.params) := (hb4.cell (p := ⟨fg, F * 4 + 1, none⟩) hfg2).trans HAT.out.2.1
  have d2 : W4.cell? ⟨fg, F * 4 + 2, none⟩ = some (.int .i64 f.regs) := (hb4.cell (p := ⟨fg, F * 4 + 2, none⟩) hfg2).trans HAT.out.2.2.1
  have d3 : W4.cell? ⟨fg, F * 4 + 3, none⟩ = some (.slice (some ⟨cg, 0, none⟩) f.code.length ccap) := (hb4.cell (p := ⟨fg, F * 4 + 3, none⟩) hfg2).trans HAT.out.2.2.2
  have z2 : fg < W4.heap.size := by have := hb4.size; omega
  have z3 : cg < W4.heap.size := by have := hb4.size; omega
  have HW24 : w2.heap.size ≤ W4.heap.size := by have := hb4.size; omega
  obtain ⟨hidx, hidx2, hidy, hidy2, hz0, hz1, hidx3, hidy3, hne0, hne1⟩ := HI.out
  clear hW4 hb4 hr
  refine Plan.wp_chain planLO4 W4.heap.size (by kernel_rfl) rfl (by kernel_rfl) (by kernel_rfl) ?_
  repeat (first | (apply Plan.chain_skip rfl rfl; simp only [Act.put, List.setIfInBounds_toArray, List.set_cons_zero, List.set_cons_succ]) | (apply Plan.chain_det rfl rfl; (· intro w' hb; obtain ⟨hcl, hfz⟩ := bcellB hb; go_simp; rfl); simp only [Act.put, List.setIfInBounds_toArray, List.set_cons_zero, List.set_cons_succ]))
  refine Plan.chain_run (.pointer (some ⟨W4.heap.size, 0, none⟩)) (W4.drew.alloc (.cells #[.string ⟨#[]⟩, .int .i64 0, .int .i64 0, .slice none 0 0] 37)) rfl rfl rfl (by go_simp) ((Below.refl _ _).drew.alloc (Nat.le_refl _) _) ?_
  simp only [Act.put, List.setIfInBounds_toArray, List.set_cons_zero, List.set_cons_succ]
  repeat (first | (apply Plan.chain_skip rfl rfl; simp only [Act.put, List.setIfInBounds_toArray, List.set_cons_zero, List.set_cons_succ]) | (apply Plan.chain_det rfl rfl; (· intro w' hb; obtain ⟨hcl, hfz⟩ := bcellB hb; go_simp; rfl); simp only [Act.put, List.setIfInBounds_toArray, List.set_cons_zero, List.set_cons_succ]))
  refine Plan.chain_mem rfl rfl rfl (fun KK hKK => ?_)
  unfold Oper.wp
  go_simp
  refine hKK undef _ (((Below.refl _ _).alloc (Nat.le_refl _) _).drew) ?_
  refine Plan.chain_nil ?_
  generalize hW5 : World.drew _ = W5
  have hb5 : Below W4.heap.size W4 W5 := by rw [← hW5]; exact ((Below.refl _ _).alloc (Nat.le_refl _) _).drew
  have R5 := show BoxAt W5 W4.heap.size 37 [.string f.name, .int .i64 f.params, .int .i64 f.regs, .slice (some ⟨cg, 0, none⟩) f.code.length ccap] by rw [← hW5]; exact BoxAt.new _ _ _ _ _ rfl rfl
  have HB5 := hid (bvia HB4.out hb5)
  have R45 := hid (R4.out.below hb5)
  have hofs := HO4.out.1.fresh (Only.below hb5 _)
  have HO5 := hid (And.intro hofs (And.intro (OwnE.fresh HO4.out.2.1 (Only.below hb5 _)) (HO4.out.2.2.fresh (Only.below hb5 _))))
  have hcode := hofs.code F hF
  rw [HFE.out, HCS.out] at hcode
  have y1 : W5.cell? ⟨cg, K * 5 + 1, none⟩ = some (.int .i64 (nth f.code K).a) := hcode.cellAt K 1 hK (by decide)
  have y7 := hcode.frozenAt (K * 5 + 1)
  have hr := R1.out.below HB5.out
  clear c4 c5 c6 s1 q0 q1 q2 q3 q7 d0 d1 d2 d3
  have c5 := hr.cell 5 _ rfl
  have c6 := hr.cell 6 _ rfl
  have s1 := hr.lt
  have q3 := R5.cell 3 _ rfl
  have q7 := R5.lt
  have z4 : cg < W5.heap.size := by have := hb5.size; omega
  have hwc : IntKind.i64.wrap (c : Int) = (c : Int) := IntWalk.i64_in _ (by omega)
  have hwd : IntKind.i64.wrap (5000 + (c : Int)) = 5000 + (c : Int) := IntWalk.i64_in _ (by omega)
  have HSZ5 := hid hb5.size
  clear hW5 hb5 hr R5 hofs hcode
  go_wp2_with fail
  refine Plan.wp_chain planLO5 W5.heap.size (by kernel_rfl) rfl (by kernel_rfl) (by kernel_rfl) ?_
  repeat (first | (apply Plan.chain_skip rfl rfl; simp only [Act.put, List.setIfInBounds_toArray, List.set_cons_zero, List.set_cons_succ]) | (apply Plan.chain_det rfl rfl; (· intro w' hb; obtain ⟨hcl, hfz⟩ := bcellB hb; go_simp; rfl); simp only [Act.put, List.setIfInBounds_toArray, List.set_cons_zero, List.set_cons_succ]))
  refine Plan.chain_fin rfl rfl ?_
  unfold Oper.wp
  go_simp
  obtain ⟨x0, hx0⟩ : ∃ x0, nth (nth p.funcs F).code K = x0 := ⟨_, rfl⟩
  obtain ⟨u, hu⟩ : ∃ u : Value, Value.int .i64 (5000 + (c : Int)) = u := ⟨_, rfl⟩
  have hput := HO5.out.1.put F cg f.code.length ccap K 1 u { x0 with a := 5000 + (c : Int) } hF HCS.out (by rw [HFE.out]; exact hK) (by decide) (by rw [hx0, ← hu]; rfl)
  have hcode2 := HO5.out.1.code F hF
  rw [HCS.out] at hcode2
  have hS : Only (some cg) W5 (W5.setCell ⟨cg, K * 5 + 1, none⟩ u) := Only.store W5 cg (K * 5 + 1) u
  have hg2 : OwnE globE w2.heap.size 51 _ _ _ := HO5.out.2.1.only hS (HO5.out.2.1.neRow hcode2 (by decide))
  have hl2 := HO5.out.2.2.only hS (HO5.out.2.2.row.neRow hcode2 (by decide)) (fun i hi => (HO5.out.2.2.each i hi).neRow hcode2 (by decide))
  have hbx6 := R45.out.other ⟨cg, K * 5 + 1, none⟩ u (by show w3.heap.size ≠ cg; omega)
  have hb6 : Below w2.heap.size W5 (W5.setCell ⟨cg, K * 5 + 1, none⟩ u) := (Below.refl _ _).setCell hcg1 _
  have hd : Below (W5.setCell ⟨cg, K * 5 + 1, none⟩ u).heap.size (W5.setCell ⟨cg, K * 5 + 1, none⟩ u) (W5.setCell ⟨cg, K * 5 + 1, none⟩ u).drew := (Below.refl _ _).drew
  have hlen : ∀ g ∈ p.funcs.set F { nth p.funcs F with code := (nth p.funcs F).code.set K { x0 with a := 5000 + (c : Int) } }, g.code.length ≤ 140737488355328 := by
    refine forall_nth fun i hi => ?_
    rw [List.length_set] at hi
    by_cases e : F = i
    · subst e
      rw [nth_set_eq _ _ _ hF]
      simp only [List.length_set]
      rw [HFE.out]; omega
    · rw [nth_set_ne _ _ _ _ e]
      have := (HWF.out.func _ (nth_mem _ _ hi)).code
      omega
  have hglo := HWF.out.globs
  have hlay := HWF.out.lays
  have hp6 : ProgAt w2.heap.size ((W5.setCell ⟨cg, K * 5 + 1, none⟩ u).drew) (.slice (some ⟨fg, 0, none⟩) p.funcs.length fcap) (.slice ga' p.globals.length gc') (.slice la' rs.length lc') { p with funcs := p.funcs.set F { nth p.funcs F with code := (nth p.funcs F).code.set K { x0 with a := 5000 + (c : Int) } } } :=
    ⟨(hput.fresh (Only.below hd _)).at (Nat.le_refl _) (by rw [List.length_set]; omega) hlen, (OwnE.fresh hg2 (Only.below hd _)).sl (Nat.le_refl _) (by omega), (hl2.fresh (Only.below hd _)).at (Nat.le_refl _) (by omega) (fun r hr => by have := (HWF.out.lay r hr).1; omega)⟩
  have HP6 := hid hp6
  have HBX6 := hid hbx6.drew
  have HGA := hid (great_a F K (nth p.funcs F) x0 (5000 + (c : Int)) hF (by rw [HFE.out]; exact hK) (by rw [HFE.out]; exact hregs) (by omega))
  have HBW6 := hid (show Below w.heap.size w (W5.setCell ⟨cg, K * 5 + 1, none⟩ u).drew by
    have h5 := bvia HBW.out HB5.out
    have h2 := (bvia HBW.out HB2.out).size
    exact (h5.trans (hb6.mono h2)).drew)
  clear hput hcode2 hS hg2 hl2 hbx6 hb6 hd hlen hglo hlay hp6
  rw [hu]
  generalize hW6 : World.drew _ = W6 at *
  clear hW6 y1 y7 c5 c6 s1 q3 q7
  have p0 := HBX6.out.cell 0 _ rfl
  have p1 := HBX6.out.cell 1 _ rfl
  have p2 := HBX6.out.cell 2 _ rfl
  have p3 := HBX6.out.cell 3 _ rfl
  have p7 := HBX6.out.lt
  go_wp2_with fail
  refine (cvalid_calls _ _ _ _ { p with funcs := p.funcs.set F { nth p.funcs F with code := (nth p.funcs F).code.set K { x0 with a := 5000 + (c : Int) } } } W6 HP6.out).mono ?_
  rintro e w7 ⟨rfl, hb7⟩
  rw [HGA.out]
  have HB7 := hid (bvia HBW6.out hb7)
  clear hb7 p0 p1 p2 p3 p7
  go_wp2_with fail
  go_ret
  exact ⟨rfl, HB7.out⟩

end Go.Proofs.Ytnifdjacgbdglaa
