/-
  Uses and Defs of a valid program, at any index: the program's and the document's answers.
-/
import Derived.Test.YteiohnfmlabelaaGreatZRDefs
namespace Go.Proofs.YteiohnfmlabelaaGreat
set_option linter.unusedVariables false
set_option linter.unusedSimpArgs false
open Go.RowKit

theorem roles_out (op : Int) (h : ¬ (0 < op ∧ op < 53)) : roles op = ⟨#[]⟩ := by
  unfold roles
  repeat rw [if_neg (by omega)]
theorem instr_op {p : Prg} {f : Fun} {x : Ins} (h : instrB p f x = true) : 0 < x.op ∧ x.op < 53 := by
  rcases Classical.em (0 < x.op ∧ x.op < 53) with h1 | h1
  · exact h1
  · simp only [instrB, Bool.and_eq_true] at h
    have h2 := h.1
    rw [roles_out x.op h1] at h2
    simp at h2

theorem fun_regs {p : Prg} (hv : validB p = true) (i : Nat) (hi : i < p.funcs.length) : 0 ≤ (nth p.funcs i).params ∧ (nth p.funcs i).params ≤ (nth p.funcs i).regs ∧ (nth p.funcs i).regs ≤ 64 := by
  have h := valid_func hv i hi
  simp only [funcB, headB, Bool.and_eq_true, decide_eq_true_eq] at h
  omega

theorem ins_split {p : Prg} {fn pc : Int} {x : Ins} (hi : insAt p fn pc = some x) : ∃ F K : Nat, fn = F ∧ pc = K ∧ F < p.funcs.length ∧ K < (nth p.funcs F).code.length ∧ nth (nth p.funcs F).code K = x := by
  unfold insAt at hi
  split at hi
  · rename_i h1
    split at hi
    · rename_i h2
      refine ⟨fn.toNat, pc.toNat, by omega, by omega, by omega, by omega, by simpa using hi⟩
    · cases hi
  · cases hi

theorem more_of_valid {p : Prg} (hv : validB p = true) {fn pc : Int} {x : Ins} (hi : insAt p fn pc = some x) : (0 < x.op ∧ x.op < 53) ∧ (MoreU p fn pc x ∨ PlainU x) ∧ ∀ k, k < 3 → roleC x.op k = 100 → 0 ≤ opAt x k := by
  obtain ⟨F, K, rfl, rfl, hF, hK, hx⟩ := ins_split hi
  have hfok := fok_of_funcB (valid_func hv F hF)
  have hin := hfok.ins K hK
  rw [hx] at hin
  have hop := instr_op hin
  obtain ⟨g0, g1, g2⟩ := fun_regs hv F hF
  have hin' := hin
  simp only [instrB, Bool.and_eq_true] at hin'
  obtain ⟨_, _, o0, o1, o2, ot⟩ := hin'
  refine ⟨hop, ?_, ?_⟩
  · by_cases h38 : x.op = 38
    · left; left
      rw [h38] at o2
      have e2 : roleN 38 2 = 114 := rfl
      rw [e2] at o2
      simp [operandB] at o2
      exact ⟨h38, by omega, by omega⟩
    by_cases h25 : x.op = 25
    · left; right; left; exact h25
    by_cases h24 : x.op = 24
    · left; right; right; left
      rw [h24] at o0 o2
      have e0 : roleN 24 0 = 100 := rfl
      have e2 : roleN 24 2 = 110 := rfl
      rw [e0] at o0
      rw [e2] at o2
      simp [operandB] at o0 o2
      simp [instrTail, h24] at ot
      have hw : wrap64 (x.a + x.c) = x.a + x.c := by unfold wrap64; omega
      rw [hw] at ot
      exact ⟨h24, by omega, by omega, by omega⟩
    by_cases hc : x.op = 26 ∨ x.op = 28 ∨ x.op = 31
    · left; right; right; right; left
      have e1 : roleN x.op 1 = 102 := by rcases hc with h | h | h <;> (rw [h]; rfl)
      rw [e1] at o1
      simp [operandB] at o1
      obtain ⟨b0, b1, c0, c1⟩ := o1
      have hb : x.b.toNat < p.funcs.length := by omega
      obtain ⟨p0, p1, p2⟩ := fun_regs hv x.b.toNat hb
      have hw : wrap64 ((nth p.funcs F).regs - (nth p.funcs x.b.toNat).params) = (nth p.funcs F).regs - (nth p.funcs x.b.toNat).params := by unfold wrap64; omega
      rw [hw] at c1
      exact ⟨hc, b0, b1, c0, by omega, p0, by omega⟩
    by_cases h50 : x.op = 50
    · left; right; right; right; right
      have hs := hfok.selEnd K hK (by rw [hx]; exact h50)
      rw [hx] at hs
      have hl := hfok.le
      refine ⟨h50, by omega, by omega, by omega, ?_, ?_, hs.1, hs.2.1, ?_⟩ <;> rw [Int.toNat_natCast] <;> omega
    · right
      exact ⟨h38, h25, h24, fun h => hc (.inl h), fun h => hc (.inr (.inl h)), fun h => hc (.inr (.inr h)), h50⟩
  · have hd := role_dst x.op hop
    intro k hk hr
    rcases (show k = 0 ∨ k = 1 ∨ k = 2 by omega) with rfl | rfl | rfl
    · have e := (hd 0).1.2 hr
      simp only [Fin.val_zero] at e
      rw [e] at o0
      simp [operandB] at o0
      exact o0.1
    · have e := (hd 1).1.2 hr
      simp only [Fin.val_one] at e
      rw [e] at o1
      simp [operandB] at o1
      exact o1.1
    · have e := (hd 2).1.2 hr
      simp only [Fin.val_two] at e
      rw [e] at o2
      simp [operandB] at o2
      exact o2.1

theorem plain_uses {p : Prg} {fn pc : Int} {x : Ins} (h : PlainU x) : extraU p fn pc x = [] := by
  obtain ⟨h1, h2, h3, h4, h5, h6, h7⟩ := h
  simp [extraU, *]

/-- package code's Uses. -/
theorem uses_calls (lo : Nat) (vf vg vl : Value) (p : Prg) (fn pc : Int) (w : World) (hp : ProgAt lo w vf vg vl p) (hv : validB p = true) :
    Calls Tryz.prog 80 #[.agg #[vf, vg, vl, .int .i64 p.main], .int .i64 fn, .int .i64 pc] w fun e w' => ∃ v', e = .returned v' ∧ IntsAt w.heap.size w' v' (usesC p fn pc) ∧ Below w.heap.size w w' := by
  cases hi : insAt p fn pc with
  | none =>
    have := cuses_none lo vf vg vl p fn pc w hp hi
    rw [show usesP p fn pc = usesC p fn pc by unfold usesP usesC; rw [hi]] at this
    exact this
  | some x =>
    obtain ⟨hop, hm, _⟩ := more_of_valid hv hi
    by_cases h51 : x.op = 51
    · have := cuses_bad lo vf vg vl p fn pc x w hp hi (by omega)
      rw [show usesP p fn pc = usesC p fn pc by unfold usesP usesC; rw [hi]; simp [h51]] at this
      exact this
    · have hu : usesC p fn pc = setL (rawU x 3 ++ extraU p fn pc x) := by unfold usesC; rw [hi]; simp only; rw [if_pos ⟨hop.1, hop.2, h51⟩]
      rcases hm with hm | hm
      · rw [hu]
        exact cuses_more lo vf vg vl p fn pc x w hp hi hop (beq_eq_false_iff_ne.2 h51) hm
      · obtain ⟨h1, h2, h3, h4, h5, h6, h7⟩ := id hm
        have := cuses_some lo vf vg vl p fn pc x w hp hi hop (beq_eq_false_iff_ne.2 h51) ⟨beq_eq_false_iff_ne.2 h1, beq_eq_false_iff_ne.2 h2, beq_eq_false_iff_ne.2 h3, beq_eq_false_iff_ne.2 h4, beq_eq_false_iff_ne.2 h5, beq_eq_false_iff_ne.2 h6, beq_eq_false_iff_ne.2 h7⟩
        rw [show usesP p fn pc = usesC p fn pc by rw [hu, plain_uses hm, List.append_nil]; unfold usesP; rw [hi]; simp only; rw [if_pos ⟨hop.1, hop.2, h51⟩]] at this
        exact this

set_option maxRecDepth 100000 in
set_option maxHeartbeats 16000000 in
theorem ruses_case (lo : Nat) (vf vg vl : Value) (p : Prg) (fn pc : Int) (x : Ins) (w : World) (hp : ProgAt lo w vf vg vl p) (hi : insAt p fn pc = some x) (h51' : x.op = 51) :
    Calls Tryz.prog 56 #[.agg #[vf, vg, vl, .int .i64 p.main], .int .i64 fn, .int .i64 pc] w fun e w' => ∃ v', e = .returned v' ∧ IntsAt w.heap.size w' v' [] ∧ Below w.heap.size w w' := by
  have HP := hid hp
  have h51 : (x.op == 51) = true := beq_iff_eq.2 h51'
  have hop : 0 < x.op ∧ x.op < 53 := by omega
  obtain ⟨fa, fc, fb, fo, S, rfl, fp, f0, f1, f2, f3, fcode, fbl, _, _, hnf⟩ := hp.funcs.open
  obtain ⟨ga, gc, gb, go, rfl, hz2⟩ := hp.globs.open
  obtain ⟨la, lc, lb, lo', LS, rfl, hz3⟩ := hp.lays.open
  clear hz2 hz3 hp
  have hin : ∃ F K : Nat, fn = F ∧ pc = K ∧ F < p.funcs.length ∧ K < (nth p.funcs F).code.length ∧ nth (nth p.funcs F).code K = x := by
    unfold insAt at hi
    split at hi
    · rename_i h1
      split at hi
      · rename_i h2
        refine ⟨fn.toNat, pc.toNat, by omega, by omega, by omega, by omega, by simpa using hi⟩
      · cases hi
    · cases hi
  obtain ⟨F, K, rfl, rfl, hF, hK, hx⟩ := hin
  have hF2 : (F : Int) < p.funcs.length := by omega
  have hK2 : (K : Int) < (nth p.funcs F).code.length := by omega
  have tF : decide ((p.funcs.length : Int) ≤ F) = false := by simp; omega
  have tK : decide (((nth p.funcs F).code.length : Int) ≤ K) = false := by simp; omega
  have e1 := fp (by omega)
  subst e1
  have z1 := fbl (by omega)
  have d0 := f0 F hF
  have d1 := f1 F hF
  have d2 := f2 F hF
  have d3 := f3 F hF
  have hcode := fcode F hF
  obtain ⟨ca', cc', cb, co, hce, cp, c0, c1, c2, c3, c4, cbl, _, _, _, hcn⟩ := hcode.open
  obtain ⟨ea, _, ec⟩ := Value.slice.inj hce
  subst ea ec
  have e2 := cp (by omega)
  rw [e2] at d3
  have z2 := cbl (by omega)
  have i0 := c0 K hK
  have i1 := c1 K hK
  have i2 := c2 K hK
  have i3 := c3 K hK
  have i4 := c4 K hK
  rw [hx] at i0 i1 i2 i3 i4
  have HPAR := hid f1
  have HCC := hid (And.intro c0 (And.intro c1 (And.intro c2 (And.intro c3 z2))))
  have hres := roles_shape x.op
  have hsz := roles_three x.op hop
  have hroles : ∃ r0 r1 r2 : UInt8, roles x.op = ⟨#[r0, r1, r2]⟩ := by
    rcases hres with h | ⟨r0, r1, r2, h, _⟩
    · rw [h] at hsz; simp at hsz
    · exact ⟨r0, r1, r2, h⟩
  obtain ⟨r0, r1, r2, hroles⟩ := hroles
  have hsrc := role_src x.op hop
  have q0 : roleN x.op 0 = (r0.toNat : Int) := by unfold roleN; rw [hroles]; rfl
  have q1 : roleN x.op 1 = (r1.toNat : Int) := by unfold roleN; rw [hroles]; rfl
  have q2 : roleN x.op 2 = (r2.toNat : Int) := by unfold roleN; rw [hroles]; rfl
  have s0 := hsrc 0
  have s1 := hsrc 1
  have s2 := hsrc 2
  simp only [Fin.val_zero, Fin.val_one, Fin.val_two, q0, q1, q2] at s0 s1 s2
  have HQ := hid (And.intro s0 (And.intro s1 s2))
  have HX := hid hx
  have HROLES := hid hroles
  clear h51'
  have Hz1 := hid z1
  clear s0 s1 s2 q0 q1 q2 hsrc hsz hres f0 f1 f2 f3 c0 c1 c2 c3 c4 fp fbl fcode cp cbl hce hi hx hroles hcode e2
  generalize (nth p.funcs F).name = fname at *
  generalize (nth p.funcs F).params = fpar at *
  generalize (nth p.funcs F).regs = fregs at *
  obtain ⟨C, hC⟩ : ∃ C, (nth p.funcs F).code = C := ⟨_, rfl⟩
  rw [hC] at hK hK2 tK d3 HCC HX
  have HC := hid hC
  clear hC
  go_enter Tryz.func56, Tryz.ntmps56
  go_wp2_with fail
  generalize hW : World.alloc _ _ = W
  have hbW : Below w.heap.size w W := by rw [← hW]; exact (((Below.refl _ _).alloc (Nat.le_refl _) _).alloc (by simp) _).alloc (by simp; omega) _
  have RP := hid (show RowAt W w.heap.size [.slice (some ⟨fb, fo, none⟩) p.funcs.length fc, .slice ga p.globals.length gc, .slice la p.layouts.length lc, .int .i64 p.main] by rw [← hW]; exact ((RowAt.new w _ _ _ _ rfl rfl).below ((Below.refl _ _).alloc (Nat.le_refl _) _)).below ((Below.refl _ _).alloc (Nat.le_refl _) _))
  have RF := hid (show RowAt W (w.heap.size + 1) [.string fname, .int .i64 fpar, .int .i64 fregs, .slice (some ⟨cb, co, none⟩) C.length (S F).c] by rw [← hW]; exact (RowAt.new _ _ _ _ _ (by simp) rfl).below ((Below.refl _ _).alloc (Nat.le_refl _) _))
  have RX := hid (show RowAt W (w.heap.size + 1 + 1) [.int .i64 x.op, .int .i64 x.a, .int .i64 x.b, .int .i64 x.c, .int .i64 x.pos] by rw [← hW]; exact RowAt.new _ _ _ _ _ (by simp) rfl)
  have HBW := hid hbW
  clear hW hbW
  refine (roles_calls _ _).mono ?_
  rintro e w2 ⟨rfl, rfl⟩
  rw [HROLES.out]
  have d0 := RX.out.2 0 _ rfl
  have d7 := RX.out.1
  go_wp2_with fail
  go_ret
  exact ⟨_, rfl, SlE.nil _ _ _, HBW.out⟩

set_option maxRecDepth 100000 in
set_option maxHeartbeats 4000000 in
theorem ruses_noa (fa ga la : Option Addr) (fc gc lc : Nat) (p : Prg) (fn pc : Int) (w : World) (t0 : decide (fn < 0) = true) :
    Calls Tryz.prog 56 #[.agg #[.slice fa p.funcs.length fc, .slice ga p.globals.length gc, .slice la p.layouts.length lc, .int .i64 p.main], .int .i64 fn, .int .i64 pc] w fun e w' => ∃ v', e = .returned v' ∧ IntsAt w.heap.size w' v' [] ∧ Below w.heap.size w w' := by
  go_enter Tryz.func56, Tryz.ntmps56
  go_wp2_with fail
  go_ret
  exact ⟨_, rfl, SlE.nil _ _ _, (Below.refl _ _).alloc (Nat.le_refl _) _⟩

set_option maxRecDepth 100000 in
set_option maxHeartbeats 4000000 in
theorem ruses_nob (fa ga la : Option Addr) (fc gc lc : Nat) (p : Prg) (fn pc : Int) (w : World) (hnf : p.funcs.length ≤ 140737488355328) (t0 : decide (fn < 0) = false) (t1 : decide ((p.funcs.length : Int) ≤ fn) = true) :
    Calls Tryz.prog 56 #[.agg #[.slice fa p.funcs.length fc, .slice ga p.globals.length gc, .slice la p.layouts.length lc, .int .i64 p.main], .int .i64 fn, .int .i64 pc] w fun e w' => ∃ v', e = .returned v' ∧ IntsAt w.heap.size w' v' [] ∧ Below w.heap.size w w' := by
  go_enter Tryz.func56, Tryz.ntmps56
  go_wp2_with fail
  go_ret
  exact ⟨_, rfl, SlE.nil _ _ _, (Below.refl _ _).alloc (Nat.le_refl _) _⟩

set_option maxRecDepth 100000 in
set_option maxHeartbeats 4000000 in
theorem ruses_noc (ga la : Option Addr) (fb fo fc gc lc F : Nat) (p : Prg) (pc : Int) (w : World) (hnf : p.funcs.length ≤ 140737488355328) (t1 : decide ((p.funcs.length : Int) ≤ F) = false) (t2 : decide (pc < 0) = true) :
    Calls Tryz.prog 56 #[.agg #[.slice (some ⟨fb, fo, none⟩) p.funcs.length fc, .slice ga p.globals.length gc, .slice la p.layouts.length lc, .int .i64 p.main], .int .i64 (F : Int), .int .i64 pc] w fun e w' => ∃ v', e = .returned v' ∧ IntsAt w.heap.size w' v' [] ∧ Below w.heap.size w w' := by
  have t0 : decide ((F : Int) < 0) = false := by simp
  have t1' : decide (p.funcs.length ≤ F) = false := by have := of_decide_eq_false t1; exact decide_eq_false (by omega)
  go_enter Tryz.func56, Tryz.ntmps56
  go_wp2_with fail
  go_ret
  exact ⟨_, rfl, SlE.nil _ _ _, (Below.refl _ _).alloc (Nat.le_refl _) _⟩

set_option maxRecDepth 100000 in
set_option maxHeartbeats 4000000 in
theorem ruses_nod (ga la : Option Addr) (fb fo fc gc lc F : Nat) (p : Prg) (pc : Int) (w : World) (hnf : p.funcs.length ≤ 140737488355328) (t1 : decide ((p.funcs.length : Int) ≤ F) = false) (n : Nat) (ca : Option Addr) (cc : Nat) (t2 : decide (pc < 0) = false) (t3 : decide ((n : Int) ≤ pc) = true) (hn : n ≤ 140737488355328) (z1 : fb < w.heap.size) (hF : F < p.funcs.length) (hF2 : (F : Int) < p.funcs.length) (d3 : w.cell? ⟨fb, fo + F * 4 + 3, none⟩ = some (.slice ca n cc)) :
    Calls Tryz.prog 56 #[.agg #[.slice (some ⟨fb, fo, none⟩) p.funcs.length fc, .slice ga p.globals.length gc, .slice la p.layouts.length lc, .int .i64 p.main], .int .i64 (F : Int), .int .i64 pc] w fun e w' => ∃ v', e = .returned v' ∧ IntsAt w.heap.size w' v' [] ∧ Below w.heap.size w w' := by
  have t0 : decide ((F : Int) < 0) = false := by simp
  have t1' : decide (p.funcs.length ≤ F) = false := by have := of_decide_eq_false t1; exact decide_eq_false (by omega)
  go_enter Tryz.func56, Tryz.ntmps56
  go_wp2_with fail
  go_ret
  exact ⟨_, rfl, SlE.nil _ _ _, (Below.refl _ _).alloc (Nat.le_refl _) _⟩

/-- The document's Uses. -/
theorem ruses_calls (lo : Nat) (vf vg vl : Value) (p : Prg) (fn pc : Int) (w : World) (hp : ProgAt lo w vf vg vl p) (hv : validB p = true) :
    Calls Tryz.prog 56 #[.agg #[vf, vg, vl, .int .i64 p.main], .int .i64 fn, .int .i64 pc] w fun e w' => ∃ v', e = .returned v' ∧ IntsAt w.heap.size w' v' (usesC p fn pc) ∧ Below w.heap.size w w' := by
  cases hi : insAt p fn pc with
  | none =>
    rw [show usesC p fn pc = [] by unfold usesC; rw [hi]]
    obtain ⟨fa, fc, fb, fo, S, rfl, fp, _, _, _, f3, fcode, fbl, _, _, hnf⟩ := hp.funcs.open
    obtain ⟨ga, gc, gb, go, rfl, hz2⟩ := hp.globs.open
    obtain ⟨la, lc, lb, lo', LS, rfl, hz3⟩ := hp.lays.open
    clear hz2 hz3
    by_cases h0 : fn < 0
    · exact ruses_noa fa ga la fc gc lc p fn pc w (decide_eq_true h0)
    by_cases h1 : (p.funcs.length : Int) ≤ fn
    · exact ruses_nob fa ga la fc gc lc p fn pc w hnf (decide_eq_false h0) (decide_eq_true h1)
    obtain ⟨F, rfl⟩ := Int.eq_ofNat_of_zero_le (by omega : 0 ≤ fn)
    have hF : F < p.funcs.length := by omega
    have e1 := fp (by omega)
    subst e1
    by_cases h2 : pc < 0
    · exact ruses_noc ga la fb fo fc gc lc F p pc w hnf (decide_eq_false h1) (decide_eq_true h2)
    have h3 : ((nth p.funcs F).code.length : Int) ≤ pc := by
      rcases Int.lt_or_le pc ((nth p.funcs F).code.length : Int) with h | h
      · exfalso
        unfold insAt at hi
        rw [if_pos ⟨by omega, by omega⟩, if_pos ⟨by omega, by rw [Int.toNat_natCast]; exact h⟩] at hi
        cases hi
      · exact h
    obtain ⟨ca', cc', cb, co, hce, _, _, _, _, _, _, _, _, _, _, hcn⟩ := (fcode F hF).open
    exact ruses_nod ga la fb fo fc gc lc F p pc w hnf (decide_eq_false h1) (nth p.funcs F).code.length _ _ (decide_eq_false h2) (decide_eq_true h3) hcn (fbl (by omega)) hF (by omega) (f3 F hF)
  | some x =>
    obtain ⟨hop, hm, hd⟩ := more_of_valid hv hi
    by_cases h51 : x.op = 51
    · rw [show usesC p fn pc = [] by unfold usesC; rw [hi]; simp [h51]]
      exact ruses_case lo vf vg vl p fn pc x w hp hi h51
    · have hu : usesC p fn pc = setL (rawU x 3 ++ extraU p fn pc x) := by unfold usesC; rw [hi]; simp only; rw [if_pos ⟨hop.1, hop.2, h51⟩]
      rw [hu]
      exact ruses_some lo vf vg vl p fn pc x w hp hi hop (beq_eq_false_iff_ne.2 h51) hm

set_option maxRecDepth 100000 in
set_option maxHeartbeats 16000000 in
theorem rdefs_case (lo : Nat) (vf vg vl : Value) (p : Prg) (fn pc : Int) (x : Ins) (w : World) (hp : ProgAt lo w vf vg vl p) (hi : insAt p fn pc = some x) (h51' : x.op = 51) :
    Calls Tryz.prog 57 #[.agg #[vf, vg, vl, .int .i64 p.main], .int .i64 fn, .int .i64 pc] w fun e w' => ∃ v', e = .returned v' ∧ IntsAt w.heap.size w' v' [] ∧ Below w.heap.size w w' := by
  have HP := hid hp
  have h51 : (x.op == 51) = true := beq_iff_eq.2 h51'
  have hop : 0 < x.op ∧ x.op < 53 := by omega
  obtain ⟨fa, fc, fb, fo, S, rfl, fp, f0, f1, f2, f3, fcode, fbl, _, _, hnf⟩ := hp.funcs.open
  obtain ⟨ga, gc, gb, go, rfl, hz2⟩ := hp.globs.open
  obtain ⟨la, lc, lb, lo', LS, rfl, hz3⟩ := hp.lays.open
  clear hz2 hz3 hp
  have hin : ∃ F K : Nat, fn = F ∧ pc = K ∧ F < p.funcs.length ∧ K < (nth p.funcs F).code.length ∧ nth (nth p.funcs F).code K = x := by
    unfold insAt at hi
    split at hi
    · rename_i h1
      split at hi
      · rename_i h2
        refine ⟨fn.toNat, pc.toNat, by omega, by omega, by omega, by omega, by simpa using hi⟩
      · cases hi
    · cases hi
  obtain ⟨F, K, rfl, rfl, hF, hK, hx⟩ := hin
  have hF2 : (F : Int) < p.funcs.length := by omega
  have hK2 : (K : Int) < (nth p.funcs F).code.length := by omega
  have tF : decide ((p.funcs.length : Int) ≤ F) = false := by simp; omega
  have tK : decide (((nth p.funcs F).code.length : Int) ≤ K) = false := by simp; omega
  have e1 := fp (by omega)
  subst e1
  have z1 := fbl (by omega)
  have d0 := f0 F hF
  have d1 := f1 F hF
  have d2 := f2 F hF
  have d3 := f3 F hF
  have hcode := fcode F hF
  obtain ⟨ca', cc', cb, co, hce, cp, c0, c1, c2, c3, c4, cbl, _, _, _, hcn⟩ := hcode.open
  obtain ⟨ea, _, ec⟩ := Value.slice.inj hce
  subst ea ec
  have e2 := cp (by omega)
  rw [e2] at d3
  have z2 := cbl (by omega)
  have i0 := c0 K hK
  have i1 := c1 K hK
  have i2 := c2 K hK
  have i3 := c3 K hK
  have i4 := c4 K hK
  rw [hx] at i0 i1 i2 i3 i4
  have HPAR := hid f1
  have HCC := hid (And.intro c0 (And.intro c1 (And.intro c2 (And.intro c3 z2))))
  have hres := roles_shape x.op
  have hsz := roles_three x.op hop
  have hroles : ∃ r0 r1 r2 : UInt8, roles x.op = ⟨#[r0, r1, r2]⟩ := by
    rcases hres with h | ⟨r0, r1, r2, h, _⟩
    · rw [h] at hsz; simp at hsz
    · exact ⟨r0, r1, r2, h⟩
  obtain ⟨r0, r1, r2, hroles⟩ := hroles
  have hsrc := role_dst x.op hop
  have q0 : roleN x.op 0 = (r0.toNat : Int) := by unfold roleN; rw [hroles]; rfl
  have q1 : roleN x.op 1 = (r1.toNat : Int) := by unfold roleN; rw [hroles]; rfl
  have q2 : roleN x.op 2 = (r2.toNat : Int) := by unfold roleN; rw [hroles]; rfl
  have s0 := hsrc 0
  have s1 := hsrc 1
  have s2 := hsrc 2
  simp only [Fin.val_zero, Fin.val_one, Fin.val_two, q0, q1, q2] at s0 s1 s2
  have HQ := hid (And.intro s0 (And.intro s1 s2))
  have HX := hid hx
  have HROLES := hid hroles
  clear h51'
  have Hz1 := hid z1
  clear s0 s1 s2 q0 q1 q2 hsrc hsz hres f0 f1 f2 f3 c0 c1 c2 c3 c4 fp fbl fcode cp cbl hce hi hx hroles hcode e2
  generalize (nth p.funcs F).name = fname at *
  generalize (nth p.funcs F).params = fpar at *
  generalize (nth p.funcs F).regs = fregs at *
  obtain ⟨C, hC⟩ : ∃ C, (nth p.funcs F).code = C := ⟨_, rfl⟩
  rw [hC] at hK hK2 tK d3 HCC HX
  have HC := hid hC
  clear hC
  go_enter Tryz.func57, Tryz.ntmps57
  go_wp2_with fail
  generalize hW : World.alloc _ _ = W
  have hbW : Below w.heap.size w W := by rw [← hW]; exact ((Below.refl _ _).alloc (Nat.le_refl _) _).alloc (by simp) _
  have RX := hid (show RowAt W (w.heap.size + 1) [.int .i64 x.op, .int .i64 x.a, .int .i64 x.b, .int .i64 x.c, .int .i64 x.pos] by rw [← hW]; exact RowAt.new _ _ _ _ _ (by simp) rfl)
  have HBW := hid hbW
  clear hW hbW
  refine (roles_calls _ _).mono ?_
  rintro e w2 ⟨rfl, rfl⟩
  rw [HROLES.out]
  have d0 := RX.out.2 0 _ rfl
  have d7 := RX.out.1
  go_wp2_with fail
  go_ret
  exact ⟨_, rfl, SlE.nil _ _ _, HBW.out⟩

set_option maxRecDepth 100000 in
set_option maxHeartbeats 4000000 in
theorem rdefs_noa (fa ga la : Option Addr) (fc gc lc : Nat) (p : Prg) (fn pc : Int) (w : World) (t0 : decide (fn < 0) = true) :
    Calls Tryz.prog 57 #[.agg #[.slice fa p.funcs.length fc, .slice ga p.globals.length gc, .slice la p.layouts.length lc, .int .i64 p.main], .int .i64 fn, .int .i64 pc] w fun e w' => ∃ v', e = .returned v' ∧ IntsAt w.heap.size w' v' [] ∧ Below w.heap.size w w' := by
  go_enter Tryz.func57, Tryz.ntmps57
  go_wp2_with fail
  go_ret
  exact ⟨_, rfl, SlE.nil _ _ _, (Below.refl _ _).alloc (Nat.le_refl _) _⟩

set_option maxRecDepth 100000 in
set_option maxHeartbeats 4000000 in
theorem rdefs_nob (fa ga la : Option Addr) (fc gc lc : Nat) (p : Prg) (fn pc : Int) (w : World) (hnf : p.funcs.length ≤ 140737488355328) (t0 : decide (fn < 0) = false) (t1 : decide ((p.funcs.length : Int) ≤ fn) = true) :
    Calls Tryz.prog 57 #[.agg #[.slice fa p.funcs.length fc, .slice ga p.globals.length gc, .slice la p.layouts.length lc, .int .i64 p.main], .int .i64 fn, .int .i64 pc] w fun e w' => ∃ v', e = .returned v' ∧ IntsAt w.heap.size w' v' [] ∧ Below w.heap.size w w' := by
  go_enter Tryz.func57, Tryz.ntmps57
  go_wp2_with fail
  go_ret
  exact ⟨_, rfl, SlE.nil _ _ _, (Below.refl _ _).alloc (Nat.le_refl _) _⟩

set_option maxRecDepth 100000 in
set_option maxHeartbeats 4000000 in
theorem rdefs_noc (ga la : Option Addr) (fb fo fc gc lc F : Nat) (p : Prg) (pc : Int) (w : World) (hnf : p.funcs.length ≤ 140737488355328) (t1 : decide ((p.funcs.length : Int) ≤ F) = false) (t2 : decide (pc < 0) = true) :
    Calls Tryz.prog 57 #[.agg #[.slice (some ⟨fb, fo, none⟩) p.funcs.length fc, .slice ga p.globals.length gc, .slice la p.layouts.length lc, .int .i64 p.main], .int .i64 (F : Int), .int .i64 pc] w fun e w' => ∃ v', e = .returned v' ∧ IntsAt w.heap.size w' v' [] ∧ Below w.heap.size w w' := by
  have t0 : decide ((F : Int) < 0) = false := by simp
  have t1' : decide (p.funcs.length ≤ F) = false := by have := of_decide_eq_false t1; exact decide_eq_false (by omega)
  go_enter Tryz.func57, Tryz.ntmps57
  go_wp2_with fail
  go_ret
  exact ⟨_, rfl, SlE.nil _ _ _, (Below.refl _ _).alloc (Nat.le_refl _) _⟩

set_option maxRecDepth 100000 in
set_option maxHeartbeats 4000000 in
theorem rdefs_nod (ga la : Option Addr) (fb fo fc gc lc F : Nat) (p : Prg) (pc : Int) (w : World) (hnf : p.funcs.length ≤ 140737488355328) (t1 : decide ((p.funcs.length : Int) ≤ F) = false) (n : Nat) (ca : Option Addr) (cc : Nat) (t2 : decide (pc < 0) = false) (t3 : decide ((n : Int) ≤ pc) = true) (hn : n ≤ 140737488355328) (z1 : fb < w.heap.size) (hF : F < p.funcs.length) (hF2 : (F : Int) < p.funcs.length) (d3 : w.cell? ⟨fb, fo + F * 4 + 3, none⟩ = some (.slice ca n cc)) :
    Calls Tryz.prog 57 #[.agg #[.slice (some ⟨fb, fo, none⟩) p.funcs.length fc, .slice ga p.globals.length gc, .slice la p.layouts.length lc, .int .i64 p.main], .int .i64 (F : Int), .int .i64 pc] w fun e w' => ∃ v', e = .returned v' ∧ IntsAt w.heap.size w' v' [] ∧ Below w.heap.size w w' := by
  have t0 : decide ((F : Int) < 0) = false := by simp
  have t1' : decide (p.funcs.length ≤ F) = false := by have := of_decide_eq_false t1; exact decide_eq_false (by omega)
  go_enter Tryz.func57, Tryz.ntmps57
  go_wp2_with fail
  go_ret
  exact ⟨_, rfl, SlE.nil _ _ _, (Below.refl _ _).alloc (Nat.le_refl _) _⟩

/-- The document's Defs. -/
theorem rdefs_calls (lo : Nat) (vf vg vl : Value) (p : Prg) (fn pc : Int) (w : World) (hp : ProgAt lo w vf vg vl p) (hv : validB p = true) :
    Calls Tryz.prog 57 #[.agg #[vf, vg, vl, .int .i64 p.main], .int .i64 fn, .int .i64 pc] w fun e w' => ∃ v', e = .returned v' ∧ IntsAt w.heap.size w' v' (defsC p fn pc) ∧ Below w.heap.size w w' := by
  cases hi : insAt p fn pc with
  | none =>
    rw [show defsC p fn pc = [] by unfold defsC; rw [hi]]
    obtain ⟨fa, fc, fb, fo, S, rfl, fp, _, _, _, f3, fcode, fbl, _, _, hnf⟩ := hp.funcs.open
    obtain ⟨ga, gc, gb, go, rfl, hz2⟩ := hp.globs.open
    obtain ⟨la, lc, lb, lo', LS, rfl, hz3⟩ := hp.lays.open
    clear hz2 hz3
    by_cases h0 : fn < 0
    · exact rdefs_noa fa ga la fc gc lc p fn pc w (decide_eq_true h0)
    by_cases h1 : (p.funcs.length : Int) ≤ fn
    · exact rdefs_nob fa ga la fc gc lc p fn pc w hnf (decide_eq_false h0) (decide_eq_true h1)
    obtain ⟨F, rfl⟩ := Int.eq_ofNat_of_zero_le (by omega : 0 ≤ fn)
    have hF : F < p.funcs.length := by omega
    have e1 := fp (by omega)
    subst e1
    by_cases h2 : pc < 0
    · exact rdefs_noc ga la fb fo fc gc lc F p pc w hnf (decide_eq_false h1) (decide_eq_true h2)
    have h3 : ((nth p.funcs F).code.length : Int) ≤ pc := by
      rcases Int.lt_or_le pc ((nth p.funcs F).code.length : Int) with h | h
      · exfalso
        unfold insAt at hi
        rw [if_pos ⟨by omega, by omega⟩, if_pos ⟨by omega, by rw [Int.toNat_natCast]; exact h⟩] at hi
        cases hi
      · exact h
    obtain ⟨ca', cc', cb, co, hce, _, _, _, _, _, _, _, _, _, _, hcn⟩ := (fcode F hF).open
    exact rdefs_nod ga la fb fo fc gc lc F p pc w hnf (decide_eq_false h1) (nth p.funcs F).code.length _ _ (decide_eq_false h2) (decide_eq_true h3) hcn (fbl (by omega)) hF (by omega) (f3 F hF)
  | some x =>
    obtain ⟨hop, hm, hd⟩ := more_of_valid hv hi
    by_cases h51 : x.op = 51
    · rw [show defsC p fn pc = [] by unfold defsC; rw [hi]; simp [h51]]
      exact rdefs_case lo vf vg vl p fn pc x w hp hi h51
    · have hu : defsC p fn pc = setL (rawD x 3) := by unfold defsC; rw [hi]; simp only; rw [if_pos ⟨hop.1, hop.2, h51⟩]
      rw [hu]
      exact rdefs_some lo vf vg vl p fn pc x w hp hi hop (beq_eq_false_iff_ne.2 h51) hd

end Go.Proofs.YteiohnfmlabelaaGreat
