/-
  An instruction by itself, as package code checks it.
-/
import Derived.Test.YtealeofgfgbheaaZCOpnd
import Derived.Test.YtealeofgfgbheaaZDescr
import Derived.Test.YtealeofgfgbheaaZREqual
namespace Go.Proofs.Ytealeofgfgbheaa
set_option linter.unusedVariables false
set_option linter.unusedSimpArgs false
open Go.RowKit

def letterC (r : Int) : Prop := r = 100 ∨ r = 115 ∨ r = 68 ∨ r = 83 ∨ r = 116 ∨ r = 103 ∨ r = 108 ∨ r = 102 ∨ r = 99 ∨ r = 97 ∨ r = 110 ∨ r = 107 ∨ r = 112 ∨ r = 120 ∨ r = 98 ∨ r = 118 ∨ r = 105 ∨ r = 45

theorem operandC_calls (lo1 lo2 : Nat) (vf vg vl vc : Value) (p : Prg) (f : Fun) (x : Ins) (r v : Int) (w : World) (hp : ProgAt lo1 w vf vg vl p) (hc : CodeAt lo2 w vc f.code) (hg : 0 ≤ f.regs ∧ f.regs ≤ 64) (hr : letterC r) :
    Calls Try.prog 69 #[.agg #[vf, vg, vl, .int .i64 p.main, .string f.name, .int .i64 f.params, .int .i64 f.regs, vc], .agg #[.int .i64 x.op, .int .i64 x.a, .int .i64 x.b, .int .i64 x.c, .int .i64 x.pos], .int .u8 r, .int .i64 v] w
      fun e w' => e = .returned (.bool (operandC p f x r v)) ∧ Below w.heap.size w w' := by
  obtain ⟨fa, fc, fb, fo, S, rfl, fp, _, f1, _, _, _, fbl, _, _, fn⟩ := hp.funcs.open
  obtain ⟨ga, gc, gb, go, rfl, gp, _, _, _, _, _, gn⟩ := hp.globs.open
  obtain ⟨la, lc, lb, lo, T, rfl, lp, _, _, _, _, _, ln⟩ := hp.lays.open
  obtain ⟨ca, cc, cb, co, rfl, cp, c0, _, _, _, _, cbl, _, _, _, cn⟩ := hc.open
  obtain ⟨h1, h2⟩ := hg
  have br : ∀ n : Nat, btw v 0 ((n : Int) - 1) = true → ∃ k : Nat, v = k ∧ k < n := by
    intro n h
    simp [btw] at h
    exact ⟨v.toNat, by omega, by omega⟩
  rcases hr with rfl | rfl | rfl | rfl | rfl | rfl | rfl | rfl | rfl | rfl | rfl | rfl | rfl | rfl | rfl | rfl | rfl | rfl
  · exact copnd_100 fa ga la ca _ fc _ gc _ lc _ cc _ _ _ _ _ _ _ _ _ v w h1 h2 fn gn ln cn
  · exact copnd_115 fa ga la ca _ fc _ gc _ lc _ cc _ _ _ _ _ _ _ _ _ v w h1 h2 fn gn ln cn
  · exact copnd_68 fa ga la ca _ fc _ gc _ lc _ cc _ _ _ _ _ _ _ _ _ v w h1 h2 fn gn ln cn
  · exact copnd_83 fa ga la ca _ fc _ gc _ lc _ cc _ _ _ _ _ _ _ _ _ v w h1 h2 fn gn ln cn
  · have e : operandC p f x 116 v = (btw v 0 ((f.code.length : Int) - 1) && !((nth f.code v.toNat).op == 51)) := rfl
    rw [e]
    cases h0 : btw v 0 ((f.code.length : Int) - 1) with
    | false => exact copnd_116no fa ga la ca _ fc _ gc _ lc _ cc _ _ _ _ _ _ _ _ _ v w h1 h2 fn gn ln cn h0
    | true =>
      obtain ⟨k, rfl, hk⟩ := br _ h0
      have e1 := cp (by omega)
      subst e1
      have := cbl (by omega)
      exact copnd_116yes fa ga la _ fc _ gc _ lc _ cc _ _ _ _ _ _ _ _ _ w h1 h2 fn gn ln cn cb co k (nth f.code k).op hk (by omega) (by omega) (by omega) (c0 k hk)
  · exact copnd_103 fa ga la ca _ fc _ gc _ lc _ cc _ _ _ _ _ _ _ _ _ v w h1 h2 fn gn ln cn
  · exact copnd_108 fa ga la ca _ fc _ gc _ lc _ cc _ _ _ _ _ _ _ _ _ v w h1 h2 fn gn ln cn
  · have e : operandC p f x 102 v = (btw v 0 ((p.funcs.length : Int) - 1) && (btw x.c 0 f.regs && decide ((nth p.funcs v.toNat).params ≤ f.regs - x.c))) := rfl
    rw [e]
    cases h0 : btw v 0 ((p.funcs.length : Int) - 1) with
    | false => exact copnd_102a fa ga la ca _ fc _ gc _ lc _ cc _ _ _ _ _ _ _ _ _ v w h1 h2 fn gn ln cn h0
    | true =>
      cases h3 : btw x.c 0 f.regs with
      | false => exact copnd_102b fa ga la ca _ fc _ gc _ lc _ cc _ _ _ _ _ _ _ _ _ v w h1 h2 fn gn ln cn h0 h3
      | true =>
        obtain ⟨k, rfl, hk⟩ := br _ h0
        have e1 := fp (by omega)
        subst e1
        have := fbl (by omega)
        have h4 : 0 ≤ x.c ∧ x.c ≤ f.regs := by simpa [btw] using h3
        exact copnd_102c ga la ca _ fc _ gc _ lc _ cc _ _ _ _ _ _ _ _ _ w h1 h2 fn gn ln cn fb fo k (nth p.funcs k).params hk (by omega) (by omega) (by omega) (f1 k hk) (wrapId _ (by omega) (by omega)) h0 h3
  · have e : operandC p f x 99 v = (btw v 0 ((p.funcs.length : Int) - 1) && ((nth p.funcs v.toNat).params == 1)) := rfl
    rw [e]
    cases h0 : btw v 0 ((p.funcs.length : Int) - 1) with
    | false => exact copnd_99no fa ga la ca _ fc _ gc _ lc _ cc _ _ _ _ _ _ _ _ _ v w h1 h2 fn gn ln cn h0
    | true =>
      obtain ⟨k, rfl, hk⟩ := br _ h0
      have e1 := fp (by omega)
      subst e1
      have := fbl (by omega)
      exact copnd_99yes ga la ca _ fc _ gc _ lc _ cc _ _ _ _ _ _ _ _ _ w h1 h2 fn gn ln cn fb fo k (nth p.funcs k).params hk (by omega) (by omega) (by omega) (f1 k hk)
  · exact copnd_97 fa ga la ca _ fc _ gc _ lc _ cc _ _ _ _ _ _ _ _ _ v w h1 h2 fn gn ln cn
  · exact copnd_110 fa ga la ca _ fc _ gc _ lc _ cc _ _ _ _ _ _ _ _ _ v w h1 h2 fn gn ln cn
  · exact copnd_107 fa ga la ca _ fc _ gc _ lc _ cc _ _ _ _ _ _ _ _ _ v w h1 h2 fn gn ln cn
  · exact copnd_112 fa ga la ca _ fc _ gc _ lc _ cc _ _ _ _ _ _ _ _ _ v w h1 h2 fn gn ln cn
  · exact copnd_120 fa ga la ca _ fc _ gc _ lc _ cc _ _ _ _ _ _ _ _ _ v w h1 h2 fn gn ln cn
  · exact copnd_98 fa ga la ca _ fc _ gc _ lc _ cc _ _ _ _ _ _ _ _ _ v w h1 h2 fn gn ln cn
  · exact copnd_118 fa ga la ca _ fc _ gc _ lc _ cc _ _ _ _ _ _ _ _ _ v w h1 h2 fn gn ln cn
  · exact copnd_105 fa ga la ca _ fc _ gc _ lc _ cc _ _ _ _ _ _ _ _ _ v w h1 h2 fn gn ln cn
  · exact copnd_45 fa ga la ca _ fc _ gc _ lc _ cc _ _ _ _ _ _ _ _ _ v w h1 h2 fn gn ln cn

theorem rolesC_shape (op : Int) (h : 0 < op ∧ op < 53) : ∃ r0 r1 r2 : UInt8, rolesC op = ⟨#[r0, r1, r2]⟩ ∧ letterC r0.toNat ∧ letterC r1.toNat ∧ letterC r2.toNat := by
  obtain ⟨k, rfl⟩ := Int.eq_ofNat_of_zero_le (a := op) (by omega)
  have h1 : 0 < k := by omega
  have h2 : k < 53 := by omega
  clear h
  match k, h1, h2 with
  | 1, _, _ => exact ⟨100, 105, 45, rfl, by unfold letterC; decide, by unfold letterC; decide, by unfold letterC; decide⟩
  | 2, _, _ => exact ⟨100, 45, 45, rfl, by unfold letterC; decide, by unfold letterC; decide, by unfold letterC; decide⟩
  | 3, _, _ => exact ⟨100, 115, 45, rfl, by unfold letterC; decide, by unfold letterC; decide, by unfold letterC; decide⟩
  | 4, _, _ => exact ⟨100, 115, 115, rfl, by unfold letterC; decide, by unfold letterC; decide, by unfold letterC; decide⟩
  | 5, _, _ => exact ⟨100, 115, 115, rfl, by unfold letterC; decide, by unfold letterC; decide, by unfold letterC; decide⟩
  | 6, _, _ => exact ⟨100, 115, 115, rfl, by unfold letterC; decide, by unfold letterC; decide, by unfold letterC; decide⟩
  | 7, _, _ => exact ⟨100, 115, 115, rfl, by unfold letterC; decide, by unfold letterC; decide, by unfold letterC; decide⟩
  | 8, _, _ => exact ⟨100, 115, 115, rfl, by unfold letterC; decide, by unfold letterC; decide, by unfold letterC; decide⟩
  | 9, _, _ => exact ⟨100, 115, 45, rfl, by unfold letterC; decide, by unfold letterC; decide, by unfold letterC; decide⟩
  | 10, _, _ => exact ⟨100, 115, 45, rfl, by unfold letterC; decide, by unfold letterC; decide, by unfold letterC; decide⟩
  | 11, _, _ => exact ⟨100, 115, 115, rfl, by unfold letterC; decide, by unfold letterC; decide, by unfold letterC; decide⟩
  | 12, _, _ => exact ⟨100, 115, 115, rfl, by unfold letterC; decide, by unfold letterC; decide, by unfold letterC; decide⟩
  | 13, _, _ => exact ⟨100, 115, 115, rfl, by unfold letterC; decide, by unfold letterC; decide, by unfold letterC; decide⟩
  | 14, _, _ => exact ⟨100, 115, 115, rfl, by unfold letterC; decide, by unfold letterC; decide, by unfold letterC; decide⟩
  | 15, _, _ => exact ⟨100, 115, 45, rfl, by unfold letterC; decide, by unfold letterC; decide, by unfold letterC; decide⟩
  | 16, _, _ => exact ⟨45, 45, 116, rfl, by unfold letterC; decide, by unfold letterC; decide, by unfold letterC; decide⟩
  | 17, _, _ => exact ⟨115, 45, 116, rfl, by unfold letterC; decide, by unfold letterC; decide, by unfold letterC; decide⟩
  | 18, _, _ => exact ⟨100, 103, 45, rfl, by unfold letterC; decide, by unfold letterC; decide, by unfold letterC; decide⟩
  | 19, _, _ => exact ⟨100, 115, 110, rfl, by unfold letterC; decide, by unfold letterC; decide, by unfold letterC; decide⟩
  | 20, _, _ => exact ⟨100, 115, 115, rfl, by unfold letterC; decide, by unfold letterC; decide, by unfold letterC; decide⟩
  | 21, _, _ => exact ⟨100, 108, 45, rfl, by unfold letterC; decide, by unfold letterC; decide, by unfold letterC; decide⟩
  | 22, _, _ => exact ⟨100, 115, 45, rfl, by unfold letterC; decide, by unfold letterC; decide, by unfold letterC; decide⟩
  | 23, _, _ => exact ⟨100, 115, 45, rfl, by unfold letterC; decide, by unfold letterC; decide, by unfold letterC; decide⟩
  | 24, _, _ => exact ⟨100, 99, 107, rfl, by unfold letterC; decide, by unfold letterC; decide, by unfold letterC; decide⟩
  | 25, _, _ => exact ⟨100, 112, 45, rfl, by unfold letterC; decide, by unfold letterC; decide, by unfold letterC; decide⟩
  | 26, _, _ => exact ⟨68, 102, 97, rfl, by unfold letterC; decide, by unfold letterC; decide, by unfold letterC; decide⟩
  | 27, _, _ => exact ⟨115, 45, 45, rfl, by unfold letterC; decide, by unfold letterC; decide, by unfold letterC; decide⟩
  | 28, _, _ => exact ⟨45, 102, 97, rfl, by unfold letterC; decide, by unfold letterC; decide, by unfold letterC; decide⟩
  | 29, _, _ => exact ⟨115, 45, 45, rfl, by unfold letterC; decide, by unfold letterC; decide, by unfold letterC; decide⟩
  | 30, _, _ => exact ⟨83, 45, 45, rfl, by unfold letterC; decide, by unfold letterC; decide, by unfold letterC; decide⟩
  | 31, _, _ => exact ⟨45, 102, 97, rfl, by unfold letterC; decide, by unfold letterC; decide, by unfold letterC; decide⟩
  | 32, _, _ => exact ⟨115, 45, 45, rfl, by unfold letterC; decide, by unfold letterC; decide, by unfold letterC; decide⟩
  | 33, _, _ => exact ⟨100, 115, 45, rfl, by unfold letterC; decide, by unfold letterC; decide, by unfold letterC; decide⟩
  | 34, _, _ => exact ⟨115, 115, 45, rfl, by unfold letterC; decide, by unfold letterC; decide, by unfold letterC; decide⟩
  | 35, _, _ => exact ⟨100, 115, 45, rfl, by unfold letterC; decide, by unfold letterC; decide, by unfold letterC; decide⟩
  | 36, _, _ => exact ⟨115, 115, 45, rfl, by unfold letterC; decide, by unfold letterC; decide, by unfold letterC; decide⟩
  | 37, _, _ => exact ⟨100, 115, 115, rfl, by unfold letterC; decide, by unfold letterC; decide, by unfold letterC; decide⟩
  | 38, _, _ => exact ⟨100, 115, 115, rfl, by unfold letterC; decide, by unfold letterC; decide, by unfold letterC; decide⟩
  | 39, _, _ => exact ⟨115, 45, 45, rfl, by unfold letterC; decide, by unfold letterC; decide, by unfold letterC; decide⟩
  | 40, _, _ => exact ⟨115, 45, 45, rfl, by unfold letterC; decide, by unfold letterC; decide, by unfold letterC; decide⟩
  | 41, _, _ => exact ⟨115, 45, 45, rfl, by unfold letterC; decide, by unfold letterC; decide, by unfold letterC; decide⟩
  | 42, _, _ => exact ⟨115, 45, 45, rfl, by unfold letterC; decide, by unfold letterC; decide, by unfold letterC; decide⟩
  | 43, _, _ => exact ⟨115, 115, 45, rfl, by unfold letterC; decide, by unfold letterC; decide, by unfold letterC; decide⟩
  | 44, _, _ => exact ⟨115, 45, 45, rfl, by unfold letterC; decide, by unfold letterC; decide, by unfold letterC; decide⟩
  | 45, _, _ => exact ⟨115, 45, 116, rfl, by unfold letterC; decide, by unfold letterC; decide, by unfold letterC; decide⟩
  | 46, _, _ => exact ⟨115, 45, 45, rfl, by unfold letterC; decide, by unfold letterC; decide, by unfold letterC; decide⟩
  | 47, _, _ => exact ⟨115, 115, 45, rfl, by unfold letterC; decide, by unfold letterC; decide, by unfold letterC; decide⟩
  | 48, _, _ => exact ⟨68, 115, 68, rfl, by unfold letterC; decide, by unfold letterC; decide, by unfold letterC; decide⟩
  | 49, _, _ => exact ⟨115, 45, 45, rfl, by unfold letterC; decide, by unfold letterC; decide, by unfold letterC; decide⟩
  | 50, _, _ => exact ⟨100, 120, 98, rfl, by unfold letterC; decide, by unfold letterC; decide, by unfold letterC; decide⟩
  | 51, _, _ => exact ⟨115, 98, 118, rfl, by unfold letterC; decide, by unfold letterC; decide, by unfold letterC; decide⟩
  | 52, _, _ => exact ⟨115, 45, 45, rfl, by unfold letterC; decide, by unfold letterC; decide, by unfold letterC; decide⟩
  | k + 53, _, h => exact absurd h (by omega)

noncomputable def planCI : Plan := mkPlan (regionOf Try.f60 7) [(7, .new)] []
/-- The k-th operand. -/
def opAt (x : Ins) (k : Nat) : Int := if k = 0 then x.a else if k = 1 then x.b else x.c
/-- Whether the k-th operand suits its role. -/
def opOk (p : Prg) (f : Fun) (x : Ins) (k : Nat) : Bool := operandC p f x (roleC x.op k) (opAt x k)

set_option maxRecDepth 100000 in
set_option maxHeartbeats 4000000 in
theorem instrC_ok (lo1 lo2 : Nat) (vf vg vl vc : Value) (p : Prg) (f : Fun) (x : Ins) (w : World) (hp : ProgAt lo1 w vf vg vl p) (hc : CodeAt lo2 w vc f.code) (hg : 0 ≤ f.regs ∧ f.regs ≤ 64) (hop : 0 < x.op ∧ x.op < 53) (hpos : decide (x.pos < 0) = false) :
    Calls Try.prog 60 #[.agg #[vf, vg, vl, .int .i64 p.main, .string f.name, .int .i64 f.params, .int .i64 f.regs, vc], .agg #[.int .i64 x.op, .int .i64 x.a, .int .i64 x.b, .int .i64 x.c, .int .i64 x.pos]] w
      fun e w' => e = .returned (.bool (instrC p f x)) ∧ Below w.heap.size w w' := by
  obtain ⟨r0, r1, r2, hroles, l0, l1, l2⟩ := rolesC_shape x.op hop
  have hlen := hc
  obtain ⟨fa, fc, fb, fo, S, rfl, hz1⟩ := hp.funcs.open
  obtain ⟨ga, gc, gb, go, rfl, hz2⟩ := hp.globs.open
  obtain ⟨la, lc, lb, lo, T, rfl, hz3⟩ := hp.lays.open
  obtain ⟨ca, cc, cb, co, rfl, hz4⟩ := hc.open
  clear hz1 hz2 hz3 hz4
  have hokv : (decide (0 < x.op) && decide (x.op < 53)) = true := by simp [hop]
  have q0 : roleC x.op 0 = (r0.toNat : Int) := by unfold roleC; rw [hroles]; rfl
  have q1 : roleC x.op 1 = (r1.toNat : Int) := by unfold roleC; rw [hroles]; rfl
  have q2 : roleC x.op 2 = (r2.toNat : Int) := by unfold roleC; rw [hroles]; rfl
  have hIC : instrC p f x = (opOk p f x 0 && (opOk p f x 1 && (opOk p f x 2 && (!(x.op == 38) || decide (x.c < f.regs - 1))))) := by
    have h1 : (rolesC x.op).data.isEmpty = false := by rw [hroles]; rfl
    have h2 : decide (0 ≤ x.pos) = true := by simp at hpos; simp [hpos]
    unfold instrC
    rw [h1, h2]; rfl
  have HIC := hid hIC
  have HQ := hid (And.intro q0 (And.intro q1 q2))
  have HL := hid (And.intro l0 (And.intro l1 l2))
  clear hIC q0 q1 q2 l0 l1 l2
  go_enter Try.func60, Try.ntmps60
  go_wp2_with fail
  generalize hW : World.alloc _ _ = W
  have hbW : Below w.heap.size w W := by rw [← hW]; exact ((Below.refl _ _).alloc (Nat.le_refl _) _).alloc (by simp) _
  have R1 : RowAt W w.heap.size [.slice fa p.funcs.length fc, .slice ga p.globals.length gc, .slice la p.layouts.length lc, .int .i64 p.main, .string f.name, .int .i64 f.params, .int .i64 f.regs, .slice ca f.code.length cc] := by
    rw [← hW]
    exact (RowAt.new w _ _ _ _ rfl rfl).below ((Below.refl _ _).alloc (Nat.le_refl _) _)
  have R2 : RowAt W (w.heap.size + 1) [.int .i64 x.op, .int .i64 x.a, .int .i64 x.b, .int .i64 x.c, .int .i64 x.pos] := by
    rw [← hW]
    exact RowAt.new _ _ _ _ _ (by simp) rfl
  clear hW
  have hsz : w.heap.size + 1 < W.heap.size := R2.1
  refine (describe_calls x.op W).mono ?_
  rintro e w1 ⟨rfl, hb1⟩
  rw [hokv, hroles]
  have HB1 := hid (hbW.trans (hb1.mono (by omega)))
  have R1b := R1.below hb1
  have R2b := R2.below hb1
  have b0 := R2b.2 0 _ rfl
  have b1 := R2b.2 1 _ rfl
  have b2 := R2b.2 2 _ rfl
  have b3 := R2b.2 3 _ rfl
  have b4 := R2b.2 4 _ rfl
  have s1 := R2b.1
  clear hb1 hbW R1 R2 hsz hokv
  go_wp2_with fail
  generalize hW2 : World.alloc _ _ = W2
  have hbW2 : Below w1.heap.size w1 W2 := by rw [← hW2]; exact (Below.refl _ _).alloc (Nat.le_refl _) _
  have R3 : RowAt W2 w1.heap.size [.string (wordC x.op), .string ⟨#[r0, r1, r2]⟩] := by
    rw [← hW2]
    exact RowAt.new _ _ _ _ _ rfl rfl
  have R1c := hid (R1b.below hbW2)
  have R2c := hid (R2b.below hbW2)
  have R3c := hid R3
  have HBW := hid (HB1.out.trans (hbW2.mono HB1.out.size))
  clear hW2 hbW2 R3 R1b R2b b0 b1 b2 b3 b4 s1 HB1
  have j0 : ∀ w, (Instr.index 97 (.agg #[.int .i64 x.a, .int .i64 x.b, .int .i64 x.c]) (.int .i64 0)).run Try.prog w = .ok (.int .i64 x.a) w := fun _ => by kernel_rfl
  have j1 : ∀ w, (Instr.index 97 (.agg #[.int .i64 x.a, .int .i64 x.b, .int .i64 x.c]) (.int .i64 1)).run Try.prog w = .ok (.int .i64 x.b) w := fun _ => by kernel_rfl
  have j2 : ∀ w, (Instr.index 97 (.agg #[.int .i64 x.a, .int .i64 x.b, .int .i64 x.c]) (.int .i64 2)).run Try.prog w = .ok (.int .i64 x.c) w := fun _ => by kernel_rfl
  go_loopw [29] (fun i wr => ∃ k : Nat, k ≤ 3 ∧ i = .int .i64 k ∧ (∀ j, j < k → opOk p f x j = true) ∧ Below W2.heap.size W2 wr) (fun i _ => 3 - (intOf i).toNat)
  case atStart => exact ⟨0, by omega, rfl, fun j hj => by omega, Below.refl _ _⟩
  case round =>
    obtain ⟨k, hk, rfl, hall, hb3⟩ := hrel
    obtain ⟨wo, hwo⟩ : ∃ wo, wo = wr := ⟨_, rfl⟩
    subst hwo
    have R1d := R1c.out.below hb3
    have R2d := R2c.out.below hb3
    have R3d := R3c.out.below hb3
    have HB3 := hid (HBW.out.trans (hb3.mono HBW.out.size))
    have HBR := hid hb3
    have a0 := R1d.2 0 _ rfl
    have a1 := R1d.2 1 _ rfl
    have a2 := R1d.2 2 _ rfl
    have a3 := R1d.2 3 _ rfl
    have a4 := R1d.2 4 _ rfl
    have a5 := R1d.2 5 _ rfl
    have a6 := R1d.2 6 _ rfl
    have a7 := R1d.2 7 _ rfl
    have b0 := R2d.2 0 _ rfl
    have b1 := R2d.2 1 _ rfl
    have b2 := R2d.2 2 _ rfl
    have b3 := R2d.2 3 _ rfl
    have b4 := R2d.2 4 _ rfl
    have c1 := R3d.2 1 _ rfl
    have s1 := R1d.1
    have s2 := R2d.1
    have s3 := R3d.1
    have HALL := hid hall
    clear hall hb3 R1d R2d R3d
    rcases (show k = 0 ∨ k = 1 ∨ k = 2 ∨ k = 3 by omega) with rfl | rfl | rfl | rfl
    · go_wp2_with fail
      have hcall := fun (w' : World) (hb : Below wo.heap.size wo w') => operandC_calls lo1 lo2 _ _ _ _ p f x r0.toNat x.a w' (hp.below (HB3.out.trans (hb.mono HB3.out.size))) (hlen.below (HB3.out.trans (hb.mono HB3.out.size))) hg HL.out.1
      have he : opOk p f x 0 = operandC p f x r0.toNat x.a := by unfold opOk; rw [HQ.out.1]; rfl
      cases hx : opOk p f x 0 with
      | false =>
        rw [he] at hx
        have HX := hid hx
        have HE := hid he
        clear hx he
        refine Plan.wp_facts (B := wo.heap.size) planCI [(7, valF (.bool false))] (by kernel_rfl) rfl (by kernel_rfl) (by kernel_rfl) (Nat.le_refl _) ?_
        repeat (first | (apply Plan.runs_skip rfl rfl; simp only [Act.put, List.setIfInBounds_toArray, List.set_cons_zero, List.set_cons_succ]) | (apply Plan.runs_det rfl rfl; (· intro F w' hb hf; obtain ⟨hcl, hfz⟩ := bcell hb; go_simp; rfl); simp only [Act.put, List.setIfInBounds_toArray, List.set_cons_zero, List.set_cons_succ]))
        refine Plan.runs_call_val (.bool false) 69 #[.agg #[.slice fa p.funcs.length fc, .slice ga p.globals.length gc, .slice la p.layouts.length lc, .int .i64 p.main, .string f.name, .int .i64 f.params, .int .i64 f.regs, .slice ca f.code.length cc], .agg #[.int .i64 x.op, .int .i64 x.a, .int .i64 x.b, .int .i64 x.c, .int .i64 x.pos], .int .u8 r0.toNat, .int .i64 x.a] rfl rfl _ rfl rfl (fun F w' hb hf => by go_simp; rfl) rfl (fun F w' hb hf => ?_) ?_
        · refine (hcall w' hb).mono ?_
          rintro e w'' ⟨rfl, hb'⟩
          exact ⟨by rw [HX.out], hb'⟩
        simp only [Act.put, List.setIfInBounds_toArray, List.set_cons_zero, List.set_cons_succ]
        repeat (apply Plan.runs_det rfl rfl; (· intro F w hb hf; go_simp; rfl); simp only [Act.put, List.setIfInBounds_toArray, List.set_cons_zero, List.set_cons_succ])
        refine Plan.runs_nil (fun F wn hb2 hf => ?_)
        have HBN := hid (HB3.out.trans (hb2.mono HB3.out.size))
        clear hf hb2
        go_wp2_with fail
        go_ret
        refine ⟨ret_bool ?_, HBN.out⟩
        rw [HIC.out]
        rw [HE.out, HX.out]; rfl
      | true =>
        have HO := hid hx
        rw [he] at hx
        have HX := hid hx
        clear hx he
        refine Plan.wp_facts (B := wo.heap.size) planCI [(7, valF (.bool true))] (by kernel_rfl) rfl (by kernel_rfl) (by kernel_rfl) (Nat.le_refl _) ?_
        repeat (first | (apply Plan.runs_skip rfl rfl; simp only [Act.put, List.setIfInBounds_toArray, List.set_cons_zero, List.set_cons_succ]) | (apply Plan.runs_det rfl rfl; (· intro F w' hb hf; obtain ⟨hcl, hfz⟩ := bcell hb; go_simp; rfl); simp only [Act.put, List.setIfInBounds_toArray, List.set_cons_zero, List.set_cons_succ]))
        refine Plan.runs_call_val (.bool true) 69 #[.agg #[.slice fa p.funcs.length fc, .slice ga p.globals.length gc, .slice la p.layouts.length lc, .int .i64 p.main, .string f.name, .int .i64 f.params, .int .i64 f.regs, .slice ca f.code.length cc], .agg #[.int .i64 x.op, .int .i64 x.a, .int .i64 x.b, .int .i64 x.c, .int .i64 x.pos], .int .u8 r0.toNat, .int .i64 x.a] rfl rfl _ rfl rfl (fun F w' hb hf => by go_simp; rfl) rfl (fun F w' hb hf => ?_) ?_
        · refine (hcall w' hb).mono ?_
          rintro e w'' ⟨rfl, hb'⟩
          exact ⟨by rw [HX.out], hb'⟩
        simp only [Act.put, List.setIfInBounds_toArray, List.set_cons_zero, List.set_cons_succ]
        repeat (apply Plan.runs_det rfl rfl; (· intro F w hb hf; go_simp; rfl); simp only [Act.put, List.setIfInBounds_toArray, List.set_cons_zero, List.set_cons_succ])
        refine Plan.runs_nil (fun F wn hb2 hf => ?_)
        have HBN := hid (HBR.out.trans (hb2.mono HBR.out.size))
        clear hf hb2
        go_wp2_with fail
        go_roundw
        case rel =>
          refine ⟨1, by omega, by go_num, fun j hj => ?_, HBN.out⟩
          rcases (show j < 0 ∨ j = 0 by omega) with h | rfl
          · exact HALL.out j h
          · exact HO.out
        case measure => simp [intOf]
    · go_wp2_with fail
      have hcall := fun (w' : World) (hb : Below wo.heap.size wo w') => operandC_calls lo1 lo2 _ _ _ _ p f x r1.toNat x.b w' (hp.below (HB3.out.trans (hb.mono HB3.out.size))) (hlen.below (HB3.out.trans (hb.mono HB3.out.size))) hg HL.out.2.1
      have he : opOk p f x 1 = operandC p f x r1.toNat x.b := by unfold opOk; rw [HQ.out.2.1]; rfl
      cases hx : opOk p f x 1 with
      | false =>
        rw [he] at hx
        have HX := hid hx
        have HE := hid he
        clear hx he
        refine Plan.wp_facts (B := wo.heap.size) planCI [(7, valF (.bool false))] (by kernel_rfl) rfl (by kernel_rfl) (by kernel_rfl) (Nat.le_refl _) ?_
        repeat (first | (apply Plan.runs_skip rfl rfl; simp only [Act.put, List.setIfInBounds_toArray, List.set_cons_zero, List.set_cons_succ]) | (apply Plan.runs_det rfl rfl; (· intro F w' hb hf; obtain ⟨hcl, hfz⟩ := bcell hb; go_simp; rfl); simp only [Act.put, List.setIfInBounds_toArray, List.set_cons_zero, List.set_cons_succ]))
        refine Plan.runs_call_val (.bool false) 69 #[.agg #[.slice fa p.funcs.length fc, .slice ga p.globals.length gc, .slice la p.layouts.length lc, .int .i64 p.main, .string f.name, .int .i64 f.params, .int .i64 f.regs, .slice ca f.code.length cc], .agg #[.int .i64 x.op, .int .i64 x.a, .int .i64 x.b, .int .i64 x.c, .int .i64 x.pos], .int .u8 r1.toNat, .int .i64 x.b] rfl rfl _ rfl rfl (fun F w' hb hf => by go_simp; rfl) rfl (fun F w' hb hf => ?_) ?_
        · refine (hcall w' hb).mono ?_
          rintro e w'' ⟨rfl, hb'⟩
          exact ⟨by rw [HX.out], hb'⟩
        simp only [Act.put, List.setIfInBounds_toArray, List.set_cons_zero, List.set_cons_succ]
        repeat (apply Plan.runs_det rfl rfl; (· intro F w hb hf; go_simp; rfl); simp only [Act.put, List.setIfInBounds_toArray, List.set_cons_zero, List.set_cons_succ])
        refine Plan.runs_nil (fun F wn hb2 hf => ?_)
        have HBN := hid (HB3.out.trans (hb2.mono HB3.out.size))
        clear hf hb2
        go_wp2_with fail
        go_ret
        refine ⟨ret_bool ?_, HBN.out⟩
        rw [HIC.out]
        rw [HALL.out 0 (by omega), Bool.true_and]
        rw [HE.out, HX.out]; rfl
      | true =>
        have HO := hid hx
        rw [he] at hx
        have HX := hid hx
        clear hx he
        refine Plan.wp_facts (B := wo.heap.size) planCI [(7, valF (.bool true))] (by kernel_rfl) rfl (by kernel_rfl) (by kernel_rfl) (Nat.le_refl _) ?_
        repeat (first | (apply Plan.runs_skip rfl rfl; simp only [Act.put, List.setIfInBounds_toArray, List.set_cons_zero, List.set_cons_succ]) | (apply Plan.runs_det rfl rfl; (· intro F w' hb hf; obtain ⟨hcl, hfz⟩ := bcell hb; go_simp; rfl); simp only [Act.put, List.setIfInBounds_toArray, List.set_cons_zero, List.set_cons_succ]))
        refine Plan.runs_call_val (.bool true) 69 #[.agg #[.slice fa p.funcs.length fc, .slice ga p.globals.length gc, .slice la p.layouts.length lc, .int .i64 p.main, .string f.name, .int .i64 f.params, .int .i64 f.regs, .slice ca f.code.length cc], .agg #[.int .i64 x.op, .int .i64 x.a, .int .i64 x.b, .int .i64 x.c, .int .i64 x.pos], .int .u8 r1.toNat, .int .i64 x.b] rfl rfl _ rfl rfl (fun F w' hb hf => by go_simp; rfl) rfl (fun F w' hb hf => ?_) ?_
        · refine (hcall w' hb).mono ?_
          rintro e w'' ⟨rfl, hb'⟩
          exact ⟨by rw [HX.out], hb'⟩
        simp only [Act.put, List.setIfInBounds_toArray, List.set_cons_zero, List.set_cons_succ]
        repeat (apply Plan.runs_det rfl rfl; (· intro F w hb hf; go_simp; rfl); simp only [Act.put, List.setIfInBounds_toArray, List.set_cons_zero, List.set_cons_succ])
        refine Plan.runs_nil (fun F wn hb2 hf => ?_)
        have HBN := hid (HBR.out.trans (hb2.mono HBR.out.size))
        clear hf hb2
        go_wp2_with fail
        go_roundw
        case rel =>
          refine ⟨2, by omega, by go_num, fun j hj => ?_, HBN.out⟩
          rcases (show j < 1 ∨ j = 1 by omega) with h | rfl
          · exact HALL.out j h
          · exact HO.out
        case measure => simp [intOf]
    · go_wp2_with fail
      have hcall := fun (w' : World) (hb : Below wo.heap.size wo w') => operandC_calls lo1 lo2 _ _ _ _ p f x r2.toNat x.c w' (hp.below (HB3.out.trans (hb.mono HB3.out.size))) (hlen.below (HB3.out.trans (hb.mono HB3.out.size))) hg HL.out.2.2
      have he : opOk p f x 2 = operandC p f x r2.toNat x.c := by unfold opOk; rw [HQ.out.2.2]; rfl
      cases hx : opOk p f x 2 with
      | false =>
        rw [he] at hx
        have HX := hid hx
        have HE := hid he
        clear hx he
        refine Plan.wp_facts (B := wo.heap.size) planCI [(7, valF (.bool false))] (by kernel_rfl) rfl (by kernel_rfl) (by kernel_rfl) (Nat.le_refl _) ?_
        repeat (first | (apply Plan.runs_skip rfl rfl; simp only [Act.put, List.setIfInBounds_toArray, List.set_cons_zero, List.set_cons_succ]) | (apply Plan.runs_det rfl rfl; (· intro F w' hb hf; obtain ⟨hcl, hfz⟩ := bcell hb; go_simp; rfl); simp only [Act.put, List.setIfInBounds_toArray, List.set_cons_zero, List.set_cons_succ]))
        refine Plan.runs_call_val (.bool false) 69 #[.agg #[.slice fa p.funcs.length fc, .slice ga p.globals.length gc, .slice la p.layouts.length lc, .int .i64 p.main, .string f.name, .int .i64 f.params, .int .i64 f.regs, .slice ca f.code.length cc], .agg #[.int .i64 x.op, .int .i64 x.a, .int .i64 x.b, .int .i64 x.c, .int .i64 x.pos], .int .u8 r2.toNat, .int .i64 x.c] rfl rfl _ rfl rfl (fun F w' hb hf => by go_simp; rfl) rfl (fun F w' hb hf => ?_) ?_
        · refine (hcall w' hb).mono ?_
          rintro e w'' ⟨rfl, hb'⟩
          exact ⟨by rw [HX.out], hb'⟩
        simp only [Act.put, List.setIfInBounds_toArray, List.set_cons_zero, List.set_cons_succ]
        repeat (apply Plan.runs_det rfl rfl; (· intro F w hb hf; go_simp; rfl); simp only [Act.put, List.setIfInBounds_toArray, List.set_cons_zero, List.set_cons_succ])
        refine Plan.runs_nil (fun F wn hb2 hf => ?_)
        have HBN := hid (HB3.out.trans (hb2.mono HB3.out.size))
        clear hf hb2
        go_wp2_with fail
        go_ret
        refine ⟨ret_bool ?_, HBN.out⟩
        rw [HIC.out]
        rw [HALL.out 0 (by omega), HALL.out 1 (by omega), Bool.true_and, Bool.true_and]
        rw [HE.out, HX.out]; rfl
      | true =>
        have HO := hid hx
        rw [he] at hx
        have HX := hid hx
        clear hx he
        refine Plan.wp_facts (B := wo.heap.size) planCI [(7, valF (.bool true))] (by kernel_rfl) rfl (by kernel_rfl) (by kernel_rfl) (Nat.le_refl _) ?_
        repeat (first | (apply Plan.runs_skip rfl rfl; simp only [Act.put, List.setIfInBounds_toArray, List.set_cons_zero, List.set_cons_succ]) | (apply Plan.runs_det rfl rfl; (· intro F w' hb hf; obtain ⟨hcl, hfz⟩ := bcell hb; go_simp; rfl); simp only [Act.put, List.setIfInBounds_toArray, List.set_cons_zero, List.set_cons_succ]))
        refine Plan.runs_call_val (.bool true) 69 #[.agg #[.slice fa p.funcs.length fc, .slice ga p.globals.length gc, .slice la p.layouts.length lc, .int .i64 p.main, .string f.name, .int .i64 f.params, .int .i64 f.regs, .slice ca f.code.length cc], .agg #[.int .i64 x.op, .int .i64 x.a, .int .i64 x.b, .int .i64 x.c, .int .i64 x.pos], .int .u8 r2.toNat, .int .i64 x.c] rfl rfl _ rfl rfl (fun F w' hb hf => by go_simp; rfl) rfl (fun F w' hb hf => ?_) ?_
        · refine (hcall w' hb).mono ?_
          rintro e w'' ⟨rfl, hb'⟩
          exact ⟨by rw [HX.out], hb'⟩
        simp only [Act.put, List.setIfInBounds_toArray, List.set_cons_zero, List.set_cons_succ]
        repeat (apply Plan.runs_det rfl rfl; (· intro F w hb hf; go_simp; rfl); simp only [Act.put, List.setIfInBounds_toArray, List.set_cons_zero, List.set_cons_succ])
        refine Plan.runs_nil (fun F wn hb2 hf => ?_)
        have HBN := hid (HBR.out.trans (hb2.mono HBR.out.size))
        clear hf hb2
        go_wp2_with fail
        go_roundw
        case rel =>
          refine ⟨3, by omega, by go_num, fun j hj => ?_, HBN.out⟩
          rcases (show j < 2 ∨ j = 2 by omega) with h | rfl
          · exact HALL.out j h
          · exact HO.out
        case measure => simp [intOf]
    · have hT : instrC p f x = (!(x.op == 38) || decide (x.c < f.regs - 1)) := by
        rw [HIC.out, HALL.out 0 (by omega), HALL.out 1 (by omega), HALL.out 2 (by omega)]; rfl
      have HT := hid hT
      clear hT
      by_cases h38 : x.op = 38
      · have g1 : (x.op != 38) = false := by simp [h38]
        have HG := hid h38
        clear h38
        by_cases hcr : x.c < f.regs - 1
        · have g2 : decide (x.c < f.regs - 1) = true := decide_eq_true hcr
          go_wp2_with fail
          go_ret
          exact ⟨ret_bool (by rw [HT.out, HG.out]; simp [hcr]), HB3.out⟩
        · have g2 : decide (x.c < f.regs - 1) = false := decide_eq_false hcr
          go_wp2_with fail
          go_ret
          exact ⟨ret_bool (by rw [HT.out, HG.out]; simp; omega), HB3.out⟩
      · have g1 : (x.op != 38) = true := by simp [h38]
        have HG := hid h38
        clear h38
        go_wp2_with fail
        go_ret
        exact ⟨ret_bool (by rw [HT.out]; simp [HG.out]), HB3.out⟩

theorem instrC_bad (vf vg vl vc : Value) (p : Prg) (f : Fun) (x : Ins) (w : World) (h : decide (x.pos < 0) = true ∨ ¬ (0 < x.op ∧ x.op < 53)) : instrC p f x = false := by
  rcases h with h | h
  · have : decide (0 ≤ x.pos) = false := by simp at h; simp [h]
    simp [instrC, this]
  · simp [instrC, rolesC_out x.op h]

set_option maxRecDepth 100000 in
set_option maxHeartbeats 4000000 in
theorem instrC_calls (lo1 lo2 : Nat) (vf vg vl vc : Value) (p : Prg) (f : Fun) (x : Ins) (w : World) (hp : ProgAt lo1 w vf vg vl p) (hc : CodeAt lo2 w vc f.code) (hg : 0 ≤ f.regs ∧ f.regs ≤ 64) :
    Calls Try.prog 60 #[.agg #[vf, vg, vl, .int .i64 p.main, .string f.name, .int .i64 f.params, .int .i64 f.regs, vc], .agg #[.int .i64 x.op, .int .i64 x.a, .int .i64 x.b, .int .i64 x.c, .int .i64 x.pos]] w
      fun e w' => e = .returned (.bool (instrC p f x)) ∧ Below w.heap.size w w' := by
  by_cases hop : 0 < x.op ∧ x.op < 53
  · cases hpos : decide (x.pos < 0) with
    | false => exact instrC_ok lo1 lo2 vf vg vl vc p f x w hp hc hg hop hpos
    | true =>
      rw [instrC_bad vf vg vl vc p f x w (.inl hpos)]
      have hokv : (decide (0 < x.op) && decide (x.op < 53)) = true := by simp [hop]
      obtain ⟨ca, cc, cb, co, rfl, hz4⟩ := hc.open
      clear hz4 hop
      go_enter Try.func60, Try.ntmps60
      go_wp2_with fail
      generalize hW : World.alloc _ _ = W
      have hbW : Below w.heap.size w W := by rw [← hW]; exact ((Below.refl _ _).alloc (Nat.le_refl _) _).alloc (by simp) _
      have R2 : RowAt W (w.heap.size + 1) [.int .i64 x.op, .int .i64 x.a, .int .i64 x.b, .int .i64 x.c, .int .i64 x.pos] := by
        rw [← hW]
        exact RowAt.new _ _ _ _ _ (by simp) rfl
      have hsz : w.heap.size + 1 < W.heap.size := R2.1
      clear hW
      refine (describe_calls x.op W).mono ?_
      rintro e w1 ⟨rfl, hb1⟩
      rw [hokv]
      have HB1 := hid (hbW.trans (hb1.mono (by omega)))
      have R2b := R2.below hb1
      have b4 := R2b.2 4 _ rfl
      have s1 := R2b.1
      clear hb1 hbW R2 hsz hokv R2b
      go_wp2_with fail
      go_ret
      exact ⟨rfl, HB1.out.alloc (by have := HB1.out.size; omega) _⟩
  · rw [instrC_bad vf vg vl vc p f x w (.inr hop)]
    have hokv : (decide (0 < x.op) && decide (x.op < 53)) = false := by simp; omega
    obtain ⟨ca, cc, cb, co, rfl, hz4⟩ := hc.open
    clear hz4 hop
    go_enter Try.func60, Try.ntmps60
    go_wp2_with fail
    generalize hW : World.alloc _ _ = W
    have hbW : Below w.heap.size w W := by rw [← hW]; exact ((Below.refl _ _).alloc (Nat.le_refl _) _).alloc (by simp) _
    have hsz : w.heap.size + 1 < W.heap.size := by rw [← hW]; simp
    clear hW
    refine (describe_calls x.op W).mono ?_
    rintro e w1 ⟨rfl, hb1⟩
    rw [hokv]
    have HB1 := hid (hbW.trans (hb1.mono (by omega)))
    clear hb1 hbW hsz hokv
    go_wp2_with fail
    go_ret
    exact ⟨rfl, HB1.out.alloc (by have := HB1.out.size; omega) _⟩

end Go.Proofs.Ytealeofgfgbheaa
