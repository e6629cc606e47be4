/-
  The function of a valid program that a statement is about.
-/
import Derived.Test.YtiaajdckhedofaaValid
import Derived.Test.YtiaajdckhedofaaJok
import Derived.Test.YtiaajdckhedofaaVisit
namespace Go.Proofs.Ytiaajdckhedofaa
set_option linter.unusedVariables false
set_option linter.unusedSimpArgs false
open Go.RowKit

set_option maxRecDepth 100000 in
set_option maxHeartbeats 4000000 in
theorem pick_no (lo : Nat) (vf vg vl : Value) (p : Prg) (n : Nat) (w : World) (hp : ProgAt lo w vf vg vl p) (hv : validB p = false) :
    Calls Try.prog 10 #[.agg #[vf, vg, vl, .int .i64 p.main], .int .u8 n] w fun e w' => e = .returned (.tuple #[.agg #[.string ⟨#[]⟩, .int .i64 0, .int .i64 0, .slice none 0 0], .bool false]) ∧ Below w.heap.size w w' := by
  go_enter Try.func10, Try.ntmps10
  go_wp2_with fail
  refine (valid_calls lo vf vg vl p _ (hp.below (((Below.refl _ _).alloc (Nat.le_refl _) _).alloc (by simp) _))).mono ?_
  rintro e w1 ⟨rfl, hb1⟩
  rw [hv]
  have e1 : ∀ k, k < 4 → w1.cell? ⟨w.heap.size + 1, k, none⟩ = some (nth [Value.string ⟨#[]⟩, .int .i64 0, .int .i64 0, .slice none 0 0] k) := fun k hk => by
    rw [hb1.cell (p := ⟨w.heap.size + 1, k, none⟩) (show w.heap.size + 1 < _ by simp)]
    refine cell_new _ _ _ _ _ (by simp) ?_
    match k, hk with
    | 0, _ => rfl
    | 1, _ => rfl
    | 2, _ => rfl
    | 3, _ => rfl
  have c0 := e1 0 (by omega)
  have c1 := e1 1 (by omega)
  have c2 := e1 2 (by omega)
  have c3 := e1 3 (by omega)
  simp only [nth, List.getD_cons_zero, List.getD_cons_succ] at c0 c1 c2 c3
  have z : ∀ k, w1.frozen? ⟨w.heap.size + 1, k, none⟩ = false := fun k => by
    rw [hb1.frozen (p := ⟨w.heap.size + 1, k, none⟩) (show w.heap.size + 1 < _ by simp)]
    exact frozen_new _ _ _ _ _ (by simp)
  have z0 := z 0
  have z1 := z 1
  have z2 := z 2
  have z3 := z 3
  have hsz : w.heap.size + 1 < w1.heap.size := by have := hb1.size; simp at this; omega
  have HB1 := hid hb1
  clear hb1 e1 z
  go_wp2_with fail
  refine bodyPost_ret (v := .tuple #[.agg #[.string ⟨#[]⟩, .int .i64 0, .int .i64 0, .slice none 0 0], .bool false]) (by simp [results, Try.results10, go_sem, c0, c1, c2, c3]) rfl ⟨rfl, ?_⟩
  have hb : Below w.heap.size w w1 := (((Below.refl _ _).alloc (Nat.le_refl _) _).alloc (by simp) _).trans (HB1.out.mono (by simp; omega))
  exact (((hb.setCell (Nat.le_succ _) _).setCell (Nat.le_succ _) _).setCell (Nat.le_succ _) _).setCell (Nat.le_succ _) _

set_option maxRecDepth 100000 in
set_option maxHeartbeats 4000000 in
theorem pick_yes (lo : Nat) (vf vg vl : Value) (p : Prg) (n : Nat) (w : World) (hp : ProgAt lo w vf vg vl p) (hv : validB p = true) (hn : n < 256) :
    Calls Try.prog 10 #[.agg #[vf, vg, vl, .int .i64 p.main], .int .u8 n] w fun e w' => ∃ vc, e = .returned (.tuple #[.agg #[.string (nth p.funcs (n % p.funcs.length)).name, .int .i64 (nth p.funcs (n % p.funcs.length)).params, .int .i64 (nth p.funcs (n % p.funcs.length)).regs, vc], .bool true]) ∧
      CodeAt lo w' vc (nth p.funcs (n % p.funcs.length)).code ∧ Below w.heap.size w w' := by
  obtain ⟨hl0, hl1⟩ := valid_pos hv
  have hmod : n % p.funcs.length < p.funcs.length := Nat.mod_lt _ hl0
  have hidx : (wrap64 (n : Int)).tmod (p.funcs.length : Int) = ((n % p.funcs.length : Nat) : Int) := by
    have e : wrap64 (n : Int) = (n : Int) := by unfold wrap64; omega
    rw [e]
    exact (Int.tmod_eq_emod_of_nonneg (by omega)).trans (by simp)
  have hidx2 : (n : Int) % (p.funcs.length : Int) = ((n % p.funcs.length : Nat) : Int) := by simp
  generalize n % p.funcs.length = m at *
  have hz0 : ((p.funcs.length : Int) == 0) = false := beq_eq_false_iff_ne.2 (by omega)
  obtain ⟨fa, fc, fb, fo, S, rfl, fp, f0, f1, f2, f3, fcode, fbl, _, _, _⟩ := hp.funcs.open
  obtain rfl := fp hl0
  have g0 := f0 _ hmod
  have g1 := f1 _ hmod
  have g2 := f2 _ hmod
  have g3 := f3 _ hmod
  have hcode := hid (fcode _ hmod)
  have hfb := fbl hl0
  clear f0 f1 f2 f3 fcode fbl fp
  go_enter Try.func10, Try.ntmps10
  go_wp2_with fail
  refine (valid_calls lo _ vg vl p _ (hp.below (((Below.refl _ _).alloc (Nat.le_refl _) _).alloc (by simp) _))).mono ?_
  rintro e w1 ⟨rfl, hb1⟩
  rw [hv]
  have e1 : ∀ k, k < 4 → w1.cell? ⟨w.heap.size + 1, k, none⟩ = some (nth [Value.string ⟨#[]⟩, .int .i64 0, .int .i64 0, .slice none 0 0] k) := fun k hk => by
    rw [hb1.cell (p := ⟨w.heap.size + 1, k, none⟩) (show w.heap.size + 1 < _ by simp)]
    refine cell_new _ _ _ _ _ (by simp) ?_
    match k, hk with
    | 0, _ => rfl
    | 1, _ => rfl
    | 2, _ => rfl
    | 3, _ => rfl
  have c0 := e1 0 (by omega)
  have c1 := e1 1 (by omega)
  have c2 := e1 2 (by omega)
  have c3 := e1 3 (by omega)
  simp only [nth, List.getD_cons_zero, List.getD_cons_succ] at c0 c1 c2 c3
  have e2 : w1.cell? ⟨w.heap.size, 0, none⟩ = some (.slice (some ⟨fb, fo, none⟩) p.funcs.length fc) := by
    rw [hb1.cell (p := ⟨w.heap.size, 0, none⟩) (show w.heap.size < _ by simp; omega), World.cell?_alloc_lt _ _ _ (show w.heap.size < _ by simp)]
    exact cell_new _ _ _ _ _ rfl rfl
  have hb : Below w.heap.size w w1 := (((Below.refl _ _).alloc (Nat.le_refl _) _).alloc (by simp) _).trans (hb1.mono (by simp; omega))
  rw [← hb.cell (p := ⟨fb, _, none⟩) hfb] at g0 g1 g2 g3
  have z : ∀ k, w1.frozen? ⟨w.heap.size + 1, k, none⟩ = false := fun k => by
    rw [hb1.frozen (p := ⟨w.heap.size + 1, k, none⟩) (show w.heap.size + 1 < _ by simp)]
    exact frozen_new _ _ _ _ _ (by simp)
  have z0 := z 0
  have z1 := z 1
  have z2 := z 2
  have z3 := z 3
  have hsz : w.heap.size + 1 < w1.heap.size := by have := hb1.size; simp at this; omega
  have HB1 := hid hb
  have HP := hid hp
  have HV := hid hv
  clear hb1 e1 z hb hp hv
  go_wp2_with fail
  go_region
  go_wp2_with fail
  refine bodyPost_ret (v := .tuple #[.agg #[.string (nth p.funcs m).name, .int .i64 (nth p.funcs m).params, .int .i64 (nth p.funcs m).regs, .slice (S m).a (nth p.funcs m).code.length (S m).c], .bool true])
    (by simp [results, Try.results10, go_sem, c0, c1, c2, c3, hsz]) rfl ?_
  have hb : Below w.heap.size w ((((w1.setCell ⟨w.heap.size + 1, 0, none⟩ (Value.string (nth p.funcs m).name)).setCell ⟨w.heap.size + 1, 1, none⟩ (Value.int IntKind.i64 (nth p.funcs m).params)).setCell ⟨w.heap.size + 1, 2, none⟩
      (Value.int IntKind.i64 (nth p.funcs m).regs)).setCell ⟨w.heap.size + 1, 3, none⟩ (Value.slice (S m).a (nth p.funcs m).code.length (S m).c)).drew :=
    ((((HB1.out.setCell (Nat.le_succ _) _).setCell (Nat.le_succ _) _).setCell (Nat.le_succ _) _).setCell (Nat.le_succ _) _).drew
  exact ⟨_, rfl, hcode.out.below hb, hb⟩

end Go.Proofs.Ytiaajdckhedofaa
