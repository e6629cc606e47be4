/-
  One instruction of a program; numbers in increasing order.
-/
import Derived.Test.YtihcngjkflaelaaGreatDoorZCInstr
import Derived.Test.YtihcngjkflaelaaGreatDoorZRow
import Derived.Test.YtihcngjkflaelaaGreatDoorZCode
namespace Go.Proofs.YtihcngjkflaelaaGreatDoor
set_option linter.unusedVariables false
set_option linter.unusedSimpArgs false
open Go.RowKit

/-- The instruction pc of function fn. -/
def insAt (p : Prg) (fn pc : Int) : Option Ins := if 0 ≤ fn ∧ fn < p.funcs.length then (if 0 ≤ pc ∧ pc < (nth p.funcs fn.toNat).code.length then some (nth (nth p.funcs fn.toNat).code pc.toNat) else none) else none

set_option maxRecDepth 100000 in
set_option maxHeartbeats 4000000 in
theorem at_no1 (fa ga la : Option Addr) (nf fc ng gc nl lc : Nat) (main fn pc : Int) (w : World) (hnf : nf ≤ 140737488355328) (hb : btw fn 0 ((nf : Int) - 1) = false) :
    Calls Tryz.prog 38 #[.agg #[.slice fa nf fc, .slice ga ng gc, .slice la nl lc, .int .i64 main], .int .i64 fn, .int .i64 pc] w fun e w' => e = .returned (.tuple #[.agg #[.int .i64 0, .int .i64 0, .int .i64 0, .int .i64 0, .int .i64 0], .bool false]) ∧ Below w.heap.size w w' := by
  go_enter Tryz.func38, Tryz.ntmps38
  go_wp2_with (go_at_call 32; refine (btw_calls _ _ _ _).mono ?_; rintro e w1 ⟨rfl, rfl⟩)
  refine bodyPost_ret (v := .tuple #[.agg #[.int .i64 0, .int .i64 0, .int .i64 0, .int .i64 0, .int .i64 0], .bool false]) (by simp [results, Tryz.results38, go_sem]) rfl ⟨rfl, ?_⟩
  exact ((Below.refl _ _).alloc (Nat.le_refl _) _).alloc (by simp) _

set_option maxRecDepth 100000 in
set_option maxHeartbeats 4000000 in
theorem at_no2 (ga la : Option Addr) (fb fo nf fc ng gc nl lc k n cc : Nat) (ca : Option Addr) (main pc : Int) (w : World) (hnf : nf ≤ 140737488355328) (hn : n ≤ 140737488355328) (hk : k < nf) (hfb : fb < w.heap.size) (hfb1 : fb < w.heap.size + 1) (hfb2 : fb < w.heap.size + 1 + 1)
    (q : w.cell? ⟨fb, fo + k * 4 + 3, none⟩ = some (.slice ca n cc)) (hb : btw k 0 ((nf : Int) - 1) = true) (hb2 : btw pc 0 ((n : Int) - 1) = false) :
    Calls Tryz.prog 38 #[.agg #[.slice (some ⟨fb, fo, none⟩) nf fc, .slice ga ng gc, .slice la nl lc, .int .i64 main], .int .i64 k, .int .i64 pc] w fun e w' => e = .returned (.tuple #[.agg #[.int .i64 0, .int .i64 0, .int .i64 0, .int .i64 0, .int .i64 0], .bool false]) ∧ Below w.heap.size w w' := by
  have hk2 : (k : Int) < nf := by omega
  go_enter Tryz.func38, Tryz.ntmps38
  go_wp2_with (go_at_call 32; refine (btw_calls _ _ _ _).mono ?_; rintro e w1 ⟨rfl, rfl⟩)
  refine bodyPost_ret (v := .tuple #[.agg #[.int .i64 0, .int .i64 0, .int .i64 0, .int .i64 0, .int .i64 0], .bool false]) (by simp [results, Tryz.results38, go_sem]) rfl ⟨rfl, ?_⟩
  exact ((Below.refl _ _).alloc (Nat.le_refl _) _).alloc (by simp) _

set_option maxRecDepth 100000 in
set_option maxHeartbeats 4000000 in
theorem at_yes (ga la : Option Addr) (fb fo nf fc ng gc nl lc k n cc cb co j : Nat) (main : Int) (x : Ins) (w : World) (hnf : nf ≤ 140737488355328) (hn : n ≤ 140737488355328) (hk : k < nf) (hj : j < n) (hfb : fb < w.heap.size) (hfb1 : fb < w.heap.size + 1) (hfb2 : fb < w.heap.size + 1 + 1) (hcb : cb < w.heap.size) (hcb1 : cb < w.heap.size + 1) (hcb2 : cb < w.heap.size + 1 + 1)
    (q : w.cell? ⟨fb, fo + k * 4 + 3, none⟩ = some (.slice (some ⟨cb, co, none⟩) n cc)) (hb : btw k 0 ((nf : Int) - 1) = true) (hb2 : btw j 0 ((n : Int) - 1) = true)
    (d0 : w.cell? ⟨cb, co + j * 5, none⟩ = some (.int .i64 x.op)) (d1 : w.cell? ⟨cb, co + j * 5 + 1, none⟩ = some (.int .i64 x.a)) (d2 : w.cell? ⟨cb, co + j * 5 + 2, none⟩ = some (.int .i64 x.b)) (d3 : w.cell? ⟨cb, co + j * 5 + 3, none⟩ = some (.int .i64 x.c)) (d4 : w.cell? ⟨cb, co + j * 5 + 4, none⟩ = some (.int .i64 x.pos)) :
    Calls Tryz.prog 38 #[.agg #[.slice (some ⟨fb, fo, none⟩) nf fc, .slice ga ng gc, .slice la nl lc, .int .i64 main], .int .i64 k, .int .i64 j] w fun e w' => e = .returned (.tuple #[.agg #[.int .i64 x.op, .int .i64 x.a, .int .i64 x.b, .int .i64 x.c, .int .i64 x.pos], .bool true]) ∧ Below w.heap.size w w' := by
  have hk2 : (k : Int) < nf := by omega
  have hj2 : (j : Int) < n := by omega
  go_enter Tryz.func38, Tryz.ntmps38
  go_wp2_with (go_at_call 32; refine (btw_calls _ _ _ _).mono ?_; rintro e w1 ⟨rfl, rfl⟩)
  refine bodyPost_ret (v := .tuple #[.agg #[.int .i64 x.op, .int .i64 x.a, .int .i64 x.b, .int .i64 x.c, .int .i64 x.pos], .bool true]) (by simp [results, Tryz.results38, go_sem]) rfl ⟨rfl, ?_⟩
  exact ((Below.refl _ _).alloc (Nat.le_refl _) _).alloc (by simp) _

theorem btw_iff (v n : Int) : btw v 0 (n - 1) = true ↔ 0 ≤ v ∧ v < n := by simp [btw]; omega
theorem at_calls (lo : Nat) (vf vg vl : Value) (p : Prg) (fn pc : Int) (w : World) (hp : ProgAt lo w vf vg vl p) :
    Calls Tryz.prog 38 #[.agg #[vf, vg, vl, .int .i64 p.main], .int .i64 fn, .int .i64 pc] w fun e w' => e = .returned (.tuple #[.agg #[.int .i64 ((insAt p fn pc).getD default).op, .int .i64 ((insAt p fn pc).getD default).a, .int .i64 ((insAt p fn pc).getD default).b, .int .i64 ((insAt p fn pc).getD default).c, .int .i64 ((insAt p fn pc).getD default).pos], .bool (insAt p fn pc).isSome]) ∧ Below w.heap.size w w' := by
  obtain ⟨fa, fc, fb, fo, S, rfl, fp, _, _, _, f3, fcode, fbl, _, _, hnf⟩ := hp.funcs.open
  obtain ⟨ga, gc, gb, go, rfl, _⟩ := hp.globs.open
  obtain ⟨la, lc, lb, lo', LS, rfl, _⟩ := hp.lays.open
  cases h1 : btw fn 0 ((p.funcs.length : Int) - 1) with
  | false =>
    have e : insAt p fn pc = none := by
      unfold insAt
      rw [if_neg]
      intro h
      rw [(btw_iff _ _).2 h] at h1; cases h1
    rw [e]
    exact at_no1 fa ga la _ fc _ gc _ lc p.main fn pc w hnf h1
  | true =>
    have h2 := (btw_iff _ _).1 h1
    obtain ⟨k, rfl⟩ := Int.eq_ofNat_of_zero_le h2.1
    have hk : k < p.funcs.length := by omega
    have e1 := fp (by omega)
    subst e1
    have hfb := fbl (by omega)
    have hc := fcode k hk
    obtain ⟨_, _, cb, co, hce, cp, c0, c1, c2, c3, c4, cbl, _, _, _, hn⟩ := hc.open
    obtain ⟨rfl, _, rfl⟩ := Value.slice.inj hce
    have e3 : insAt p k pc = if 0 ≤ pc ∧ pc < (nth p.funcs k).code.length then some (nth (nth p.funcs k).code pc.toNat) else none := by
      unfold insAt; rw [if_pos h2]; rfl
    cases h3 : btw pc 0 (((nth p.funcs k).code.length : Int) - 1) with
    | false =>
      have e : insAt p k pc = none := by
        rw [e3, if_neg]
        intro h
        rw [(btw_iff _ _).2 h] at h3; cases h3
      rw [e]
      exact at_no2 ga la fb fo _ fc _ gc _ lc k _ _ _ p.main pc w hnf hn hk hfb (by omega) (by omega) (f3 k hk) h1 h3
    | true =>
      have h4 := (btw_iff _ _).1 h3
      obtain ⟨j, rfl⟩ := Int.eq_ofNat_of_zero_le h4.1
      have hj : j < (nth p.funcs k).code.length := by omega
      rw [e3, if_pos h4]
      have hcb := cbl (by omega)
      have hq := f3 k hk
      have hcp := cp (by omega)
      rw [hcp] at hq
      exact at_yes ga la fb fo _ fc _ gc _ lc k _ _ cb co j p.main (nth (nth p.funcs k).code j) w hnf hn hk hj hfb (by omega) (by omega) hcb (by omega) (by omega) hq h1 h3 (c0 j hj) (c1 j hj) (c2 j hj) (c3 j hj) (c4 j hj)

set_option maxRecDepth 100000 in
set_option maxHeartbeats 4000000 in
theorem sorted9_calls {base : Nat} {w : World} {v : Value} {l : List Int} (h : OwnE intE base 3 w v l) (hn : l.length ≤ 140737488355328) :
    Calls Tryz.prog 39 #[v] w fun e w' => ∃ v', e = .returned v' ∧ OwnE intE base 3 w' v' (setL l) ∧ w.grownBy w' v.ownBlock := by
  have hs := sort_calls h hn
  have HH := hid h
  go_enter Tryz.func39, Tryz.ntmps39
  go_wp2_with fail
  refine hs.mono ?_
  rintro e w1 ⟨rfl, ho, hg⟩
  have hc := compact_calls ho (by rw [sortI_length]; exact hn)
  have HG := hid hg
  clear hs ho hg
  go_wp2_with fail
  refine hc.mono ?_
  rintro e w2 ⟨v', rfl, ho, hg, _⟩
  have HO := hid ho
  have HG2 := hid hg
  clear hc ho hg
  go_wp2_with fail
  go_ret
  exact ⟨_, rfl, HO.out, HG.out.trans HG2.out⟩

end Go.Proofs.YtihcngjkflaelaaGreatDoor
