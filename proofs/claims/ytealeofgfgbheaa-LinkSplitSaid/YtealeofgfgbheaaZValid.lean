/-
  Parts of the proof.
-/
import Derived.Test.YtealeofgfgbheaaProg
import Derived.Deep.QuietTactic
import Derived.BigQuiet
import Derived.Test.YtealeofgfgbheaaZFunc
import Derived.Test.YtealeofgfgbheaaZEqC
namespace Go.Proofs.Ytealeofgfgbheaa
set_option linter.unusedVariables false
set_option linter.unusedSimpArgs false
open Go.RowKit

theorem all_false {α : Type} [Inhabited α] (l : List α) (f : α → Bool) (k : Nat) (hk : k < l.length) (h : f (nth l k) = false) : l.all f = false := by
  rw [List.all_eq_false]
  exact ⟨nth l k, nth_mem l k hk, by rw [h]; simp⟩
theorem all_true {α : Type} [Inhabited α] (l : List α) (f : α → Bool) (h : ∀ j, j < l.length → f (nth l j) = true) : l.all f = true := by
  rw [List.all_eq_true]
  intro x hx
  obtain ⟨i, hi, rfl⟩ := List.mem_iff_getElem.1 hx
  rw [← nth_eq l i hi]
  exact h i hi
theorem all_at {α : Type} [Inhabited α] {l : List α} {f : α → Bool} (h : l.all f = true) (j : Nat) (hj : j < l.length) : f (nth l j) = true := (List.all_eq_true.1 h) _ (nth_mem l j hj)

def kindB (k : Int) : Bool := k == 0 || k == 1
def rowB (r : List Int) : Bool := r.all kindB && decide (r.length ≤ 64)
def laysB (l : List (List Int)) : Bool := l.all rowB && decide (l.length ≤ 32)

set_option maxHeartbeats 1000000 in
theorem layouts_calls (lo : Nat) (vl : Value) (l : List (List Int)) (w : World) (hl : LaysAt lo w vl l) :
    Calls Try.prog 42 #[vl] w fun e w' => e = .returned (.bool (laysB l)) ∧ Below w.heap.size w w' := by
  obtain ⟨a, c, b, o, S, rfl, hp, q0, hrow, hb, hlc, hcm, hn⟩ := hl.open
  go_enter Try.func42, Try.ntmps42
  go_wp2
  go_loop [3] (fun i => ∃ k : Nat, k ≤ l.length ∧ i = .int .i64 k ∧ ∀ j, j < k → rowB (nth l j) = true) (fun i => l.length - (intOf i).toNat)
  case atStart => exact ⟨0, Nat.zero_le _, rfl, fun j hj => by omega⟩
  case round =>
    obtain ⟨k, hk, rfl, hall⟩ := hrel
    have HALL := hid hall
    clear hall
    by_cases hkl : k < l.length
    · have e1 := hp (by omega)
      subst e1
      have d0 := q0 k hkl
      obtain ⟨ra, rc, rb, ro, he, rp, r0, _, _, hrc, hrcm, hrn⟩ := (hrow k hkl).open
      have hlt : (nth l k).length ≤ 140737488355328 := hrn
      have hrw : rowB (nth l k) = false → laysB l = false := fun h => by simp [laysB, all_false l rowB k hkl h]
      have HRW := hid hrw
      obtain ⟨ea, _, ec⟩ := Value.slice.inj he
      rw [ea, ec] at d0
      generalize hge : nth l k = row at *
      have HGE := hid hge
      clear he ea ec hp q0 hrow hb hrw hge
      go_wp2
      go_loop [4] (fun i => ∃ m : Nat, m ≤ row.length ∧ i = .int .i64 m ∧ ∀ j, j < m → kindB (nth row j) = true) (fun i => row.length - (intOf i).toNat)
      case atStart => exact ⟨0, Nat.zero_le _, rfl, fun j hj => by omega⟩
      case round =>
        obtain ⟨m, hm, rfl, hkin⟩ := hrel
        have HKIN := hid hkin
        clear hkin
        by_cases hml : m < row.length
        · have e2 := rp (by omega)
          subst e2
          have d1 := r0 m hml
          by_cases h0 : nth row m = 0
          · have f0 : (nth row m != 0) = false := by simp [h0]
            have HK := hid (show kindB (nth row m) = true by simp [kindB, h0])
            clear h0 rp r0
            go_wp2
            go_round
            case rel => exact ⟨m + 1, by omega, by go_num, upto_succ HKIN.out HK.out⟩
            case measure => simp [intOf]; omega
          · by_cases h1 : nth row m = 1
            · have f0 : (nth row m != 0) = true := by simp [h0]
              have f1 : (nth row m != 1) = false := by simp [h1]
              have HK := hid (show kindB (nth row m) = true by simp [kindB, h1])
              clear h0 h1 rp r0
              go_wp2
              go_round
              case rel => exact ⟨m + 1, by omega, by go_num, upto_succ HKIN.out HK.out⟩
              case measure => simp [intOf]; omega
            · have f0 : (nth row m != 0) = true := by simp [h0]
              have f1 : (nth row m != 1) = true := by simp [h1]
              have HK := hid (show kindB (nth row m) = false by simp [kindB, h0, h1])
              clear h0 h1 rp r0
              go_wp2
              go_ret
              refine ⟨ret_bool ?_, Below.refl _ _⟩
              exact (HRW.out (by simp [rowB, all_false row kindB m hml HK.out])).symm
        · have hme : m = row.length := by omega
          have HME := hid hme
          clear hme rp r0
          by_cases h64 : row.length ≤ 64
          · have HK := hid (show rowB row = true by unfold rowB; rw [all_true row kindB (fun j hj => HKIN.out j (by have := HME.out; omega))]; simpa using h64)
            have f64 : decide (64 < (row.length : Int)) = false := by simp; omega
            go_wp2
            go_round
            case rel => exact ⟨k + 1, by omega, by go_num, upto_succ HALL.out (by rw [HGE.out]; exact HK.out)⟩
            case measure => simp [intOf]; omega
          · have f64 : decide (64 < (row.length : Int)) = true := by simp; omega
            go_wp2
            go_ret
            refine ⟨ret_bool ?_, Below.refl _ _⟩
            exact (HRW.out (by simp [rowB]; omega)).symm
    · go_wp2
      go_ret
      refine ⟨ret_bool ?_, Below.refl _ _⟩
      unfold laysB
      rw [all_true l rowB (fun j hj => HALL.out j (by omega)), Bool.true_and, decide_eq_decide]
      omega

end Go.Proofs.Ytealeofgfgbheaa

namespace Go.Proofs.Ytealeofgfgbheaa
set_option linter.unusedVariables false
set_option linter.unusedSimpArgs false
open Go.RowKit

def sameName (a b : ByteArray) : Bool := a.toList == b.toList
def globOk (l : List Glob) (i : Nat) : Bool := !(nth l i).name.toList.isEmpty && (kindB (nth l i).kind && (List.range i).all fun k => !sameName (nth l k).name (nth l i).name)
def globsB (l : List Glob) : Bool := (List.range l.length).all (globOk l)
def funOk (p : Prg) (i : Nat) : Bool := funcB p (nth p.funcs i) && (List.range i).all fun k => !sameName (nth p.funcs k).name (nth p.funcs i).name
def funsB (p : Prg) : Bool := (List.range p.funcs.length).all (funOk p)
def topB (p : Prg) : Bool := decide (p.funcs.length ≤ 64) && (decide (p.globals.length ≤ 64) && (laysB p.layouts && (decide (0 ≤ p.main) && (decide (p.main < (p.funcs.length : Int)) && ((nth p.funcs p.main.toNat).params == 0)))))
/-- Whether a program is valid. -/
def validB (p : Prg) : Bool := topB p && (globsB p.globals && funsB p)

theorem range_false (n : Nat) (f : Nat → Bool) (k : Nat) (hk : k < n) (h : f k = false) : (List.range n).all f = false := by
  rw [List.all_eq_false]; exact ⟨k, List.mem_range.2 hk, by rw [h]; simp⟩
theorem range_true (n : Nat) (f : Nat → Bool) (h : ∀ j, j < n → f j = true) : (List.range n).all f = true := by
  rw [List.all_eq_true]; intro x hx; exact h x (List.mem_range.1 hx)

noncomputable def planV17 : Plan := mkPlan (regionOf Try.f21 17) [(6, .new)] []

set_option maxRecDepth 100000 in
set_option maxHeartbeats 4000000 in
theorem valid_0 (lo : Nat) (fa ga la : Option Addr) (fc gc lc : Nat) (p : Prg) (w : World)  (h1 : decide (64 < (p.funcs.length : Int)) = true) (hl : LaysAt lo w (.slice la p.layouts.length lc) p.layouts) :
    Calls Try.prog 21 #[.agg #[.slice fa p.funcs.length fc, .slice ga p.globals.length gc, .slice la p.layouts.length lc, .int .i64 p.main]] w fun e w' => e = .returned (.bool false) ∧ Below w.heap.size w w' := by
  go_enter Try.func21, Try.ntmps21
  go_wp2_with fail
  go_ret
  exact ⟨rfl, (Below.refl _ _).alloc (Nat.le_refl _) _⟩

set_option maxRecDepth 100000 in
set_option maxHeartbeats 4000000 in
theorem valid_1 (lo : Nat) (fa ga la : Option Addr) (fc gc lc : Nat) (p : Prg) (w : World) (h1 : decide (64 < (p.funcs.length : Int)) = false) (h2 : decide (64 < (p.globals.length : Int)) = true) (hl : LaysAt lo w (.slice la p.layouts.length lc) p.layouts) :
    Calls Try.prog 21 #[.agg #[.slice fa p.funcs.length fc, .slice ga p.globals.length gc, .slice la p.layouts.length lc, .int .i64 p.main]] w fun e w' => e = .returned (.bool false) ∧ Below w.heap.size w w' := by
  go_enter Try.func21, Try.ntmps21
  go_wp2_with fail
  go_ret
  exact ⟨rfl, (Below.refl _ _).alloc (Nat.le_refl _) _⟩

set_option maxRecDepth 100000 in
set_option maxHeartbeats 4000000 in
theorem valid_2 (lo : Nat) (fa ga la : Option Addr) (fc gc lc : Nat) (p : Prg) (w : World) (h1 : decide (64 < (p.funcs.length : Int)) = false) (h2 : decide (64 < (p.globals.length : Int)) = false) (h3 : Hid (laysB p.layouts = false)) (hl : LaysAt lo w (.slice la p.layouts.length lc) p.layouts) :
    Calls Try.prog 21 #[.agg #[.slice fa p.funcs.length fc, .slice ga p.globals.length gc, .slice la p.layouts.length lc, .int .i64 p.main]] w fun e w' => e = .returned (.bool false) ∧ Below w.heap.size w w' := by
  go_enter Try.func21, Try.ntmps21
  go_wp2_with fail
  have hly := layouts_calls lo _ p.layouts (w.alloc (.cells #[.slice fa p.funcs.length fc, .slice ga p.globals.length gc, .slice la p.layouts.length lc, .int .i64 p.main] 26)) (hl.keep (Keep.below ((Below.refl _ _).alloc (Nat.le_refl _) _)))
  rw [h3.out] at hly
  refine hly.mono ?_
  rintro e w1 ⟨rfl, hb1⟩
  obtain ⟨hcl, hfz⟩ := bcell hb1
  have HB1 := hid hb1
  have hsz : w.heap.size + 1 ≤ w1.heap.size := by have := hb1.size; simp at this; omega
  clear hb1 hly
  go_wp2_with fail
  go_ret
  exact ⟨rfl, ((Below.refl _ _).alloc (Nat.le_refl _) _).trans (HB1.out.mono (by simp))⟩

set_option maxRecDepth 100000 in
set_option maxHeartbeats 4000000 in
theorem valid_3 (lo : Nat) (fa ga la : Option Addr) (fc gc lc : Nat) (p : Prg) (w : World) (h1 : decide (64 < (p.funcs.length : Int)) = false) (h2 : decide (64 < (p.globals.length : Int)) = false) (h3 : Hid (laysB p.layouts = true)) (h4 : decide (p.main < 0) = true) (hl : LaysAt lo w (.slice la p.layouts.length lc) p.layouts) :
    Calls Try.prog 21 #[.agg #[.slice fa p.funcs.length fc, .slice ga p.globals.length gc, .slice la p.layouts.length lc, .int .i64 p.main]] w fun e w' => e = .returned (.bool false) ∧ Below w.heap.size w w' := by
  go_enter Try.func21, Try.ntmps21
  go_wp2_with fail
  have hly := layouts_calls lo _ p.layouts (w.alloc (.cells #[.slice fa p.funcs.length fc, .slice ga p.globals.length gc, .slice la p.layouts.length lc, .int .i64 p.main] 26)) (hl.keep (Keep.below ((Below.refl _ _).alloc (Nat.le_refl _) _)))
  rw [h3.out] at hly
  refine hly.mono ?_
  rintro e w1 ⟨rfl, hb1⟩
  obtain ⟨hcl, hfz⟩ := bcell hb1
  have HB1 := hid hb1
  have hsz : w.heap.size + 1 ≤ w1.heap.size := by have := hb1.size; simp at this; omega
  clear hb1 hly
  go_wp2_with fail
  go_ret
  exact ⟨rfl, ((Below.refl _ _).alloc (Nat.le_refl _) _).trans (HB1.out.mono (by simp))⟩

set_option maxRecDepth 100000 in
set_option maxHeartbeats 4000000 in
theorem valid_4 (lo : Nat) (fa ga la : Option Addr) (fc gc lc : Nat) (p : Prg) (w : World) (h1 : decide (64 < (p.funcs.length : Int)) = false) (h2 : decide (64 < (p.globals.length : Int)) = false) (h3 : Hid (laysB p.layouts = true)) (h4 : decide (p.main < 0) = false) (h5 : decide ((p.funcs.length : Int) ≤ p.main) = true) (hl : LaysAt lo w (.slice la p.layouts.length lc) p.layouts) :
    Calls Try.prog 21 #[.agg #[.slice fa p.funcs.length fc, .slice ga p.globals.length gc, .slice la p.layouts.length lc, .int .i64 p.main]] w fun e w' => e = .returned (.bool false) ∧ Below w.heap.size w w' := by
  go_enter Try.func21, Try.ntmps21
  go_wp2_with fail
  have hly := layouts_calls lo _ p.layouts (w.alloc (.cells #[.slice fa p.funcs.length fc, .slice ga p.globals.length gc, .slice la p.layouts.length lc, .int .i64 p.main] 26)) (hl.keep (Keep.below ((Below.refl _ _).alloc (Nat.le_refl _) _)))
  rw [h3.out] at hly
  refine hly.mono ?_
  rintro e w1 ⟨rfl, hb1⟩
  obtain ⟨hcl, hfz⟩ := bcell hb1
  have HB1 := hid hb1
  have hsz : w.heap.size + 1 ≤ w1.heap.size := by have := hb1.size; simp at this; omega
  clear hb1 hly
  go_wp2_with fail
  go_ret
  exact ⟨rfl, ((Below.refl _ _).alloc (Nat.le_refl _) _).trans (HB1.out.mono (by simp))⟩

set_option maxRecDepth 100000 in
set_option maxHeartbeats 4000000 in
theorem valid_5 (lo : Nat) (ga la : Option Addr) (fb fo fc gc lc : Nat) (p : Prg) (m : Nat) (w : World) (x : Int) (h1 : decide (64 < (p.funcs.length : Int)) = false) (h2 : decide (64 < (p.globals.length : Int)) = false) (h3 : Hid (laysB p.layouts = true)) (hm : m < p.funcs.length) (hfb : fb < w.heap.size) (hfb1 : fb < w.heap.size + 1) (d1 : w.cell? ⟨fb, fo + m * 4 + 1, none⟩ = some (.int .i64 x)) (h6 : (x != 0) = true) (hl : LaysAt lo w (.slice la p.layouts.length lc) p.layouts) :
    Calls Try.prog 21 #[.agg #[.slice (some ⟨fb, fo, none⟩) p.funcs.length fc, .slice ga p.globals.length gc, .slice la p.layouts.length lc, .int .i64 m]] w fun e w' => e = .returned (.bool false) ∧ Below w.heap.size w w' := by
  go_enter Try.func21, Try.ntmps21
  go_wp2_with fail
  have hly := layouts_calls lo _ p.layouts (w.alloc (.cells #[.slice (some ⟨fb, fo, none⟩) p.funcs.length fc, .slice ga p.globals.length gc, .slice la p.layouts.length lc, .int .i64 m] 26)) (hl.keep (Keep.below ((Below.refl _ _).alloc (Nat.le_refl _) _)))
  rw [h3.out] at hly
  refine hly.mono ?_
  rintro e w1 ⟨rfl, hb1⟩
  obtain ⟨hcl, hfz⟩ := bcell hb1
  have HB1 := hid hb1
  have hsz : w.heap.size + 1 ≤ w1.heap.size := by have := hb1.size; simp at this; omega
  clear hb1 hly
  go_wp2_with fail
  go_ret
  exact ⟨rfl, ((Below.refl _ _).alloc (Nat.le_refl _) _).trans (HB1.out.mono (by simp))⟩

end Go.Proofs.Ytealeofgfgbheaa

namespace Go.Proofs.Ytealeofgfgbheaa
set_option linter.unusedVariables false
set_option linter.unusedSimpArgs false
open Go.RowKit

set_option maxRecDepth 100000 in
set_option maxHeartbeats 10000000 in
theorem valid_main (lo : Nat) (la : Option Addr) (ga : Option Addr) (fb fo gb go fc gc lc : Nat) (p : Prg) (m : Nat) (w : World) (x0 : Int) (h1 : decide (64 < (p.funcs.length : Int)) = false) (h2 : decide (64 < (p.globals.length : Int)) = false) (h3 : Hid (laysB p.layouts = true)) (hm : m < p.funcs.length) (hfb : fb < w.heap.size) (hfb1 : fb < w.heap.size + 1) (dm : w.cell? ⟨fb, fo + m * 4 + 1, none⟩ = some (.int .i64 x0)) (h6 : (x0 != 0) = false)
    (hpm : p.main = m) (hga : 0 < p.globals.length → ga = some ⟨gb, go, none⟩) (hgb : 0 < p.globals.length → gb < w.heap.size)
    (g0 : ∀ i, i < p.globals.length → w.cell? ⟨gb, go + i * 2, none⟩ = some (.string (nth p.globals i).name)) (g1 : ∀ i, i < p.globals.length → w.cell? ⟨gb, go + i * 2 + 1, none⟩ = some (.int .i64 (nth p.globals i).kind))
    (S : Nat → Slc) (f0 : ∀ i, i < p.funcs.length → w.cell? ⟨fb, fo + i * 4, none⟩ = some (.string (nth p.funcs i).name)) (f1 : ∀ i, i < p.funcs.length → w.cell? ⟨fb, fo + i * 4 + 1, none⟩ = some (.int .i64 (nth p.funcs i).params))
    (f2 : ∀ i, i < p.funcs.length → w.cell? ⟨fb, fo + i * 4 + 2, none⟩ = some (.int .i64 (nth p.funcs i).regs)) (f3 : ∀ i, i < p.funcs.length → w.cell? ⟨fb, fo + i * 4 + 3, none⟩ = some (.slice (S i).a (nth p.funcs i).code.length (S i).c))
    (fcode : ∀ i, i < p.funcs.length → CodeAt lo w (.slice (S i).a (nth p.funcs i).code.length (S i).c) (nth p.funcs i).code)
    (hp : ProgAt lo w (.slice (some ⟨fb, fo, none⟩) p.funcs.length fc) (.slice ga p.globals.length gc) (.slice la p.layouts.length lc) p) (hl : LaysAt lo w (.slice la p.layouts.length lc) p.layouts) :
    Calls Try.prog 21 #[.agg #[.slice (some ⟨fb, fo, none⟩) p.funcs.length fc, .slice ga p.globals.length gc, .slice la p.layouts.length lc, .int .i64 m]] w fun e w' => e = .returned (.bool (globsB p.globals && funsB p)) ∧ Below w.heap.size w w' := by
  go_enter Try.func21, Try.ntmps21
  go_wp2_with fail
  have hly := layouts_calls lo _ p.layouts (w.alloc (.cells #[.slice (some ⟨fb, fo, none⟩) p.funcs.length fc, .slice ga p.globals.length gc, .slice la p.layouts.length lc, .int .i64 m] 26)) (hl.keep (Keep.below ((Below.refl _ _).alloc (Nat.le_refl _) _)))
  rw [h3.out] at hly
  refine hly.mono ?_
  rintro e w1 ⟨rfl, hb1⟩
  obtain ⟨hcl, hfz⟩ := bcell hb1
  have HB1 := hid hb1
  have hsz : w.heap.size + 1 ≤ w1.heap.size := by have := hb1.size; simp at this; omega
  clear hb1 hly
  go_wp2_with fail
  have BW := hid (((Below.refl _ _).alloc (Nat.le_refl _) _).trans (HB1.out.mono (by simp)) : Below w.heap.size w w1)
  have a0 := hcl w.heap.size 0 (by simp)
  have a1 := hcl w.heap.size 1 (by simp)
  have a2 := hcl w.heap.size 2 (by simp)
  have a3 := hcl w.heap.size 3 (by simp)
  simp at a0 a1 a2 a3
  have l1 : w.heap.size < w1.heap.size := by omega
  clear hcl hfz h1 h2 dm h6
  have hlen : p.globals.length ≤ 140737488355328 := by obtain ⟨_, _, _, _, _, _, _, _, _, _, _, h⟩ := hp.globs.open; exact h
  have hlen2 : p.funcs.length ≤ 140737488355328 := by obtain ⟨_, _, _, _, _, _, _, _, _, _, _, _, _, _, _, h⟩ := hp.funcs.open; exact h
  have fe1 : decide ((m : Int) < 0) = false := by simp
  have fe2 : decide (p.funcs.length ≤ m) = false := by simp; omega
  simp only [fe1, fe2, Bool.or_self]
  clear fe1 fe2
  go_loopw [3] (fun i wr => ∃ k : Nat, k ≤ p.globals.length ∧ i = .int .i64 k ∧ (∀ j, j < k → globOk p.globals j = true) ∧ Below w1.heap.size w1 wr) (fun i _ => p.globals.length - (intOf i).toNat)
  case atStart => exact ⟨0, Nat.zero_le _, rfl, fun j hj => by omega, Below.refl _ _⟩
  case round =>
    obtain ⟨k, hk, rfl, hall, hbl⟩ := hrel
    obtain ⟨wo, hwo⟩ : ∃ wo, wo = wr := ⟨_, rfl⟩
    subst hwo
    obtain ⟨hcl, hfz⟩ := bcell hbl
    have HALL := hid hall
    have HBL := hid hbl
    have hbw := BW.out.trans (hbl.mono (by omega))
    have hsz2 : w1.heap.size ≤ wo.heap.size := hbl.size
    have n0 := (hcl w.heap.size 0 l1).trans a0
    have n1 := (hcl w.heap.size 1 l1).trans a1
    have n2 := (hcl w.heap.size 2 l1).trans a2
    have n3 := (hcl w.heap.size 3 l1).trans a3
    have r1 : w.heap.size < wo.heap.size := by omega
    clear hall hcl hfz hbl
    by_cases hkl : k < p.globals.length
    · have e1 := hga (by omega)
      subst e1
      have hgb' := hgb (by omega)
      have d0 := (hbw.cell (p := ⟨gb, go + k * 2, none⟩) hgb').trans (g0 k hkl)
      have d1 := (hbw.cell (p := ⟨gb, go + k * 2 + 1, none⟩) hgb').trans (g1 k hkl)
      have hfail : globOk p.globals k = false → (globsB p.globals && funsB p) = false := fun h => by unfold globsB; rw [range_false _ _ k hkl h]; rfl
      have HFAIL := hid hfail
      have HOK := hid (show globOk p.globals k = (!(nth p.globals k).name.toList.isEmpty && (kindB (nth p.globals k).kind && (List.range k).all fun j => !sameName (nth p.globals j).name (nth p.globals k).name)) from rfl)
      have r3 : gb < wo.heap.size := by omega
      have HBWA := hid (hbw.alloc (by omega) (.cells #[.string (nth p.globals k).name, .int .i64 (nth p.globals k).kind] 60))
      generalize hge : nth p.globals k = x at *
      have HGE := hid hge
      clear hfail hge
      cases h7 : x.name.toList.isEmpty with
      | true =>
        go_wp2_with fail
        go_ret
        refine ⟨ret_bool (HFAIL.out ?_).symm, HBWA.out⟩
        rw [HOK.out, h7]; rfl
      | false =>
        by_cases h8 : x.kind = 0 ∨ x.kind = 1
        · have h89 : (x.kind != 0) = false ∨ (x.kind != 0) = true ∧ (x.kind != 1) = false := by
            rcases h8 with h | h <;> simp [h]
          have HK := hid (show kindB x.kind = true by rcases h8 with h | h <;> simp [kindB, h])
          have h7' := hid h7
          clear h8
          rcases h89 with h8 | ⟨h8, h9⟩
          all_goals
            go_wp2_with fail
            generalize hW2 : World.alloc wo _ = W2
            have t1 : W2.heap.size = wo.heap.size + 1 := by rw [← hW2]; simp
            have t2 : Below w.heap.size w W2 := by rw [← hW2]; exact HBWA.out
            have t3 : Below w1.heap.size w1 W2 := by rw [← hW2]; exact HBL.out.alloc hsz2 _
            have y0 : W2.cell? ⟨wo.heap.size, 0, none⟩ = some (.string x.name) := by rw [← hW2]; simp
            have y1 : W2.cell? ⟨w.heap.size, 1, none⟩ = some (.slice (some ⟨gb, go, none⟩) p.globals.length gc) := by rw [← hW2, World.cell?_alloc_lt _ _ _ r1]; exact n1
            have T := hid (And.intro t1 (And.intro t2 t3))
            have e11 : wo.heap.size < W2.heap.size := by omega
            have e12 : w.heap.size < W2.heap.size := by omega
            have e13 : gb < W2.heap.size := by omega
            clear hW2 t1 t2 t3 n0 n1 n2 n3 d0 d1 h7 h8
            go_loopw [5] (fun i wq => ∃ j : Nat, j ≤ k ∧ i = .int .i64 j ∧ (∀ q, q < j → sameName (nth p.globals q).name x.name = false) ∧ Below W2.heap.size W2 wq) (fun i _ => k - (intOf i).toNat)
            case atStart => exact ⟨0, Nat.zero_le _, rfl, fun q hq => by omega, Below.refl _ _⟩
            case round =>
              obtain ⟨j, hj, rfl, hno, hbq⟩ := hrel
              obtain ⟨hcl, hfz⟩ := bcell hbq
              have HNO := hid hno
              have HBQ := hid hbq
              have z0 := (hcl wo.heap.size 0 e11).trans y0
              have z1 := (hcl w.heap.size 1 e12).trans y1
              have hsq : W2.heap.size ≤ wr.heap.size := hbq.size
              by_cases hjk : j < k
              · have z2 := (hcl gb (go + j * 2) e13).trans ((T.out.2.1.cell (p := ⟨gb, go + j * 2, none⟩) hgb').trans (g0 j (by omega)))
                have hjl : j < p.globals.length := by omega
                have hneg := hid (show ∀ h : sameName (nth p.globals j).name x.name = true, globOk p.globals k = false from fun h => by rw [HOK.out, range_false k _ j hjk (by rw [h]; rfl), Bool.and_false, Bool.and_false])
                clear hcl hfz hno hbq
                cases hs : sameName (nth p.globals j).name x.name with
                | true =>
                  have hs' : ((nth p.globals j).name.toList == x.name.toList) = true := hs
                  have HS := hid hs
                  clear hs
                  go_wp2_with fail
                  go_quiet (fail)
                  go_wp2_with fail
                  go_ret
                  exact ⟨ret_bool (HFAIL.out (hneg.out HS.out)).symm, T.out.2.1.trans ((below_drewN HBQ.out _).mono (by have := T.out.2.1.size; omega))⟩
                | false =>
                  have hs' : ((nth p.globals j).name.toList == x.name.toList) = false := hs
                  have HS := hid hs
                  clear hs
                  go_wp2_with fail
                  go_quiet (fail)
                  go_wp2_with fail
                  go_roundw
                  case rel =>
                    refine ⟨j + 1, by omega, by go_num, fun q hq => ?_, below_drewN HBQ.out _⟩
                    rcases Nat.lt_succ_iff_lt_or_eq.1 hq with h | h
                    · exact HNO.out q h
                    · rw [h]; exact HS.out
                  case measure => simp [intOf]; omega
              · have hje : j = k := by omega
                subst hje
                have HOK1 := hid (show globOk p.globals j = true by rw [HOK.out, HK.out, range_true _ _ (fun q hq => by rw [HNO.out q hq]; rfl), h7'.out]; rfl)
                clear hcl hfz hno hbq hjk
                go_wp2_with fail
                go_roundw
                case rel =>
                  refine ⟨j + 1, by omega, by go_num, fun q hq => ?_, T.out.2.2.trans (HBQ.out.mono (by omega))⟩
                  rcases Nat.lt_succ_iff_lt_or_eq.1 hq with h | h
                  · exact HALL.out q h
                  · rw [h]; exact HOK1.out
                case measure => simp [intOf]; omega
        · have h8' : (x.kind != 0) = true := by simp; omega
          have h9' : (x.kind != 1) = true := by simp; omega
          have HK := hid (show kindB x.kind = false by simp [kindB]; omega)
          clear h8
          go_wp2_with fail
          go_ret
          refine ⟨ret_bool (HFAIL.out ?_).symm, HBWA.out⟩
          rw [HOK.out, HK.out, Bool.false_and, Bool.and_false]
    · have hkk : k = p.globals.length := by omega
      have HG := hid (show globsB p.globals = true from range_true _ _ (fun q hq => HALL.out q (by omega)))
      have HBW := hid hbw
      clear hbw
      go_wp2_with fail
      go_loopw [6] (fun i wr => ∃ k : Nat, k ≤ p.funcs.length ∧ i = .int .i64 k ∧ (∀ j, j < k → funOk p j = true) ∧ Below wo.heap.size wo wr) (fun i _ => p.funcs.length - (intOf i).toNat)
      case atStart => exact ⟨0, Nat.zero_le _, rfl, fun j hj => by omega, Below.refl _ _⟩
      case round =>
        clear hkl hkk
        obtain ⟨c, hc, rfl, hall, hbl⟩ := hrel
        obtain ⟨wq, hwq⟩ : ∃ wq, wq = wr := ⟨_, rfl⟩
        subst hwq
        obtain ⟨hcl, hfz⟩ := bcell hbl
        have HFALL := hid hall
        have HBL2 := hid hbl
        have HBQ := hid (HBW.out.trans (hbl.mono (by omega)))
        have hsz3 : wo.heap.size ≤ wq.heap.size := hbl.size
        have m0 := (hcl w.heap.size 0 r1).trans n0
        have m1 := (hcl w.heap.size 1 r1).trans n1
        have m2 := (hcl w.heap.size 2 r1).trans n2
        have m3 := (hcl w.heap.size 3 r1).trans n3
        have r4 : w.heap.size < wq.heap.size := by omega
        clear hall hcl hfz hbl
        by_cases hcl' : c < p.funcs.length
        · have d0 := (HBQ.out.cell (p := ⟨fb, fo + c * 4, none⟩) hfb).trans (f0 c hcl')
          have d1 := (HBQ.out.cell (p := ⟨fb, fo + c * 4 + 1, none⟩) hfb).trans (f1 c hcl')
          have d2 := (HBQ.out.cell (p := ⟨fb, fo + c * 4 + 2, none⟩) hfb).trans (f2 c hcl')
          have d3 := (HBQ.out.cell (p := ⟨fb, fo + c * 4 + 3, none⟩) hfb).trans (f3 c hcl')
          have r5 : fb < wq.heap.size := by omega
          have hcode := hid (fcode c hcl')
          have HOK := hid (show funOk p c = (funcB p (nth p.funcs c) && (List.range c).all fun j => !sameName (nth p.funcs j).name (nth p.funcs c).name) from rfl)
          have HFAIL := hid (fun h : funOk p c = false => show (globsB p.globals && funsB p) = false by unfold funsB; rw [range_false _ _ c hcl' h, Bool.and_false])
          generalize hge : nth p.funcs c = x at *
          have HGE := hid hge
          clear hge n0 n1 n2 n3
          cases hi : funcB p x with
          | false =>
            have HI := hid hi
            clear hi
            go_wp2_with fail
            refine Plan.wp_facts planV17 [(6, valF (.bool false))] (by kernel_rfl) rfl (by kernel_rfl) (by kernel_rfl) (Nat.le_refl _) ?_
            repeat (first | (apply Plan.runs_skip rfl rfl; simp only [Act.put, List.setIfInBounds_toArray, List.set_cons_zero, List.set_cons_succ]) | (apply Plan.runs_det rfl rfl; (· intro F w' hb hf; obtain ⟨hcl, hfz⟩ := bcell hb; go_simp; rfl); simp only [Act.put, List.setIfInBounds_toArray, List.set_cons_zero, List.set_cons_succ]))
            refine Plan.runs_call_val (.bool false) 43 #[.agg #[.slice (some ⟨fb, fo, none⟩) p.funcs.length fc, .slice ga p.globals.length gc, .slice la p.layouts.length lc, .int .i64 m], .agg #[.string x.name, .int .i64 x.params, .int .i64 x.regs, .slice (S c).a x.code.length (S c).c]] rfl rfl _ rfl rfl (fun F w' hb hf => by obtain ⟨hcl, hfz⟩ := bcell hb; (go_simp <;> rfl)) rfl (fun F w' hb hf => ?_) ?_
            · have hb2 : Below w.heap.size w w' := HBQ.out.trans (hb.mono (by omega))
              have := function_calls lo lo _ _ _ _ p x w' (hp.below hb2) (hcode.out.below hb2)
              rw [HI.out, hpm] at this
              exact this
            simp only [Act.put, List.setIfInBounds_toArray, List.set_cons_zero, List.set_cons_succ]
            repeat (first | (apply Plan.runs_skip rfl rfl; simp only [Act.put, List.setIfInBounds_toArray, List.set_cons_zero, List.set_cons_succ]) | (apply Plan.runs_det rfl rfl; (· intro F w' hb hf; obtain ⟨hcl, hfz⟩ := bcell hb; go_simp; rfl); simp only [Act.put, List.setIfInBounds_toArray, List.set_cons_zero, List.set_cons_succ]))
            refine Plan.runs_nil (fun F wn hb hf => ?_)
            obtain ⟨hcl, hfz⟩ := bcell hb
            have HBN := hid hb
            have hsn : wq.heap.size ≤ wn.heap.size := hb.size
            clear hb hf
            go_wp2_with fail
            go_ret
            refine ⟨ret_bool (HFAIL.out ?_).symm, HBQ.out.trans (HBN.out.mono (by omega))⟩
            rw [HOK.out, HI.out, Bool.false_and]
          | true =>
            have HI := hid hi
            clear hi
            go_wp2_with fail
            refine Plan.wp_facts planV17 [(6, valF (.bool true))] (by kernel_rfl) rfl (by kernel_rfl) (by kernel_rfl) (Nat.le_refl _) ?_
            repeat (first | (apply Plan.runs_skip rfl rfl; simp only [Act.put, List.setIfInBounds_toArray, List.set_cons_zero, List.set_cons_succ]) | (apply Plan.runs_det rfl rfl; (· intro F w' hb hf; obtain ⟨hcl, hfz⟩ := bcell hb; go_simp; rfl); simp only [Act.put, List.setIfInBounds_toArray, List.set_cons_zero, List.set_cons_succ]))
            refine Plan.runs_call_val (.bool true) 43 #[.agg #[.slice (some ⟨fb, fo, none⟩) p.funcs.length fc, .slice ga p.globals.length gc, .slice la p.layouts.length lc, .int .i64 m], .agg #[.string x.name, .int .i64 x.params, .int .i64 x.regs, .slice (S c).a x.code.length (S c).c]] rfl rfl _ rfl rfl (fun F w' hb hf => by obtain ⟨hcl, hfz⟩ := bcell hb; (go_simp <;> rfl)) rfl (fun F w' hb hf => ?_) ?_
            · have hb2 : Below w.heap.size w w' := HBQ.out.trans (hb.mono (by omega))
              have := function_calls lo lo _ _ _ _ p x w' (hp.below hb2) (hcode.out.below hb2)
              rw [HI.out, hpm] at this
              exact this
            simp only [Act.put, List.setIfInBounds_toArray, List.set_cons_zero, List.set_cons_succ]
            repeat (first | (apply Plan.runs_skip rfl rfl; simp only [Act.put, List.setIfInBounds_toArray, List.set_cons_zero, List.set_cons_succ]) | (apply Plan.runs_det rfl rfl; (· intro F w' hb hf; obtain ⟨hcl, hfz⟩ := bcell hb; go_simp; rfl); simp only [Act.put, List.setIfInBounds_toArray, List.set_cons_zero, List.set_cons_succ]))
            refine Plan.runs_nil (fun F wn hb hf => ?_)
            obtain ⟨hcl, hfz⟩ := bcell hb
            have HBN := hid hb
            have hsn : wq.heap.size ≤ wn.heap.size := hb.size
            clear hb hf
            have v0 := (hcl w.heap.size 0 r4).trans m0
            have v1 := (hcl w.heap.size 1 r4).trans m1
            have r6 : w.heap.size < wn.heap.size := by omega
            have r7 : fb < wn.heap.size := by omega
            clear hcl hfz m0 m1 m2 m3 d0 d1 d2 d3
            go_wp2_with fail
            go_loopw [7] (fun i wr => ∃ j : Nat, j ≤ c ∧ i = .int .i64 j ∧ (∀ q, q < j → sameName (nth p.funcs q).name x.name = false) ∧ Below wn.heap.size wn wr) (fun i _ => c - (intOf i).toNat)
            case atStart => exact ⟨0, Nat.zero_le _, rfl, fun q hq => by omega, Below.refl _ _⟩
            case round =>
              obtain ⟨j, hj, rfl, hno, hbr⟩ := hrel
              obtain ⟨hcl, hfz⟩ := bcell hbr
              have HNO := hid hno
              have HBR := hid hbr
              have z0 := (hcl w.heap.size 0 r6).trans v0
              have hsr : wn.heap.size ≤ wr.heap.size := hbr.size
              by_cases hjk : j < c
              · have hwr := HBQ.out.trans (HBN.out.mono (by omega)) |>.trans (hbr.mono (by omega))
                have z2 := (hwr.cell (p := ⟨fb, fo + j * 4, none⟩) hfb).trans (f0 j (by omega))
                have z3 := (hwr.cell (p := ⟨fb, fo + c * 4, none⟩) hfb).trans (f0 c hcl')
                rw [HGE.out] at z3
                have hjl : j < p.funcs.length := by omega
                have hneg := hid (show ∀ h : sameName (nth p.funcs j).name x.name = true, funOk p c = false from fun h => by rw [HOK.out, range_false c _ j hjk (by rw [h]; rfl), Bool.and_false])
                have HWR := hid hwr
                clear hcl hfz hno hbr hwr
                cases hs : sameName (nth p.funcs j).name x.name with
                | true =>
                  have hs' : ((nth p.funcs j).name.toList == x.name.toList) = true := hs
                  have HS := hid hs
                  clear hs
                  go_wp2_with fail
                  go_quiet (fail)
                  go_wp2_with fail
                  go_ret
                  exact ⟨ret_bool (HFAIL.out (hneg.out HS.out)).symm, below_drewN HWR.out _⟩
                | false =>
                  have hs' : ((nth p.funcs j).name.toList == x.name.toList) = false := hs
                  have HS := hid hs
                  clear hs
                  go_wp2_with fail
                  go_quiet (fail)
                  go_wp2_with fail
                  go_roundw
                  case rel =>
                    refine ⟨j + 1, by omega, by go_num, fun q hq => ?_, below_drewN HBR.out _⟩
                    rcases Nat.lt_succ_iff_lt_or_eq.1 hq with h | h
                    · exact HNO.out q h
                    · rw [h]; exact HS.out
                  case measure => simp [intOf]; omega
              · have hje : j = c := by omega
                subst hje
                have HOK1 := hid (show funOk p j = true by rw [HOK.out, HI.out, range_true _ _ (fun q hq => by rw [HNO.out q hq]; rfl)]; rfl)
                clear hcl hfz hno hbr hjk
                go_wp2_with fail
                go_roundw
                case rel =>
                  refine ⟨j + 1, by omega, by go_num, fun q hq => ?_, HBL2.out.trans ((HBN.out.mono (by omega)).trans (HBR.out.mono (by omega)))⟩
                  rcases Nat.lt_succ_iff_lt_or_eq.1 hq with h | h
                  · exact HFALL.out q h
                  · rw [h]; exact HOK1.out
                case measure => simp [intOf]; omega
        · go_wp2_with fail
          go_ret
          refine ⟨ret_bool ?_, HBQ.out⟩
          rw [HG.out, show funsB p = true from range_true _ _ (fun q hq => HFALL.out q (by omega))]; rfl

end Go.Proofs.Ytealeofgfgbheaa

namespace Go.Proofs.Ytealeofgfgbheaa
set_option linter.unusedVariables false
set_option linter.unusedSimpArgs false
open Go.RowKit

theorem valid_calls (lo : Nat) (vf vg vl : Value) (p : Prg) (w : World) (hp : ProgAt lo w vf vg vl p) :
    Calls Try.prog 21 #[.agg #[vf, vg, vl, .int .i64 p.main]] w fun e w' => e = .returned (.bool (validB p)) ∧ Below w.heap.size w w' := by
  obtain ⟨fa, fc, fb, fo, S, rfl, fp, f0, f1, f2, f3, fcode, fbl, _, _, _⟩ := hp.funcs.open
  obtain ⟨ga, gc, gb, go, rfl, gp, g0, g1, gbl, _, _, _⟩ := hp.globs.open
  obtain ⟨la, lc, lb, lo', LS, rfl, _⟩ := hp.lays.open
  have hl := hp.lays
  have bad : topB p = false → validB p = false := fun h => by simp [validB, h]
  by_cases h1 : 64 < (p.funcs.length : Int)
  · rw [bad (by simp [topB]; omega)]
    exact valid_0 lo fa ga la fc gc lc p w (decide_eq_true h1) hl
  by_cases h2 : 64 < (p.globals.length : Int)
  · rw [bad (by simp [topB]; omega)]
    exact valid_1 lo fa ga la fc gc lc p w (decide_eq_false h1) (decide_eq_true h2) hl
  cases h3 : laysB p.layouts with
  | false =>
    rw [bad (by simp [topB, h3])]
    exact valid_2 lo fa ga la fc gc lc p w (decide_eq_false h1) (decide_eq_false h2) (hid h3) hl
  | true =>
  by_cases h4 : p.main < 0
  · rw [bad (by have : ¬ 0 ≤ p.main := by omega
                simp [topB, this])]
    exact valid_3 lo fa ga la fc gc lc p w (decide_eq_false h1) (decide_eq_false h2) (hid h3) (decide_eq_true h4) hl
  by_cases h5 : (p.funcs.length : Int) ≤ p.main
  · rw [bad (by have : ¬ p.main < (p.funcs.length : Int) := by omega
                simp [topB, this])]
    exact valid_4 lo fa ga la fc gc lc p w (decide_eq_false h1) (decide_eq_false h2) (hid h3) (decide_eq_false h4) (decide_eq_true h5) hl
  obtain ⟨m, hm⟩ : ∃ m : Nat, p.main = m := ⟨p.main.toNat, by omega⟩
  have hml : m < p.funcs.length := by omega
  have e := fp (by omega)
  subst e
  have hfb := fbl (by omega)
  have htop : topB p = ((nth p.funcs m).params == 0) := by
    have a1 : p.funcs.length ≤ 64 := by omega
    have a2 : p.globals.length ≤ 64 := by omega
    simp [topB, h3, hm, a1, a2, hml]
  by_cases h6 : (nth p.funcs m).params = 0
  · have : validB p = (globsB p.globals && funsB p) := by rw [validB, htop, beq_iff_eq.2 h6]; rfl
    rw [this, hm]
    exact valid_main lo la ga fb fo gb go fc gc lc p m w _ (decide_eq_false h1) (decide_eq_false h2) (hid h3) hml hfb (by omega) (f1 m hml) (by rw [h6]; rfl) hm gp gbl g0 g1 S f0 f1 f2 f3 fcode hp hl
  · rw [bad (by rw [htop]; exact beq_eq_false_iff_ne.2 h6), hm]
    exact valid_5 lo ga la fb fo fc gc lc p m w _ (decide_eq_false h1) (decide_eq_false h2) (hid h3) hml hfb (by omega) (f1 m hml) (bne_iff_ne.2 h6) hl

end Go.Proofs.Ytealeofgfgbheaa
