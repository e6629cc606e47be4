/-
  Parts of the proof.
-/
import Derived.Test.YteiohnfmlabelaaZPath
import Derived.Test.YteiohnfmlabelaaZVisit
namespace Go.Proofs.Yteiohnfmlabelaa
set_option linter.unusedVariables false
set_option linter.unusedSimpArgs false
open Go.RowKit

theorem headN_self (c : List Ins) (k : Nat) (h : (nth c k).op ≠ 51) : headN c k = k := by
  cases k with
  | zero => rfl
  | succ k => unfold headN; rw [if_neg h]
theorem headN_idem (c : List Ins) : ∀ k, headN c (headN c k) = headN c k
  | 0 => rfl
  | k + 1 => by
    by_cases h : (nth c (k + 1)).op = 51
    · have e : headN c (k + 1) = headN c k := by simp only [headN]; rw [if_pos h]
      rw [e]; exact headN_idem c k
    · rw [headN_self c (k + 1) h, headN_self c (k + 1) h]

set_option maxRecDepth 100000 in
set_option maxHeartbeats 10000000 in
theorem reach_calls (lo : Nat) (vc : Value) (nm : ByteArray) (pa re : Int) (l : List Ins) (w : World) (hc : CodeAt lo w vc l) (hj : Jok l) :
    Calls Try.prog 31 #[.agg #[.string nm, .int .i64 pa, .int .i64 re, vc]] w fun e w' => ∃ g n, e = .returned (.slice (some ⟨g, 0, none⟩) n n) ∧ n = l.length ∧ w.heap.size ≤ g ∧ RowB w' g (reachL l) ∧ Below w.heap.size w w' := by
  have HC0 := hc
  obtain ⟨ca, cc, cb, co, rfl, cp, q0, _, _, _, _, cbl, _, _, _, cn⟩ := hc.open
  have hpos := hj.pos
  have hle := hj.le
  have e1 := cp (by omega)
  subst e1
  have hbl' := cbl (by omega)
  clear cp cbl cn
  go_enter Try.func31, Try.ntmps31
  go_wp2_with fail
  have hB0 : Below w.heap.size w (w.alloc (.cells #[.string nm, .int .i64 pa, .int .i64 re, .slice (some ⟨cb, co, none⟩) l.length cc] 32)) := (Below.refl _ _).alloc (Nat.le_refl _) _
  refine (visit_calls lo _ nm pa re (-1) l _ (hc.below hB0) hj).mono ?_
  rintro e w1 ⟨g1, n1, rfl, rfl, hg1, hrow1, hb1⟩
  have n0 : w1.cell? ⟨w.heap.size, 0, none⟩ = some (.string nm) := (hb1.cell (by simp)).trans (by simp)
  have n1 : w1.cell? ⟨w.heap.size, 1, none⟩ = some (.int .i64 pa) := (hb1.cell (by simp)).trans (by simp)
  have n2 : w1.cell? ⟨w.heap.size, 2, none⟩ = some (.int .i64 re) := (hb1.cell (by simp)).trans (by simp)
  have n3 : w1.cell? ⟨w.heap.size, 3, none⟩ = some (.slice (some ⟨cb, co, none⟩) l.length cc) := (hb1.cell (by simp)).trans (by simp)
  have s1 : w.heap.size < w1.heap.size := by have := hb1.size; simp at this; omega
  have s2 : g1 < w1.heap.size := hrow1.lt
  have hg1' : w.heap.size + 1 ≤ g1 := by simpa using hg1
  have hout : w1.rowIs g1 4 l.length (fun j => .bool (if j < 0 then nth (reachL l) j else nth (reachB l (-1)) j)) := by
    have := hrow1
    unfold RowB at this
    rw [reachB_len] at this
    exact this.congr fun j hj => by simp
  have HB1 := hid (hB0.trans (hb1.mono (by simp)))
  clear hrow1 hb1 hg1
  go_wp2_with fail
  go_loopw [9] (fun i wr => ∃ k : Nat, k ≤ l.length ∧ i = .int .i64 k ∧ wr.rowIs g1 4 l.length (fun j => .bool (if j < k then nth (reachL l) j else nth (reachB l (-1)) j)) ∧ Below g1 w1 wr) (fun i _ => l.length - (intOf i).toNat)
  case atStart => exact ⟨0, Nat.zero_le _, rfl, hout, Below.refl _ _⟩
  case round =>
    obtain ⟨k, hk, rfl, hr, hbl⟩ := hrel
    have m0 := (hbl.cell (p := ⟨w.heap.size, 0, none⟩) (by simp; omega)).trans n0
    have m1 := (hbl.cell (p := ⟨w.heap.size, 1, none⟩) (by simp; omega)).trans n1
    have m2 := (hbl.cell (p := ⟨w.heap.size, 2, none⟩) (by simp; omega)).trans n2
    have m3 := (hbl.cell (p := ⟨w.heap.size, 3, none⟩) (by simp; omega)).trans n3
    have r1 : g1 < wr.heap.size := hr.lt
    have hbw := HB1.out.trans (hbl.mono (by omega))
    have HR := hid hr
    have HBL := hid hbl
    have HBW := hid hbw
    clear hr hbl hout
    by_cases hkl : k < l.length
    · have d0 := (hbw.cell (p := ⟨cb, co + k * 5, none⟩) hbl').trans (q0 k hkl)
      have hat := reachL_at l k hkl
      have HAT := hid hat
      have hhl := headN_le l k
      have hki : (k : Int) < l.length := by omega
      clear hbw hat
      by_cases hop : (nth l k).op = 51
      · have h' : ((nth l k).op == 51) = true := beq_iff_eq.2 hop
        clear hop
        go_wp2_with fail
        refine (head_calls lo _ nm pa re l k wr (HC0.below HBW.out) hkl).mono ?_
        rintro e wn ⟨rfl, hbn⟩
        have hrn := HR.out.of_block (hbn.block _ r1)
        have c0 := hrn.cell (i := headN l k) (by omega)
        have hval : (if headN l k < k then nth (reachL l) (headN l k) else nth (reachB l (-1)) (headN l k)) = nth (reachL l) k := by
          rw [HAT.out]
          split
          · rw [reachL_at l _ (by omega), headN_idem]
          · rfl
        rw [hval] at c0
        have c1 := hrn.cell (i := k) hkl
        have z1 := hrn.frozen k
        have hsn := hbn.size
        have r2 : g1 < wn.heap.size := by omega
        have hh1 : (headN l k : Int) < l.length := by omega
        have hh2 : headN l k < l.length := by omega
        have HRN := hid hrn
        have HBN := hid (HBL.out.trans (hbn.mono (by omega)))
        clear hrn hbn hval
        go_wp2_with fail
        refine ⟨⟨k + 1, by omega, by go_num, ?_, HBN.out.setCell (Nat.le_refl _) _⟩, by simp [intOf]; omega⟩
        refine (HRN.out.set k _).congr fun j hj => ?_
        by_cases e : j = k
        · subst e; rw [if_pos rfl, if_pos (by omega)]
        · have e2 : (j < k + 1) ↔ j < k := by omega
          simp only [if_neg e, e2]
      · have h' : ((nth l k).op == 51) = false := beq_eq_false_iff_ne.2 hop
        have HOP := hid hop
        clear hop
        go_wp2_with fail
        refine ⟨⟨k + 1, by omega, by go_num, ?_, HBL.out⟩, by simp [intOf]; omega⟩
        refine HR.out.congr fun j hj => ?_
        by_cases e : j = k
        · subst e; rw [if_neg (by omega), if_pos (by omega), HAT.out, headN_self l _ HOP.out]
        · have e2 : (j < k + 1) ↔ j < k := by omega
          simp only [e2]
    · clear hbw
      go_wp2_with fail
      go_ret
      exact ⟨g1, l.length, rfl, rfl, by omega, RowB.of HR.out (reachL_len l) (fun i hi => by rw [if_pos (by omega)]), HBW.out⟩

end Go.Proofs.Yteiohnfmlabelaa
