/-
  Package live's In.
-/
import Derived.BigQuiet
import Derived.Deep.QuietTactic
import Derived.Test.YteiohnfmlabelaaGreatZCValid2
import Derived.Test.YteiohnfmlabelaaGreatZAft14
import Derived.Test.YteiohnfmlabelaaGreatZLvSolve
import Derived.Test.YteiohnfmlabelaaGreatZPath
import Derived.Test.YteiohnfmlabelaaGreatZVisit
namespace Go.Proofs.YteiohnfmlabelaaGreat
set_option linter.unusedVariables false
set_option linter.unusedSimpArgs false
open Go.RowKit

/-- A valid program has this function. -/
def thereB (p : Prg) (fn : Int) : Bool := decide (0 ≤ fn) && (decide (fn < p.funcs.length) && validB p)

set_option maxHeartbeats 2000000 in
theorem there_calls (lo : Nat) (vf vg vl : Value) (p : Prg) (fn : Int) (w : World) (hp : ProgAt lo w vf vg vl p) :
    Calls Tryz.prog 67 #[.agg #[vf, vg, vl, .int .i64 p.main], .int .i64 fn] w fun e w' => e = .returned (.bool (thereB p fn)) ∧ Below w.heap.size w w' := by
  have HP := hid hp
  obtain ⟨fa, fc, fb, fo, S, rfl, p1, _, _, _, _, _, k1, _, m1, n1⟩ := hp.funcs.open
  obtain ⟨ga, gc, _, _, rfl, _⟩ := hp.globs.open
  obtain ⟨la, lc, _, _, _, rfl, _⟩ := hp.lays.open
  clear hp p1 k1
  by_cases h1 : 0 ≤ fn
  · by_cases h2 : fn < p.funcs.length
    · have HE := hid (show thereB p fn = validB p by unfold thereB; rw [decide_eq_true h1, decide_eq_true h2]; rfl)
      go_enter Tryz.func67, Tryz.ntmps67
      have HB := hid (show Below w.heap.size w (w.alloc (.cells #[.slice fa p.funcs.length fc, .slice ga p.globals.length gc, .slice la p.layouts.length lc, .int .i64 p.main] 26)) from (Below.refl _ _).alloc (Nat.le_refl _) _)
      go_wp2_with (
        go_at_call 19
        refine (cvalid_calls lo _ _ _ p _ (HP.out.below HB.out)).mono ?_
        rintro e w1 ⟨rfl, hb1⟩)
      go_ret
      exact ⟨by rw [HE.out]; rfl, HB.out.trans (hb1.mono (by simp))⟩
    · have HE := hid (show thereB p fn = false by unfold thereB; rw [decide_eq_false h2]; simp)
      go_enter Tryz.func67, Tryz.ntmps67
      go_wp2_with fail
      go_ret
      exact ⟨by rw [HE.out]; rfl, (Below.refl _ _).alloc (Nat.le_refl _) _⟩
  · have HE := hid (show thereB p fn = false by unfold thereB; rw [decide_eq_false h1]; rfl)
    go_enter Tryz.func67, Tryz.ntmps67
    go_wp2_with fail
    go_ret
    exact ⟨by rw [HE.out]; rfl, (Below.refl _ _).alloc (Nat.le_refl _) _⟩

/-- The live registers before each instruction: none if there is no such function. -/
def InIs (p : Prg) (fn : Int) (L : List (List Int)) : Prop := (thereB p fn = false ∧ L = []) ∨ (thereB p fn = true ∧ IsLive p fn.toNat (nth p.funcs fn.toNat).code.length L)
theorem there_get {p : Prg} {fn : Int} (h : thereB p fn = true) : 0 ≤ fn ∧ fn < p.funcs.length ∧ validB p = true := by
  unfold thereB at h
  simp only [Bool.and_eq_true, decide_eq_true_eq] at h
  exact h


end Go.Proofs.YteiohnfmlabelaaGreat

namespace Go.Proofs.YteiohnfmlabelaaGreat
set_option linter.unusedVariables false
set_option linter.unusedSimpArgs false
open Go.RowKit

theorem headN_self (c : List Ins) (k : Nat) (h : (nth c k).op ≠ 51) : headN c k = k := by
  cases k with
  | zero => rfl
  | succ k => unfold headN; rw [if_neg h]
theorem headN_idem (c : List Ins) : ∀ k, headN c (headN c k) = headN c k
  | 0 => rfl
  | k + 1 => by
    by_cases h : (nth c (k + 1)).op = 51
    · have e : headN c (k + 1) = headN c k := by simp only [headN]; rw [if_pos h]
      rw [e]; exact headN_idem c k
    · rw [headN_self c (k + 1) h, headN_self c (k + 1) h]

set_option maxRecDepth 100000 in
set_option maxHeartbeats 10000000 in
theorem reach_calls (lo : Nat) (vc : Value) (nm : ByteArray) (pa re : Int) (l : List Ins) (w : World) (hc : CodeAt lo w vc l) (hj : Jok l) :
    Calls Tryz.prog 43 #[.agg #[.string nm, .int .i64 pa, .int .i64 re, vc]] w fun e w' => ∃ g n, e = .returned (.slice (some ⟨g, 0, none⟩) n n) ∧ n = l.length ∧ w.heap.size ≤ g ∧ RowB w' g (reachL l) ∧ Below w.heap.size w w' := by
  have HC0 := hc
  obtain ⟨ca, cc, cb, co, rfl, cp, q0, _, _, _, _, cbl, _, _, _, cn⟩ := hc.open
  have hpos := hj.pos
  have hle := hj.le
  have e1 := cp (by omega)
  subst e1
  have hbl' := cbl (by omega)
  clear cp cbl cn
  go_enter Tryz.func43, Tryz.ntmps43
  go_wp2_with fail
  have hB0 : Below w.heap.size w (w.alloc (.cells #[.string nm, .int .i64 pa, .int .i64 re, .slice (some ⟨cb, co, none⟩) l.length cc] 33)) := (Below.refl _ _).alloc (Nat.le_refl _) _
  refine (visit_calls lo _ nm pa re (-1) l _ (hc.below hB0) hj).mono ?_
  rintro e w1 ⟨g1, n1, rfl, rfl, hg1, hrow1, hb1⟩
  have n0 : w1.cell? ⟨w.heap.size, 0, none⟩ = some (.string nm) := (hb1.cell (by simp)).trans (by simp)
  have n1 : w1.cell? ⟨w.heap.size, 1, none⟩ = some (.int .i64 pa) := (hb1.cell (by simp)).trans (by simp)
  have n2 : w1.cell? ⟨w.heap.size, 2, none⟩ = some (.int .i64 re) := (hb1.cell (by simp)).trans (by simp)
  have n3 : w1.cell? ⟨w.heap.size, 3, none⟩ = some (.slice (some ⟨cb, co, none⟩) l.length cc) := (hb1.cell (by simp)).trans (by simp)
  have s1 : w.heap.size < w1.heap.size := by have := hb1.size; simp at this; omega
  have s2 : g1 < w1.heap.size := hrow1.lt
  have hg1' : w.heap.size + 1 ≤ g1 := by simpa using hg1
  have hout : w1.rowIs g1 4 l.length (fun j => .bool (if j < 0 then nth (reachL l) j else nth (reachB l (-1)) j)) := by
    have := hrow1
    unfold RowB at this
    rw [reachB_len] at this
    exact this.congr fun j hj => by simp
  have HB1 := hid (hB0.trans (hb1.mono (by simp)))
  clear hrow1 hb1 hg1
  go_wp2_with fail
  go_loopw [9] (fun i wr => ∃ k : Nat, k ≤ l.length ∧ i = .int .i64 k ∧ wr.rowIs g1 4 l.length (fun j => .bool (if j < k then nth (reachL l) j else nth (reachB l (-1)) j)) ∧ Below g1 w1 wr) (fun i _ => l.length - (intOf i).toNat)
  case atStart => exact ⟨0, Nat.zero_le _, rfl, hout, Below.refl _ _⟩
  case round =>
    obtain ⟨k, hk, rfl, hr, hbl⟩ := hrel
    have m0 := (hbl.cell (p := ⟨w.heap.size, 0, none⟩) (by simp; omega)).trans n0
    have m1 := (hbl.cell (p := ⟨w.heap.size, 1, none⟩) (by simp; omega)).trans n1
    have m2 := (hbl.cell (p := ⟨w.heap.size, 2, none⟩) (by simp; omega)).trans n2
    have m3 := (hbl.cell (p := ⟨w.heap.size, 3, none⟩) (by simp; omega)).trans n3
    have r1 : g1 < wr.heap.size := hr.lt
    have hbw := HB1.out.trans (hbl.mono (by omega))
    have HR := hid hr
    have HBL := hid hbl
    have HBW := hid hbw
    clear hr hbl hout
    by_cases hkl : k < l.length
    · have d0 := (hbw.cell (p := ⟨cb, co + k * 5, none⟩) hbl').trans (q0 k hkl)
      have hat := reachL_at l k hkl
      have HAT := hid hat
      have hhl := headN_le l k
      have hki : (k : Int) < l.length := by omega
      clear hbw hat
      by_cases hop : (nth l k).op = 51
      · have h' : ((nth l k).op == 51) = true := beq_iff_eq.2 hop
        clear hop
        go_wp2_with fail
        refine (head_calls lo _ nm pa re l k wr (HC0.below HBW.out) hkl).mono ?_
        rintro e wn ⟨rfl, hbn⟩
        have hrn := HR.out.of_block (hbn.block _ r1)
        have c0 := hrn.cell (i := headN l k) (by omega)
        have hval : (if headN l k < k then nth (reachL l) (headN l k) else nth (reachB l (-1)) (headN l k)) = nth (reachL l) k := by
          rw [HAT.out]
          split
          · rw [reachL_at l _ (by omega), headN_idem]
          · rfl
        rw [hval] at c0
        have c1 := hrn.cell (i := k) hkl
        have z1 := hrn.frozen k
        have hsn := hbn.size
        have r2 : g1 < wn.heap.size := by omega
        have hh1 : (headN l k : Int) < l.length := by omega
        have hh2 : headN l k < l.length := by omega
        have HRN := hid hrn
        have HBN := hid (HBL.out.trans (hbn.mono (by omega)))
        clear hrn hbn hval
        go_wp2_with fail
        refine ⟨⟨k + 1, by omega, by go_num, ?_, HBN.out.setCell (Nat.le_refl _) _⟩, by simp [intOf]; omega⟩
        refine (HRN.out.set k _).congr fun j hj => ?_
        by_cases e : j = k
        · subst e; rw [if_pos rfl, if_pos (by omega)]
        · have e2 : (j < k + 1) ↔ j < k := by omega
          simp only [if_neg e, e2]
      · have h' : ((nth l k).op == 51) = false := beq_eq_false_iff_ne.2 hop
        have HOP := hid hop
        clear hop
        go_wp2_with fail
        refine ⟨⟨k + 1, by omega, by go_num, ?_, HBL.out⟩, by simp [intOf]; omega⟩
        refine HR.out.congr fun j hj => ?_
        by_cases e : j = k
        · subst e; rw [if_neg (by omega), if_pos (by omega), HAT.out, headN_self l _ HOP.out]
        · have e2 : (j < k + 1) ↔ j < k := by omega
          simp only [e2]
    · clear hbw
      go_wp2_with fail
      go_ret
      exact ⟨g1, l.length, rfl, rfl, by omega, RowB.of HR.out (reachL_len l) (fun i hi => by rw [if_pos (by omega)]), HBW.out⟩

end Go.Proofs.YteiohnfmlabelaaGreat

/-
  Package live's Dead.
-/
namespace Go.Proofs.YteiohnfmlabelaaGreat
set_option linter.unusedVariables false
set_option linter.unusedSimpArgs false
open Go.RowKit

/-- Whether an instruction is dead, given the live registers. -/
noncomputable def deadB (p : Prg) (F : Nat) (L : List (List Int)) (i : Nat) : Bool :=
  nth (reachL (nth p.funcs F).code) i && (pureB (nth (nth p.funcs F).code i).op && (((nth (nth p.funcs F).code i).op == 3 && (nth (nth p.funcs F).code i).a == (nth (nth p.funcs F).code i).b) || !decide ((nth (nth p.funcs F).code i).a ∈ afterL p F L i)))
noncomputable def deadL (p : Prg) (F : Nat) (L : List (List Int)) (n : Nat) : List Int := ((List.range n).filter (deadB p F L)).map fun i : Nat => (i : Int)
theorem deadL_succ (p : Prg) (F : Nat) (L : List (List Int)) (k : Nat) : deadL p F L (k + 1) = deadL p F L k ++ if deadB p F L k then [(k : Int)] else [] := by
  unfold deadL
  rw [List.range_succ, List.filter_append, List.map_append]
  congr 1
  cases h : deadB p F L k <;> simp [h]
theorem deadL_len (p : Prg) (F : Nat) (L : List (List Int)) (k : Nat) : (deadL p F L k).length ≤ k := by
  unfold deadL
  rw [List.length_map]
  exact Nat.le_trans (List.length_filter_le _ _) (by simp)
def DeadIs (p : Prg) (fn : Int) (l : List Int) : Prop := (thereB p fn = false ∧ l = []) ∨ (thereB p fn = true ∧ ∃ L, IsLive p fn.toNat (nth p.funcs fn.toNat).code.length L ∧ l = deadL p fn.toNat L (nth p.funcs fn.toNat).code.length)

theorem pure_is (op : Int) (b : Bool) (w : World) (h : pureB op = b) : Calls Tryz.prog 69 #[.int .i64 op] w fun e w' => e = .returned (.bool b) ∧ w' = w := by rw [← h]; exact pure_calls op w
theorem bits_zero (m : BitVec 64) (k : Nat) : (bits .and .u64 ((shrB m k).toNat : Int) 1 == 0) = !m.getLsbD k := by
  show (bits .and .u64 ((m >>> k).toNat : Int) 1 == 0) = _
  have h1 : (1 : Int) = ((1#64).toNat : Int) := rfl
  rw [h1, bits_and]
  have h2 : (m >>> k &&& 1#64) = if m.getLsbD k then 1#64 else 0#64 := by
    ext i hi
    by_cases e : i = 0
    · subst e
      cases h : m.getLsbD k <;> simp [h]
    · cases h : m.getLsbD k <;> simp [BitVec.getElem_one, e]
  rw [h2]
  cases m.getLsbD k <;> rfl

/-- What a pure operation writes is a register. -/
theorem pure_reg {p : Prg} (hv : validB p = true) (F : Nat) (hF : F < p.funcs.length) (K : Nat) (hK : K < (nth p.funcs F).code.length) (h : pureB (nth (nth p.funcs F).code K).op = true) : 0 ≤ (nth (nth p.funcs F).code K).a ∧ (nth (nth p.funcs F).code K).a < 64 := by
  have hfok := fok_of_funcB (valid_func hv F hF)
  have h1 := instr_opd (hfok.ins K hK) 0 (by decide)
  have hr : roleN (nth (nth p.funcs F).code K).op 0 = 100 := by
    have h' := of_decide_eq_true h
    unfold pureOps at h'
    simp only [List.mem_cons, List.not_mem_nil, or_false] at h'
    rcases h' with e | e | e | e | e | e | e | e | e | e | e | e | e <;> rw [e] <;> rfl
  have h2 := opd_dst h1 (.inl hr)
  have h3 := fun_regs hv F hF
  have h4 : opAt (nth (nth p.funcs F).code K) 0 = (nth (nth p.funcs F).code K).a := rfl
  rw [h4] at h2
  omega
theorem inis_fine {p : Prg} {F n : Nat} {L : List (List Int)} (hv : validB p = true) (hF : F < p.funcs.length) (hn : (nth p.funcs F).code.length = n) (h : IsLive p F n L) : Fine p F n L := by
  obtain ⟨⟨k, e⟩, _⟩ := h
  rw [e, ← hn]
  exact Fine.iter hv hF k

set_option maxRecDepth 100000 in
set_option maxHeartbeats 8000000 in
theorem dead_yes (lo : Nat) (vf vg vl : Value) (p : Prg) (F : Nat) (w : World) (hp : ProgAt lo w vf vg vl p) (hv : validB p = true) (hF : F < p.funcs.length) :
    Calls Tryz.prog 44 #[.agg #[vf, vg, vl, .int .i64 p.main], .int .i64 F] w fun e w' => ∃ v' L, e = .returned v' ∧ IsLive p F (nth p.funcs F).code.length L ∧ IntsAt w.heap.size w' v' (deadL p F L (nth p.funcs F).code.length) ∧ Below w.heap.size w w' := by
  have HP := hid hp
  have HV := hid hv
  have HFL := hid hF
  have HT := hid (show thereB p F = true by unfold thereB; rw [hv, decide_eq_true (show (0 : Int) ≤ F by omega), decide_eq_true (show (F : Int) < p.funcs.length by omega)]; rfl)
  have hfok := fok_of_funcB (valid_func hv F hF)
  have HFOK := hid hfok
  have hpos := hfok.pos
  have hle := hfok.le
  obtain ⟨fa, fc, fb, fo, S, rfl, p1, x0, x1, x2, x3, xi, k1, _, m1, n1⟩ := hp.funcs.open
  obtain ⟨ga, gc, _, _, rfl, hz2⟩ := hp.globs.open
  obtain ⟨la, lc, _, _, _, rfl, hz3⟩ := hp.lays.open
  have e1 := p1 (by omega)
  subst e1
  have z1 := k1 (by omega)
  have hF2 : (F : Int) < p.funcs.length := Int.ofNat_lt.2 hF
  have hge : ¬ p.funcs.length ≤ F := by omega
  have hge3 : ¬ (F : Int) < 0 := by omega
  have d0 := x0 F hF
  have d1 := x1 F hF
  have d2 := x2 F hF
  have d3 := x3 F hF
  have hcode := xi F hF
  obtain ⟨n, hn⟩ : ∃ n, (nth p.funcs F).code.length = n := ⟨_, rfl⟩
  have HN := hid hn
  have HC0 := hid (show CodeAt lo w (.slice (S F).a n (S F).c) (nth p.funcs F).code by rw [← hn]; exact hcode)
  obtain ⟨fname, hfn⟩ : ∃ q, (nth p.funcs F).name = q := ⟨_, rfl⟩
  obtain ⟨fpar, hfp⟩ : ∃ q, (nth p.funcs F).params = q := ⟨_, rfl⟩
  obtain ⟨freg, hfr⟩ : ∃ q, (nth p.funcs F).regs = q := ⟨_, rfl⟩
  rw [hn] at hpos hle d3
  rw [hfn] at d0
  rw [hfp] at d1
  rw [hfr] at d2
  have D0 := hid d0
  have D1 := hid d1
  have D2 := hid d2
  have D3 := hid d3
  rw [hn]
  clear hp hv hfok hcode hn hfn hfp hfr hF p1 x0 x1 x2 x3 xi k1 hz2 hz3 d0 d1 d2 d3
  go_enter Tryz.func44, Tryz.ntmps44
  have HB := hid (show Below w.heap.size w (w.alloc (.cells #[.slice (some ⟨fb, fo, none⟩) p.funcs.length fc, .slice ga p.globals.length gc, .slice la p.layouts.length lc, .int .i64 p.main] 26)) from (Below.refl _ _).alloc (Nat.le_refl _) _)
  go_wp2_with (first
    | (go_at_call 67
       refine (there_calls lo _ _ _ p _ _ (HP.out.below HB.out)).mono ?_
       rw [HT.out]
       rintro e w1 ⟨rfl, hb1⟩
       have HB1 := hid (HB.out.trans (hb1.mono (by simp)))
       have RP := hid (show BoxAt w1 w.heap.size 26 [.slice (some ⟨fb, fo, none⟩) p.funcs.length fc, .slice ga p.globals.length gc, .slice la p.layouts.length lc, .int .i64 p.main] from (BoxAt.new w _ _ _ _ rfl rfl).below hb1)
       have b0 : w1.cell? ⟨w.heap.size, 0, none⟩ = some (.slice (some ⟨fb, fo, none⟩) p.funcs.length fc) := (hb1.cell (by simp)).trans (by simp)
       have b4 : w.heap.size < w1.heap.size := by have := hb1.size; simp at this; omega
       have b5 : fb < w1.heap.size := by omega
       have c0 := (HB1.out.cell (p := ⟨fb, fo + F * 4, none⟩) z1).trans D0.out
       have c1 := (HB1.out.cell (p := ⟨fb, fo + F * 4 + 1, none⟩) z1).trans D1.out
       have c2 := (HB1.out.cell (p := ⟨fb, fo + F * 4 + 2, none⟩) z1).trans D2.out
       have c3 := (HB1.out.cell (p := ⟨fb, fo + F * 4 + 3, none⟩) z1).trans D3.out
       have HBF := hid (bone HB1.out (.cells #[.string fname, .int .i64 fpar, .int .i64 freg, .slice (S F).a n (S F).c] 33))
       clear hb1)
    | (go_at_call 43
       refine (reach_calls lo _ fname fpar freg (nth p.funcs F).code _ (HC0.out.below HBF.out) HFOK.out.jok).mono ?_
       rintro e w2 ⟨g1, n1', rfl, hn1, hg1, hrow1, hb2⟩
       have e9 : n = n1' := (hn1.trans HN.out).symm
       subst e9
       have HR := hid hrow1
       have HB2 := hid hb2
       have hrp := (RP.out.alloc _).below hb2
       have c4 := hrp.cell 0 _ rfl
       have c5 := hrp.cell 1 _ rfl
       have c6 := hrp.cell 2 _ rfl
       have c7 := hrp.cell 3 _ rfl
       have c8 := hrp.lt
       have RF := hid (show BoxAt w2 w1.heap.size 33 [.string fname, .int .i64 fpar, .int .i64 freg, .slice (S F).a n (S F).c] from (BoxAt.new w1 _ _ _ _ rfl rfl).below hb2)
       have HBG := hid (bvia HBF.out hb2)
       clear hrow1 hb2 hn1 hrp)
    | (go_at_call 68
       refine (solve_calls lo _ _ _ p F _ (HP.out.below HBG.out) HV.out HFL.out).mono ?_
       rintro e w3 ⟨L, gb, ga', n2, rfl, hn2, hL, _, hba, _, hga, hb3⟩
       have e9 : n = n2 := (hn2.trans HN.out).symm
       subst e9
       have HL := hid hL
       have HBA := hid hba
       have HR3 := hid (HR.out.below hb3)
       have RF3 := hid (RF.out.below hb3)
       have HB3 := hid (bvia HBG.out hb3)
       have f0 := (RF.out.below hb3).cell 3 _ rfl
       have f1 := (RF.out.below hb3).lt
       clear hL hba hb3 hn2 c4 c5 c6 c7))
  go_loopw [9, 32] (fun v i wr => ∃ k : Nat, k ≤ n ∧ i = .int .i64 k ∧ OwnE intE w3.heap.size 3 wr v (deadL p F L k) ∧ Below w3.heap.size w3 wr) (fun _ i _ => n - (intOf i).toNat)
  case atStart => exact ⟨0, Nat.zero_le _, rfl, OwnE.nil _ _ _ _, Below.refl _ _⟩
  case round =>
    obtain ⟨k, hk, rfl, hown, hbl⟩ := hrel
    obtain ⟨wo, hwo⟩ : ∃ wo, wo = wr := ⟨_, rfl⟩
    subst hwo
    have HO := hid hown
    have HBL := hid hbl
    have HLN := hid (deadL_len p F L k)
    have HSU := hid (deadL_succ p F L k)
    clear hown hbl
    by_cases hlt : k < n
    · have hlt2 : (k : Int) < n := by omega
      have HC1 := hid ((HC0.out.below (bvia HB3.out HBL.out)))
      obtain ⟨ca, cc, cb, co, he, cp, q0, q1, q2, q3, q4, cbl, _, _, _, cn⟩ := HC1.out.open
      obtain ⟨he1, he2⟩ : (S F).a = ca ∧ (S F).c = cc := by
        have := he
        rw [HN.out] at this
        simpa using this
      rw [he1, he2]
      rw [HN.out] at cp q0 q1 q2 q3 q4 cbl
      have e5 := cp (by omega)
      subst e5
      have i0 := q0 k hlt
      have i1 := q1 k hlt
      have i2 := q2 k hlt
      have i3 := q3 k hlt
      have i4 := q4 k hlt
      have i5 := cbl (by omega)
      clear cp q0 q1 q2 q3 q4 cbl he he1 he2 cn
      have HKN := hid hlt
      obtain ⟨xo, hxo⟩ : ∃ q, (nth (nth p.funcs F).code k).op = q := ⟨_, rfl⟩
      obtain ⟨xa, hxa⟩ : ∃ q, (nth (nth p.funcs F).code k).a = q := ⟨_, rfl⟩
      obtain ⟨xb, hxb⟩ : ∃ q, (nth (nth p.funcs F).code k).b = q := ⟨_, rfl⟩
      obtain ⟨A, hA⟩ : ∃ A, afterL p F L k = A := ⟨_, rfl⟩
      obtain ⟨r, hr⟩ : ∃ r, nth (reachL (nth p.funcs F).code) k = r := ⟨_, rfl⟩
      have HFN := hid (inis_fine HV.out HFL.out HN.out HL.out)
      have HAR := hid (show ∀ r ∈ A, 0 ≤ r ∧ r < 64 by rw [← hA]; exact after_reg HV.out HFL.out HFN.out.reg k)
      have HDB := hid (show deadB p F L k = (r && (pureB xo && ((xo == 3 && xa == xb) || !decide (xa ∈ A)))) by unfold deadB; rw [hxo, hxa, hxb, hA, hr])
      rw [hxo] at i0
      rw [hxa] at i1
      rw [hxb] at i2
      go_wp2_with fail
      generalize hW : World.alloc _ _ = W9
      have HB9 := hid (show Below w3.heap.size w3 W9 by rw [← hW]; exact bone HBL.out _)
      have HO9 := hid (show OwnE intE w3.heap.size 3 W9 u9 (deadL p F L k) by rw [← hW]; exact HO.out.alloc _)
      have j0 : W9.cell? ⟨wo.heap.size, 0, none⟩ = some (.int .i64 xo) := by rw [← hW]; simp
      have j1 : W9.cell? ⟨wo.heap.size, 1, none⟩ = some (.int .i64 xa) := by rw [← hW]; simp
      have j2 : W9.cell? ⟨wo.heap.size, 2, none⟩ = some (.int .i64 xb) := by rw [← hW]; simp
      have j3 : wo.heap.size < W9.heap.size := by rw [← hW]; simp
      have HR9 := hid (HR3.out.below HB9.out)
      have r0 : W9.cell? ⟨g1, k, none⟩ = some (.bool r) := by
        have := HR9.out.cell (i := k) (by rw [reachL_len, HN.out]; exact HKN.out)
        rw [hr] at this
        exact this
      have r1 := HR9.out.lt
      have a0 : W9.cell? ⟨ga', k, none⟩ = some (.int .u64 ((setB A).toNat : Int)) := by
        have := box_cell (HBA.out.below HB9.out) k (by simp; exact HKN.out)
        rw [show nth ((List.range n).map (afterL p F L)) k = A by rw [nth_eq _ _ (by simpa using HKN.out)]; simp [hA]] at this
        exact this
      have a1 := (HBA.out.below HB9.out).lt
      clear i0 i1 i2 i3 i4 i5 hW hr hA
      cases r with
      | false =>
        have HDB := hid (HDB.out.trans (rfl : _ = false))
        go_quiet (fail)
        have HO10 := hid (show OwnE intE w3.heap.size 3 (W9.drewN nq) u9 (deadL p F L k) from HO9.out)
        have HB10 := hid (show Below w3.heap.size w3 (W9.drewN nq) from below_drewN HB9.out nq)
        go_wp2_with fail
        go_roundw
        case rel => exact ⟨k + 1, by omega, by go_num, by rw [HSU.out, HDB.out]; simpa using HO10.out, HB10.out⟩
        case measure => simp [intOf] <;> omega
      | true =>
        by_cases h3 : xo = 3
        · subst h3
          by_cases hab : xa = xb
          · have hbe : (xa == xb) = true := beq_iff_eq.2 hab
            have HDB := hid (HDB.out.trans (by rw [hbe]; rfl : _ = true))
            clear hab
            go_quiet (fail)
            have HB10 := hid (show Below w3.heap.size w3 (W9.drewN nq) from below_drewN HB9.out nq)
            have HO10 := hid (show OwnE intE w3.heap.size 3 (W9.drewN nq) u9 (deadL p F L k) from HO9.out)
            go_wp2_with (
              at_builtin
              go_loud (refine wpList_append_one intE (o := ⟨some 72, _, _, _, _, _⟩) rfl (.tmp 69) (.tmp 71) 36 rfl w3.heap.size W9.heap.size 3 _ 8 Tryz.underlying36 infoI14 rfl (deadL p F L k) k (HO10.out.alloc _) ((OwnE.lit intE (W9.drewN nq) W9.heap.size 3 [(k : Int)] _ W9.heap.size 1 rfl (Nat.le_refl _) rfl rfl (by simp)).sl (Nat.le_refl _) (by simp)) (by have := HLN.out; omega) (by have := HLN.out; simp only [maxLen]; omega) (by simp; have := HB9.out.size; omega) ?_)
              intro g2 cap2 w8 ho2 hg2 hl2 hb4
              have HO2 := hid ho2
              have HB4 := hid hb4
              clear ho2 hb4)
            go_roundw
            case rel => exact ⟨k + 1, by omega, by go_num, by rw [HSU.out, HDB.out]; exact HO2.out, (HB10.out.alloc HB10.out.size _).trans HB4.out⟩
            case measure => simp [intOf] <;> omega
          · have hbe : (xa == xb) = false := beq_eq_false_iff_ne.2 hab
            have HPU := hid (show pureB 3 = true from rfl)
            have HDB := hid (HDB.out.trans (by rw [hbe, HPU.out]; rfl : _ = (!decide (xa ∈ A))))
            clear hab
            have hrg := pure_reg HV.out F HFL.out k (by rw [HN.out]; exact HKN.out) (by rw [hxo]; exact HPU.out)
            rw [hxa] at hrg
            obtain ⟨j, rfl⟩ := Int.eq_ofNat_of_zero_le hrg.1
            have hj : j < 64 := by omega
            have hj0 : (0 : Int) ≤ j := by omega
            have hj1 : (j : Int) ≤ 64 := by omega
            have hj2 : (j : Int) < 64 := by omega
            have hsh := bits_shrB (setB A) j
            have hb1 := bits_zero (setB A) j
            have hbt : (setB A).getLsbD j = decide ((j : Int) ∈ A) := by
              have := setB_bit A j hj HAR.out
              cases h : (setB A).getLsbD j with
              | true => rw [h] at this; exact (decide_eq_true (this.1 rfl)).symm
              | false => rw [h] at this; exact (decide_eq_false (fun h => by have := this.2 h; cases this)).symm
            rw [hbt] at hb1
            cases hin : decide ((j : Int) ∈ A) with
            | true =>
              rw [hin] at hb1 HDB
              simp only [Bool.not_true] at hb1
              have HDB := hid (HDB.out.trans (rfl : (!true) = false))
              clear hin hbt
              go_quiet ((go_at_call 69; exact Calls.quiet_of_same (pure_is _ _ _ HPU.out)))
              have HO10 := hid (show OwnE intE w3.heap.size 3 (W9.drewN nq) u9 (deadL p F L k) from HO9.out)
              have HB10 := hid (show Below w3.heap.size w3 (W9.drewN nq) from below_drewN HB9.out nq)
              go_wp2_with fail
              go_roundw
              case rel => exact ⟨k + 1, by omega, by go_num, by rw [HSU.out, HDB.out]; simpa using HO10.out, HB10.out⟩
              case measure => simp [intOf] <;> omega
            | false =>
              rw [hin] at hb1 HDB
              simp only [Bool.not_false] at hb1
              have HDB := hid (HDB.out.trans (rfl : (!false) = true))
              clear hin hbt
              go_quiet ((go_at_call 69; exact Calls.quiet_of_same (pure_is _ _ _ HPU.out)))
              have HB10 := hid (show Below w3.heap.size w3 (W9.drewN nq) from below_drewN HB9.out nq)
              have HO10 := hid (show OwnE intE w3.heap.size 3 (W9.drewN nq) u9 (deadL p F L k) from HO9.out)
              go_wp2_with (
                at_builtin
                go_loud (refine wpList_append_one intE (o := ⟨some 72, _, _, _, _, _⟩) rfl (.tmp 69) (.tmp 71) 36 rfl w3.heap.size W9.heap.size 3 _ 8 Tryz.underlying36 infoI14 rfl (deadL p F L k) k (HO10.out.alloc _) ((OwnE.lit intE (W9.drewN nq) W9.heap.size 3 [(k : Int)] _ W9.heap.size 1 rfl (Nat.le_refl _) rfl rfl (by simp)).sl (Nat.le_refl _) (by simp)) (by have := HLN.out; omega) (by have := HLN.out; simp only [maxLen]; omega) (by simp; have := HB9.out.size; omega) ?_)
                intro g2 cap2 w8 ho2 hg2 hl2 hb4
                have HO2 := hid ho2
                have HB4 := hid hb4
                clear ho2 hb4)
              go_roundw
              case rel => exact ⟨k + 1, by omega, by go_num, by rw [HSU.out, HDB.out]; exact HO2.out, (HB10.out.alloc HB10.out.size _).trans HB4.out⟩
              case measure => simp [intOf] <;> omega
        · have hbe : (xo == 3) = false := beq_eq_false_iff_ne.2 h3
          cases hpu : pureB xo with
          | false =>
            have HPU := hid hpu
            have HDB := hid (HDB.out.trans (by rw [hpu]; rfl : _ = false))
            clear hpu h3
            go_quiet ((go_at_call 69; exact Calls.quiet_of_same (pure_is _ _ _ HPU.out)))
            have HO10 := hid (show OwnE intE w3.heap.size 3 (W9.drewN nq) u9 (deadL p F L k) from HO9.out)
            have HB10 := hid (show Below w3.heap.size w3 (W9.drewN nq) from below_drewN HB9.out nq)
            go_wp2_with fail
            go_roundw
            case rel => exact ⟨k + 1, by omega, by go_num, by rw [HSU.out, HDB.out]; simpa using HO10.out, HB10.out⟩
            case measure => simp [intOf] <;> omega
          | true =>
            have HPU := hid hpu
            have HDB := hid (HDB.out.trans (by rw [hpu, hbe]; rfl : _ = (!decide (xa ∈ A))))
            clear hpu h3
            have hrg := pure_reg HV.out F HFL.out k (by rw [HN.out]; exact HKN.out) (by rw [hxo]; exact HPU.out)
            rw [hxa] at hrg
            obtain ⟨j, rfl⟩ := Int.eq_ofNat_of_zero_le hrg.1
            have hj : j < 64 := by omega
            have hj0 : (0 : Int) ≤ j := by omega
            have hj1 : (j : Int) ≤ 64 := by omega
            have hj2 : (j : Int) < 64 := by omega
            have hsh := bits_shrB (setB A) j
            have hb1 := bits_zero (setB A) j
            have hbt : (setB A).getLsbD j = decide ((j : Int) ∈ A) := by
              have := setB_bit A j hj HAR.out
              cases h : (setB A).getLsbD j with
              | true => rw [h] at this; exact (decide_eq_true (this.1 rfl)).symm
              | false => rw [h] at this; exact (decide_eq_false (fun h => by have := this.2 h; cases this)).symm
            rw [hbt] at hb1
            cases hin : decide ((j : Int) ∈ A) with
            | true =>
              rw [hin] at hb1 HDB
              simp only [Bool.not_true] at hb1
              have HDB := hid (HDB.out.trans (rfl : (!true) = false))
              clear hin hbt
              go_quiet ((go_at_call 69; exact Calls.quiet_of_same (pure_is _ _ _ HPU.out)))
              have HO10 := hid (show OwnE intE w3.heap.size 3 (W9.drewN nq) u9 (deadL p F L k) from HO9.out)
              have HB10 := hid (show Below w3.heap.size w3 (W9.drewN nq) from below_drewN HB9.out nq)
              go_wp2_with fail
              go_roundw
              case rel => exact ⟨k + 1, by omega, by go_num, by rw [HSU.out, HDB.out]; simpa using HO10.out, HB10.out⟩
              case measure => simp [intOf] <;> omega
            | false =>
              rw [hin] at hb1 HDB
              simp only [Bool.not_false] at hb1
              have HDB := hid (HDB.out.trans (rfl : (!false) = true))
              clear hin hbt
              go_quiet ((go_at_call 69; exact Calls.quiet_of_same (pure_is _ _ _ HPU.out)))
              have HB10 := hid (show Below w3.heap.size w3 (W9.drewN nq) from below_drewN HB9.out nq)
              have HO10 := hid (show OwnE intE w3.heap.size 3 (W9.drewN nq) u9 (deadL p F L k) from HO9.out)
              go_wp2_with (
                at_builtin
                go_loud (refine wpList_append_one intE (o := ⟨some 72, _, _, _, _, _⟩) rfl (.tmp 69) (.tmp 71) 36 rfl w3.heap.size W9.heap.size 3 _ 8 Tryz.underlying36 infoI14 rfl (deadL p F L k) k (HO10.out.alloc _) ((OwnE.lit intE (W9.drewN nq) W9.heap.size 3 [(k : Int)] _ W9.heap.size 1 rfl (Nat.le_refl _) rfl rfl (by simp)).sl (Nat.le_refl _) (by simp)) (by have := HLN.out; omega) (by have := HLN.out; simp only [maxLen]; omega) (by simp; have := HB9.out.size; omega) ?_)
                intro g2 cap2 w8 ho2 hg2 hl2 hb4
                have HO2 := hid ho2
                have HB4 := hid hb4
                clear ho2 hb4)
              go_roundw
              case rel => exact ⟨k + 1, by omega, by go_num, by rw [HSU.out, HDB.out]; exact HO2.out, (HB10.out.alloc HB10.out.size _).trans HB4.out⟩
              case measure => simp [intOf] <;> omega
    · have HK := hid (show k = n by omega)
      go_wp2_with fail
      go_ret
      rw [HK.out] at HO HLN
      exact ⟨_, L, rfl, HL.out, HO.out.sl (by have := HB3.out.size; omega) (by have := HLN.out; omega), bvia HB3.out HBL.out⟩

end Go.Proofs.YteiohnfmlabelaaGreat
