/-
  What the reference removes, walked.
-/
import Derived.Test.YteiohnfmlabelaaGreatZAppend
import Derived.Test.YteiohnfmlabelaaGreatZPrClone
import Derived.Test.YteiohnfmlabelaaGreatZRDead2
import Derived.Test.YteiohnfmlabelaaGreatZPrWf
namespace Go.Proofs.YteiohnfmlabelaaGreat
set_option linter.unusedVariables false
set_option linter.unusedSimpArgs false
open Go.RowKit

set_option maxRecDepth 100000 in
set_option maxHeartbeats 8000000 in
theorem rem_calls (lo : Nat) (vf vg vl : Value) (p : Prg) (F : Nat) (c : List Ins) (w : World) (hp : ProgAt lo w vf vg vl p) (hv : validB p = true) (hF : F < p.funcs.length) (hc : (nth p.funcs F).code = c) :
    Calls Tryz.prog 48 #[.agg #[vf, vg, vl, .int .i64 p.main], .int .i64 F] w fun e w' => ∃ g gl, e = .returned (.slice (some ⟨g, 0, none⟩) c.length c.length) ∧ w.heap.size ≤ g ∧ gl.length = c.length ∧ (∀ j, j < c.length → nth gl j = goneB (deadOf p F) c j) ∧ RowB w' g gl ∧ Below w.heap.size w w' := by
  have HP := hid hp
  have HV := hid hv
  have HK := hid (fok_of_funcB (valid_func hv F hF))
  have HC := hid hc
  have hn := HK.out.pos
  have hn2 := HK.out.le
  have HJT := hid (show Jok c by rw [← hc]; exact HK.out.jok)
  rw [hc] at hn hn2
  have hFi : ¬ ((F : Int) < 0) := by omega
  have hFl : (F : Int) < p.funcs.length := by omega
  obtain ⟨fa, fc, fb, fo, S, rfl, p1, x0, x1, x2, x3, xi, xk, -⟩ := hp.funcs.open
  obtain ⟨ga, gc, _, _, rfl, -⟩ := hp.globs.open
  obtain ⟨la, lc, _, _, _, rfl, -⟩ := hp.lays.open
  have e1 := p1 (by omega)
  subst e1
  have y0 := x0 F hF
  have y1 := x1 F hF
  have y2 := x2 F hF
  have y3 := x3 F hF
  have yc := xi F hF
  have yk := xk (by omega)
  rw [hc] at y3 yc
  have HCA := hid yc
  have hmb : ∀ u : World, (Instr.makeSlice 34 (.int .i64 (c.length : Int)) (.int .i64 (c.length : Int))).run Tryz.prog u = .ok (.slice (some ⟨u.heap.size, 0, none⟩) c.length c.length) (u.alloc (.cells (madeCells #[.bool false] c.length) 4)) := fun u => run_make_row' (P := Tryz.prog) 34 4 (.bool false) 1 Tryz.underlying34 infoB rfl .i64 .i64 c.length (by omega) (by omega) u
  clear hp hv hc p1 x0 x1 x2 x3 xi xk yc
  go_enter Tryz.func48, Tryz.ntmps48
  go_wp2_with fail
  generalize hW : World.alloc (World.alloc w _) _ = W
  have hbw : Below w.heap.size w W := by rw [← hW]; exact ((Below.refl _ _).alloc (Nat.le_refl _) _).alloc (by simp) _
  have hx1 : BoxAt W w.heap.size 26 [.slice (some ⟨fb, fo, none⟩) p.funcs.length fc, .slice ga p.globals.length gc, .slice la p.layouts.length lc, .int .i64 p.main] := by rw [← hW]; exact (BoxAt.new w _ _ _ _ rfl rfl).alloc _
  have hx2 : BoxAt W (w.heap.size + 1) 33 [.string (nth p.funcs F).name, .int .i64 (nth p.funcs F).params, .int .i64 (nth p.funcs F).regs, .slice (S F).a c.length (S F).c] := by rw [← hW]; exact BoxAt.new _ _ _ _ _ (by simp) rfl
  have HBW := hid hbw
  have HX1 := hid hx1
  have HX2 := hid hx2
  clear hW hbw hx1 hx2 y0 y1 y2 y3
  refine (rreach_calls 0 _ _ _ _ c W (CodeAt.mono (CodeAt.below HCA.out HBW.out) (Nat.zero_le _)) HJT.out).mono ?_
  rintro e w6 ⟨g10, n10, rfl, hn10, l10, hr10, hb10⟩
  subst hn10
  have HR10 := hid hr10
  have HB6 := hid (bvia HBW.out hb10)
  have HX1b := hid (HX1.out.below hb10)
  have HX2b := hid (HX2.out.below hb10)
  have a3 := HX2b.out.cell 3 _ rfl
  have az := HX2b.out.lt
  have p0 := HX1b.out.cell 0 _ rfl
  have p1 := HX1b.out.cell 1 _ rfl
  have p2 := HX1b.out.cell 2 _ rfl
  have p3 := HX1b.out.cell 3 _ rfl
  have pz := HX1b.out.lt
  clear hr10 hb10
  go_wp2_with fail
  have hba : Below w6.heap.size w6 (w6.alloc (.cells (madeCells #[.bool false] c.length) 4)) := (Below.refl _ _).alloc (Nat.le_refl _) _
  refine (rdead_calls lo _ _ _ p (F : Int) _ (HP.out.below (bvia HB6.out hba))).mono ?_
  rintro e w8 ⟨v8, dl, rfl, hD, hd8, hb8⟩
  have hRB := (RowB.made w6 c.length).below hb8
  have HBA := hid (show Below w6.heap.size w6 w8 from hba.trans (hb8.mono (by simp)))
  have HRB := hid hRB
  have hlen : dl.length ≤ c.length := by
    rcases hD with ⟨_, rfl⟩ | ⟨_, L, _, rfl⟩
    · simp
    · refine Nat.le_trans (deadL_len _ _ _ _) ?_
      rw [Int.toNat_natCast, HC.out]; exact Nat.le_refl _
  have HDO := hid (show deadOf p F = dl from deadOf_is hD)
  have HIN := hid (show ∀ x ∈ dl, ∃ i : Nat, x = i ∧ i < c.length from fun x hx => by
    rcases hD with ⟨_, rfl⟩ | ⟨_, L, _, rfl⟩
    · simp at hx
    · unfold deadL at hx
      simp only [List.mem_map, List.mem_filter, List.mem_range] at hx
      obtain ⟨k, ⟨h1, _⟩, rfl⟩ := hx
      rw [Int.toNat_natCast, HC.out] at h1
      exact ⟨k, rfl, h1⟩)
  obtain ⟨da, dc, db, do', rfl, d1, d2, d3, d4, -⟩ := hd8.open
  have HDQ := hid (And.intro d1 (And.intro d2 (And.intro d3 d4)))
  clear hD hd8 hb8 hba hRB p0 p1 p2 p3 pz a3 az d1 d2 d3 d4
  go_wp2_with fail
  go_loopw [9] (fun i wr => ∃ (k : Nat) (gl : List Bool), k ≤ dl.length ∧ i = .int .i64 k ∧ gl.length = c.length ∧ (∀ j, j < c.length → nth gl j = decide ((j : Int) ∈ dl.take k)) ∧ RowB wr w6.heap.size gl ∧ Below w6.heap.size w6 wr ∧ Only (some w6.heap.size) w8 wr) (fun i _ => dl.length - (intOf i).toNat)
  case atStart => exact ⟨0, List.replicate c.length false, Nat.zero_le _, rfl, by simp, fun j hj => by rw [nth_replicate _ _ _ hj]; simp, HRB.out, HBA.out, Only.refl _ _⟩
  case round =>
    obtain ⟨k, gl, hk, rfl, hgl, hgn, hrb, hbl, honl⟩ := hrel
    obtain ⟨wo2, hwo2⟩ : ∃ wo2, wo2 = wr := ⟨_, rfl⟩
    subst hwo2
    have HGL := hid hgl
    have HGN := hid hgn
    have HRB2 := hid hrb
    have HBL2 := hid hbl
    have HON := hid honl
    clear hgl hgn hrb hbl honl
    by_cases hlt : k < dl.length
    · have hlt2 : (k : Int) < dl.length := Int.ofNat_lt.2 hlt
      have hki : ¬ ((k : Int) < 0) := by omega
      obtain ⟨d1, d2, d3, d4⟩ := HDQ.out
      have e1 := d1 (by omega)
      subst e1
      have hdb : db ≠ w6.heap.size := by have := d4 (by omega); simp at this; omega
      have dk := (World.cell?_of_block (w := w8) (a := ⟨db, do' + k, none⟩) (HON.out.2 db (d3 (by omega)) (fun e => hdb (Option.some.inj e)))).trans (d2 k hlt)
      have ds : db < wo2.heap.size := Nat.lt_of_lt_of_le (d3 (by omega)) HON.out.1
      obtain ⟨q, hq, hqn⟩ := HIN.out _ (nth_mem dl k hlt)
      rw [hq] at dk
      have HQQ := hid hq
      have hqi : (q : Int) < c.length := by omega
      have hq0 : ¬ ((q : Int) < 0) := by omega
      have zg := HRB2.out.frozen q
      have cg := HRB2.out.cell (i := q) (by rw [HGL.out]; exact hqn)
      have sg := HRB2.out.lt
      clear d1 d2 d3 d4 hq
      go_wp2_with fail
      go_roundw
      case rel =>
        refine ⟨k + 1, gl.set q true, by omega, by go_num, by simp [HGL.out], fun j hj => ?_, HRB2.out.set q true, HBL2.out.setCell (Nat.le_refl _) _, HON.out.trans (Only.store wo2 _ _ _)⟩
        rw [nth_set _ _ _ _ (by rw [HGL.out]; exact hj), List.take_add_one, List.getElem?_eq_getElem hlt, ← nth_eq _ _ hlt, HQQ.out, HGN.out j hj]
        by_cases e : j = q
        · subst e; rw [if_pos rfl]; simp
        · rw [if_neg e]; congr 1; simp; omega
      case measure => simp [intOf] <;> omega
    · have hke2 : k = dl.length := by omega
      subst hke2
      have hgn2 := HGN.out
      rw [List.take_length] at hgn2
      have HG2 := hid hgn2
      clear hgn2
      have HGD := hid (show ∀ i, goneB (deadOf p F) c i = (decide ((i : Int) ∈ dl) || (!(nth (reachL c) i) || (((nth c i).op == 16 || (nth c i).op == 17) && ((nth c i).c == (i : Int) + 1)))) from fun i => by unfold goneB; rw [HDO.out])
      go_wp2_with fail
      go_loopw [10] (fun i wr => ∃ (k : Nat) (gl : List Bool), k ≤ c.length ∧ i = .int .i64 k ∧ gl.length = c.length ∧ (∀ j, j < c.length → nth gl j = if j < k then goneB (deadOf p F) c j else decide ((j : Int) ∈ dl)) ∧ RowB wr w6.heap.size gl ∧ Below w6.heap.size w6 wr) (fun i _ => c.length - (intOf i).toNat)
      case atStart => exact ⟨0, gl, Nat.zero_le _, rfl, HGL.out, fun j hj => by rw [HG2.out j hj, if_neg (by omega)], HRB2.out, HBL2.out⟩
      case round =>
      obtain ⟨k, gl, hk, rfl, hgl3, hgn3, hrb3, hbl3⟩ := hrel
      obtain ⟨wo3, hwo3⟩ : ∃ wo3, wo3 = wr := ⟨_, rfl⟩
      subst hwo3
      have HGL3 := hid hgl3
      have HGN3 := hid hgn3
      have HRB3 := hid hrb3
      have HBL3 := hid hbl3
      clear hgl3 hgn3 hrb3 hbl3
      by_cases hlt : k < c.length
      · have hlt2 : (k : Int) < c.length := Int.ofNat_lt.2 hlt
        have hki : ¬ ((k : Int) < 0) := by omega
        have hx := HX2b.out.below HBL3.out
        have a3 := hx.cell 3 _ rfl
        have az := hx.lt
        have HCK := hid (CodeAt.below HCA.out (bvia HB6.out HBL3.out))
        obtain ⟨ca, cc, cb, co, hce, p1, y0, y1, y2, y3, y4, yb, -⟩ := HCK.out.open
        obtain ⟨e1, _, e3⟩ := Value.slice.inj hce
        rw [e1, p1 (by omega)] at a3
        have y0 := y0 k hlt
        have y1 := y1 k hlt
        have y2 := y2 k hlt
        have y3 := y3 k hlt
        have y4 := y4 k hlt
        have yb := yb (by omega)
        have hrr := HR10.out.below HBL3.out
        have ch := hrr.cell (i := k) (by rw [reachL_len]; exact hlt)
        have sh := hrr.lt
        have ck := HRB3.out.cell (i := k) (by rw [HGL3.out]; exact hlt)
        rw [HGN3.out k hlt, if_neg (by omega)] at ck
        have zk := HRB3.out.frozen k
        have sk := HRB3.out.lt
        clear hx hce e1 e3 p1 hrr
        cases hdk : decide ((k : Int) ∈ dl) with
        | true =>
          rw [hdk] at ck
          have hG : goneB (deadOf p F) c k = true := by rw [HGD.out k]; rw [hdk]; rfl
          have HGK := hid hG
          clear hG
          go_wp2_with fail
          go_roundw
          case rel =>
            refine ⟨k + 1, gl.set k true, by omega, by go_num, by simp [HGL3.out], fun j hj => ?_, (HRB3.out.set k true).alloc _, (HBL3.out.setCell (by show w6.heap.size ≤ w6.heap.size; exact Nat.le_refl _) _).alloc (by simp; exact HBL3.out.size) _⟩
            rw [nth_set _ _ _ _ (by rw [HGL3.out]; exact hj)]
            by_cases e : j = k
            · subst e; rw [if_pos rfl, if_pos (by omega), HGK.out]
            · rw [if_neg e, HGN3.out j hj]
              by_cases e2 : j < k
              · rw [if_pos e2, if_pos (by omega)]
              · rw [if_neg e2, if_neg (by omega)]
          case measure => simp [intOf] <;> omega
        | false =>
          rw [hdk] at ck
          cases hr : nth (reachL c) k with
          | false =>
            rw [hr] at ch
            have hG : goneB (deadOf p F) c k = true := by rw [HGD.out k]; rw [hdk, hr]; rfl
            have HGK := hid hG
            clear hG
            go_wp2_with fail
            go_roundw
            case rel =>
              refine ⟨k + 1, gl.set k true, by omega, by go_num, by simp [HGL3.out], fun j hj => ?_, (HRB3.out.set k true).alloc _, (HBL3.out.setCell (by show w6.heap.size ≤ w6.heap.size; exact Nat.le_refl _) _).alloc (by simp; exact HBL3.out.size) _⟩
              rw [nth_set _ _ _ _ (by rw [HGL3.out]; exact hj)]
              by_cases e : j = k
              · subst e; rw [if_pos rfl, if_pos (by omega), HGK.out]
              · rw [if_neg e, HGN3.out j hj]
                by_cases e2 : j < k
                · rw [if_pos e2, if_pos (by omega)]
                · rw [if_neg e2, if_neg (by omega)]
            case measure => simp [intOf] <;> omega
          | true =>
            rw [hr] at ch
            cases h16 : ((nth c k).op == 16) with
            | true =>
              cases hcc : ((nth c k).c == (k : Int) + 1) with
              | true =>
                have hG : goneB (deadOf p F) c k = true := by rw [HGD.out k]; rw [hdk, hr, h16, hcc]; rfl
                have HGK := hid hG
                clear hG
                go_wp2_with fail
                go_roundw
                case rel =>
                  refine ⟨k + 1, gl.set k true, by omega, by go_num, by simp [HGL3.out], fun j hj => ?_, (HRB3.out.set k true).alloc _, (HBL3.out.setCell (by show w6.heap.size ≤ w6.heap.size; exact Nat.le_refl _) _).alloc (by simp; exact HBL3.out.size) _⟩
                  rw [nth_set _ _ _ _ (by rw [HGL3.out]; exact hj)]
                  by_cases e : j = k
                  · subst e; rw [if_pos rfl, if_pos (by omega), HGK.out]
                  · rw [if_neg e, HGN3.out j hj]
                    by_cases e2 : j < k
                    · rw [if_pos e2, if_pos (by omega)]
                    · rw [if_neg e2, if_neg (by omega)]
                case measure => simp [intOf] <;> omega
              | false =>
                have hG : goneB (deadOf p F) c k = false := by rw [HGD.out k]; rw [hdk, hr, h16, hcc]; rfl
                have HGK := hid hG
                clear hG
                go_wp2_with fail
                go_roundw
                case rel =>
                  refine ⟨k + 1, gl.set k false, by omega, by go_num, by simp [HGL3.out], fun j hj => ?_, (HRB3.out.set k false).alloc _, (HBL3.out.setCell (by show w6.heap.size ≤ w6.heap.size; exact Nat.le_refl _) _).alloc (by simp; exact HBL3.out.size) _⟩
                  rw [nth_set _ _ _ _ (by rw [HGL3.out]; exact hj)]
                  by_cases e : j = k
                  · subst e; rw [if_pos rfl, if_pos (by omega), HGK.out]
                  · rw [if_neg e, HGN3.out j hj]
                    by_cases e2 : j < k
                    · rw [if_pos e2, if_pos (by omega)]
                    · rw [if_neg e2, if_neg (by omega)]
                case measure => simp [intOf] <;> omega
            | false =>
              cases h17 : ((nth c k).op == 17) with
              | true =>
                cases hcc : ((nth c k).c == (k : Int) + 1) with
                | true =>
                  have hG : goneB (deadOf p F) c k = true := by rw [HGD.out k]; rw [hdk, hr, h16, h17, hcc]; rfl
                  have HGK := hid hG
                  clear hG
                  go_wp2_with fail
                  go_roundw
                  case rel =>
                    refine ⟨k + 1, gl.set k true, by omega, by go_num, by simp [HGL3.out], fun j hj => ?_, (HRB3.out.set k true).alloc _, (HBL3.out.setCell (by show w6.heap.size ≤ w6.heap.size; exact Nat.le_refl _) _).alloc (by simp; exact HBL3.out.size) _⟩
                    rw [nth_set _ _ _ _ (by rw [HGL3.out]; exact hj)]
                    by_cases e : j = k
                    · subst e; rw [if_pos rfl, if_pos (by omega), HGK.out]
                    · rw [if_neg e, HGN3.out j hj]
                      by_cases e2 : j < k
                      · rw [if_pos e2, if_pos (by omega)]
                      · rw [if_neg e2, if_neg (by omega)]
                  case measure => simp [intOf] <;> omega
                | false =>
                  have hG : goneB (deadOf p F) c k = false := by rw [HGD.out k]; rw [hdk, hr, h16, h17, hcc]; rfl
                  have HGK := hid hG
                  clear hG
                  go_wp2_with fail
                  go_roundw
                  case rel =>
                    refine ⟨k + 1, gl.set k false, by omega, by go_num, by simp [HGL3.out], fun j hj => ?_, (HRB3.out.set k false).alloc _, (HBL3.out.setCell (by show w6.heap.size ≤ w6.heap.size; exact Nat.le_refl _) _).alloc (by simp; exact HBL3.out.size) _⟩
                    rw [nth_set _ _ _ _ (by rw [HGL3.out]; exact hj)]
                    by_cases e : j = k
                    · subst e; rw [if_pos rfl, if_pos (by omega), HGK.out]
                    · rw [if_neg e, HGN3.out j hj]
                      by_cases e2 : j < k
                      · rw [if_pos e2, if_pos (by omega)]
                      · rw [if_neg e2, if_neg (by omega)]
                  case measure => simp [intOf] <;> omega
              | false =>
                have hG : goneB (deadOf p F) c k = false := by rw [HGD.out k]; rw [hdk, hr, h16, h17]; rfl
                have HGK := hid hG
                clear hG
                go_wp2_with fail
                go_roundw
                case rel =>
                  refine ⟨k + 1, gl.set k false, by omega, by go_num, by simp [HGL3.out], fun j hj => ?_, (HRB3.out.set k false).alloc _, (HBL3.out.setCell (by show w6.heap.size ≤ w6.heap.size; exact Nat.le_refl _) _).alloc (by simp; exact HBL3.out.size) _⟩
                  rw [nth_set _ _ _ _ (by rw [HGL3.out]; exact hj)]
                  by_cases e : j = k
                  · subst e; rw [if_pos rfl, if_pos (by omega), HGK.out]
                  · rw [if_neg e, HGN3.out j hj]
                    by_cases e2 : j < k
                    · rw [if_pos e2, if_pos (by omega)]
                    · rw [if_neg e2, if_neg (by omega)]
                case measure => simp [intOf] <;> omega
      · have hke : k = c.length := by omega
        subst hke
        go_wp2_with fail
        go_ret
        exact ⟨w6.heap.size, gl, rfl, HB6.out.size, HGL3.out, fun j hj => by rw [HGN3.out j hj, if_pos hj], HRB3.out, bvia HB6.out HBL3.out⟩

end Go.Proofs.YteiohnfmlabelaaGreat
