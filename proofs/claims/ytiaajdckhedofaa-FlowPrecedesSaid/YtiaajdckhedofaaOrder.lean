import Derived.Test.YtiaajdckhedofaaOrd1
import Derived.Test.YtiaajdckhedofaaFBlk
import Derived.Laws.EntriesVeiled
namespace Go.Proofs.Ytiaajdckhedofaa
set_option linter.unusedVariables false
set_option linter.unusedSimpArgs false
open Go.RowKit

/-- The blocks that may follow a block. -/
def nxL (c : List Ins) (i : Nat) : List Int := (nth (blksL c) i).next
/-- The reachable blocks in reverse postorder. -/
def orderL (c : List Ins) : List Int := (dfs (nxL c) (blksL c).length 0 (List.replicate (blksL c).length false, [])).2.reverse
theorem blksL_len (c : List Ins) : (blksL c).length = (bnd c c.length).length := by simp [blksL]
theorem nxL_in (c : List Ins) (hj : Jok c) (i : Nat) (hi : i < (blksL c).length) : ∀ y ∈ nxL c i, 0 ≤ y ∧ y < (blksL c).length := by
  intro y hy
  have hi2 : i < (bnd c c.length).length := by rw [← blksL_len]; exact hi
  unfold nxL at hy
  unfold blksL at hy
  rw [nth_map' _ _ _ hi2] at hy
  have hy' : y ∈ setL (nums c (nth (bnd c c.length) i)) := hy
  rw [setL_mem] at hy'
  unfold nums at hy'
  obtain ⟨z, hz, rfl⟩ := List.mem_map.1 hy'
  have hb := bnd_in c c.length i hi2
  have hh := headN_le c ((nth (bnd c c.length) i).2 - 1)
  have := hj.nx _ (by omega) z hz
  have h2 := numOf_lt c z.toNat (by omega)
  rw [blksL_len]
  omega
theorem blksL_pos (c : List Ins) (hj : Jok c) : 0 < (blksL c).length ∧ (blksL c).length ≤ 1000 := by
  rw [blksL_len]
  have hp := hj.pos
  have h1 := bnd_pos c (c.length - 1)
  have h2 := bnd_le c c.length
  have h3 := hj.le
  rw [Nat.sub_add_cancel hp] at h1
  exact ⟨h1, by omega⟩

set_option maxRecDepth 100000 in
set_option maxHeartbeats 10000000 in
theorem order_calls (lo : Nat) (vc : Value) (nm : ByteArray) (pa re : Int) (l : List Ins) (w : World) (hc : CodeAt lo w vc l) (hj : Jok l) :
    Calls Try.prog 19 #[.agg #[.string nm, .int .i64 pa, .int .i64 re, vc]] w fun e w' => ∃ v', e = .returned v' ∧ IntsAt w.heap.size w' v' (orderL l) ∧ Below w.heap.size w w' := by
  have HC0 := hc
  obtain ⟨ca, cc, cb, co, rfl, cp, _, _, _, _, _, cbl, _, _, _, cn⟩ := hc.open
  have hpos := hj.pos
  have e1 := cp (by omega)
  subst e1
  have hbl' := cbl (by omega)
  clear cp cbl cn
  obtain ⟨hLp, hLm⟩ := blksL_pos l hj
  have hLx := nxL_in l hj
  go_enter Try.func19, Try.ntmps19
  go_wp2_with fail
  have hB0 : Below w.heap.size w (w.alloc (.cells #[.string nm, .int .i64 pa, .int .i64 re, .slice (some ⟨cb, co, none⟩) l.length cc] 29)) := (Below.refl _ _).alloc (Nat.le_refl _) _
  refine (blocks_calls lo _ nm pa re l _ (hc.below hB0) hj).mono ?_
  rintro e W0 ⟨vb, rfl, hbk, hb1⟩
  have HB1 := hid (hB0.trans (hb1.mono (by simp)))
  have s1 : w.heap.size < W0.heap.size := by have := hb1.size; simp at this; omega
  have hbk2 := hbk
  obtain ⟨rows, hr1, ⟨ab, cbb, bbk, ob, rfl, _, hpp, _⟩, _⟩ := hbk2
  have hrl : rows.length = (blksL l).length := hr1
  rw [hrl] at hbk ⊢
  obtain ⟨rfl, _⟩ := hpp (by omega)
  have HBK := hid hbk
  unfold nxL at hLx
  have horder : orderL l = (dfs (fun i => (nth (blksL l) i).next) (blksL l).length 0 (List.replicate (blksL l).length false, [])).2.reverse := rfl
  have HORD := hid horder
  clear hbk hb1 hpp hr1 horder hrl
  generalize hL : blksL l = L at *
  have hmk := run_make_row' (P := Try.prog) 40 4 (.bool false) 1 Try.underlying40 infoB rfl .i64 .i64 L.length (by omega) (by omega)
  have hlz : ((L.length : Int) == 0) = false := beq_eq_false_iff_ne.2 (by omega)
  have hlz' : ¬ (L.length : Int) = 0 := by omega
  go_wp2_with fail
  generalize hW1 : World.alloc (World.alloc (World.alloc (World.alloc (World.alloc _ _) _) _) _) _ = W1
  have ho : Ord W0 (W0.heap.size + 5) W0.heap.size (W0.heap.size + 1) (W0.heap.size + 2) (W0.heap.size + 3) (W0.heap.size + 4) (.slice (some ⟨bbk, ob, none⟩) L.length cbb) L.length W1 (.slice none 0 0) (List.replicate L.length false, []) := by
    rw [← hW1]
    refine ⟨?_, ?_, ?_, ?_, ?_, ?_, by simp, OwnE.nil _ _ _ _, ?_, by simp⟩
    · rw [World.cell?_alloc_lt _ _ _ (by simp <;> omega), World.cell?_alloc_lt _ _ _ (by simp <;> omega)]
      exact cell_new _ _ _ _ _ (by simp) rfl
    · rw [World.cell?_alloc_lt _ _ _ (by simp <;> omega), World.cell?_alloc_lt _ _ _ (by simp <;> omega), World.cell?_alloc_lt _ _ _ (by simp <;> omega), World.cell?_alloc_lt _ _ _ (by simp <;> omega)]
      exact cell_new _ _ _ _ _ (by simp) rfl
    · exact cell_new _ _ _ _ _ (by simp) rfl
    · rw [World.cell?_alloc_lt _ _ _ (by simp <;> omega)]
      exact cell_new _ _ _ _ _ (by simp) rfl
    · rw [World.frozen?_alloc_old _ _ _ (by simp <;> omega)]
      exact frozen_new _ _ _ _ _ (by simp)
    · have h := RowB.made (W0.alloc (.cells #[.slice (some ⟨bbk, ob, none⟩) L.length cbb] 33)) L.length
      have h2 := ((h.alloc (.cells #[.slice (some ⟨W0.heap.size + 1, 0, none⟩) L.length L.length] 40)).alloc (.cells #[.slice none 0 0] 35)).alloc (.cells #[searchV (W0.heap.size + 1 + 1) W0.heap.size (W0.heap.size + 1 + 1 + 1 + 1) (W0.heap.size + 1 + 1 + 1)] 60)
      unfold searchV at h2
      simpa using h2
    · exact (((((Below.refl _ _).alloc (Nat.le_refl _) _).alloc (by simp) _).alloc (by simp; omega) _).alloc (by simp; omega) _).alloc (by simp; omega) _
  have hfit : Fit L.length 0 (List.replicate L.length false, []) := ⟨by simp, by simp [falses_replicate]⟩
  clear hW1
  refine (search1_calls W0 _ _ _ _ _ _ _ _ L L.length rfl hLm HBK.out hLx L.length 0 W1 _ _ 0 ho (by omega) (by simp [falses_replicate]) (nth_replicate _ _ _ (by omega)) hfit).mono ?_
  rintro e w2 ⟨rfl, v2, ho2, hp2⟩
  have hfin := (dfs_fit (fun i => (nth L i).next) L.length hLx L.length 0 (List.replicate L.length false, []) 0 (by omega) (by simp [falses_replicate]) (nth_replicate _ _ _ (by omega)) hfit).1
  generalize hz : dfs (fun i => (nth L i).next) L.length 0 (List.replicate L.length false, []) = z at *
  have a1 := ho2.hk
  have hown := ho2.own
  have hlt := hown.lt
  have hsz2 := ho2.lt.2.2.2.2.2.2
  have HOLD := hid ho2.old
  have HOWN := hid hown
  have hzl : z.2.length ≤ 1000 := by have := hfin.2; omega
  clear ho ho2 hp2 hown hmk hlz hlz'
  go_wp2_with fail
  refine (reverse_calls HOWN.out (by omega)).mono ?_
  rintro e w3 ⟨rfl, hrv, hgr⟩
  have hb3 := Below.grownE (Below.refl _ _) HOWN.out hgr hsz2 (Nat.le_refl _)
  have a2 := (hb3.cell (p := ⟨W0.heap.size + 3, 0, none⟩) (show W0.heap.size + 3 < W0.heap.size + 5 by omega)).trans a1
  have HRV := hid hrv
  have HB3 := hid hb3
  clear hrv hgr hb3 a1
  go_wp2_with fail
  go_ret
  refine ⟨_, rfl, ?_, HB1.out.trans ((HOLD.out.trans (HB3.out.mono (by omega))).mono (by omega))⟩
  rw [HORD.out]
  exact HRV.out.sl (by omega) (by simp; omega)

end Go.Proofs.Ytiaajdckhedofaa
