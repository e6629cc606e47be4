/-
  The description of an operation.
-/
import Derived.Test.YtihcngjkflaelaaGreatDoorZTab
namespace Go.Proofs.YtihcngjkflaelaaGreatDoor
set_option linter.unusedVariables false
set_option linter.unusedSimpArgs false
open Go.RowKit

theorem tabC_at (k : Nat) (hk : k < 53) : tabC[k * 2]? = some (.string (tabL.getD k (⟨#[]⟩, ⟨#[]⟩)).1) ∧ tabC[k * 2 + 1]? = some (.string (tabL.getD k (⟨#[]⟩, ⟨#[]⟩)).2) := by
  have h : ∀ k : Fin 53, tabC[k.val * 2]? = some (.string (tabL.getD k.val (⟨#[]⟩, ⟨#[]⟩)).1) ∧ tabC[k.val * 2 + 1]? = some (.string (tabL.getD k.val (⟨#[]⟩, ⟨#[]⟩)).2) := by
    intro k
    match k with
    | ⟨0, _⟩ => exact ⟨rfl, rfl⟩
    | ⟨1, _⟩ => exact ⟨rfl, rfl⟩
    | ⟨2, _⟩ => exact ⟨rfl, rfl⟩
    | ⟨3, _⟩ => exact ⟨rfl, rfl⟩
    | ⟨4, _⟩ => exact ⟨rfl, rfl⟩
    | ⟨5, _⟩ => exact ⟨rfl, rfl⟩
    | ⟨6, _⟩ => exact ⟨rfl, rfl⟩
    | ⟨7, _⟩ => exact ⟨rfl, rfl⟩
    | ⟨8, _⟩ => exact ⟨rfl, rfl⟩
    | ⟨9, _⟩ => exact ⟨rfl, rfl⟩
    | ⟨10, _⟩ => exact ⟨rfl, rfl⟩
    | ⟨11, _⟩ => exact ⟨rfl, rfl⟩
    | ⟨12, _⟩ => exact ⟨rfl, rfl⟩
    | ⟨13, _⟩ => exact ⟨rfl, rfl⟩
    | ⟨14, _⟩ => exact ⟨rfl, rfl⟩
    | ⟨15, _⟩ => exact ⟨rfl, rfl⟩
    | ⟨16, _⟩ => exact ⟨rfl, rfl⟩
    | ⟨17, _⟩ => exact ⟨rfl, rfl⟩
    | ⟨18, _⟩ => exact ⟨rfl, rfl⟩
    | ⟨19, _⟩ => exact ⟨rfl, rfl⟩
    | ⟨20, _⟩ => exact ⟨rfl, rfl⟩
    | ⟨21, _⟩ => exact ⟨rfl, rfl⟩
    | ⟨22, _⟩ => exact ⟨rfl, rfl⟩
    | ⟨23, _⟩ => exact ⟨rfl, rfl⟩
    | ⟨24, _⟩ => exact ⟨rfl, rfl⟩
    | ⟨25, _⟩ => exact ⟨rfl, rfl⟩
    | ⟨26, _⟩ => exact ⟨rfl, rfl⟩
    | ⟨27, _⟩ => exact ⟨rfl, rfl⟩
    | ⟨28, _⟩ => exact ⟨rfl, rfl⟩
    | ⟨29, _⟩ => exact ⟨rfl, rfl⟩
    | ⟨30, _⟩ => exact ⟨rfl, rfl⟩
    | ⟨31, _⟩ => exact ⟨rfl, rfl⟩
    | ⟨32, _⟩ => exact ⟨rfl, rfl⟩
    | ⟨33, _⟩ => exact ⟨rfl, rfl⟩
    | ⟨34, _⟩ => exact ⟨rfl, rfl⟩
    | ⟨35, _⟩ => exact ⟨rfl, rfl⟩
    | ⟨36, _⟩ => exact ⟨rfl, rfl⟩
    | ⟨37, _⟩ => exact ⟨rfl, rfl⟩
    | ⟨38, _⟩ => exact ⟨rfl, rfl⟩
    | ⟨39, _⟩ => exact ⟨rfl, rfl⟩
    | ⟨40, _⟩ => exact ⟨rfl, rfl⟩
    | ⟨41, _⟩ => exact ⟨rfl, rfl⟩
    | ⟨42, _⟩ => exact ⟨rfl, rfl⟩
    | ⟨43, _⟩ => exact ⟨rfl, rfl⟩
    | ⟨44, _⟩ => exact ⟨rfl, rfl⟩
    | ⟨45, _⟩ => exact ⟨rfl, rfl⟩
    | ⟨46, _⟩ => exact ⟨rfl, rfl⟩
    | ⟨47, _⟩ => exact ⟨rfl, rfl⟩
    | ⟨48, _⟩ => exact ⟨rfl, rfl⟩
    | ⟨49, _⟩ => exact ⟨rfl, rfl⟩
    | ⟨50, _⟩ => exact ⟨rfl, rfl⟩
    | ⟨51, _⟩ => exact ⟨rfl, rfl⟩
    | ⟨52, _⟩ => exact ⟨rfl, rfl⟩
    | ⟨k + 53, h⟩ => exact absurd h (by omega)
  exact h ⟨k, hk⟩
theorem rolesC_out (op : Int) (h : ¬ (0 < op ∧ op < 53)) : rolesC op = ⟨#[]⟩ := by
  unfold rolesC
  repeat rw [if_neg (by omega)]
theorem tabC_size : tabC.size = 106 := by kernel_rfl

set_option maxRecDepth 100000 in
set_option maxHeartbeats 4000000 in
theorem describe_calls (op : Int) (w : World) : Calls Tryz.prog 25 #[.int .i64 op] w fun e w' => e = .returned (.tuple #[.agg #[.string (wordC op), .string (rolesC op)], .bool (decide (0 < op) && decide (op < 53))]) ∧ Below w.heap.size w w' := by
  go_enter Tryz.func25, Tryz.ntmps25
  go_wp2_with fail
  refine (table_calls _).mono ?_
  rintro e w1 ⟨rfl, hb1⟩
  have HB1 := hid hb1
  have c0 := (hb1.cell (p := ⟨w.heap.size, 0, none⟩) (by simp)).trans (cellNew w #[.string ⟨#[]⟩, .string ⟨#[]⟩] 61 w.heap.size 0 (u := .string ⟨#[]⟩) rfl rfl)
  have c1 := (hb1.cell (p := ⟨w.heap.size, 1, none⟩) (by simp)).trans (cellNew w #[.string ⟨#[]⟩, .string ⟨#[]⟩] 61 w.heap.size 1 (u := .string ⟨#[]⟩) rfl rfl)
  have z0 := (hb1.frozen (p := ⟨w.heap.size, 0, none⟩) (by simp)).trans (frozenNew w #[.string ⟨#[]⟩, .string ⟨#[]⟩] 61 w.heap.size 0 rfl)
  have z1 := (hb1.frozen (p := ⟨w.heap.size, 1, none⟩) (by simp)).trans (frozenNew w #[.string ⟨#[]⟩, .string ⟨#[]⟩] 61 w.heap.size 1 rfl)
  have r0 : w.heap.size < w1.heap.size := by have := hb1.size; simp at this; omega
  clear hb1
  go_wp2_with fail
  rw [run_storeCells_new w1 82 _ tabC tab_info (by kernel_rfl) (by kernel_rfl)]
  simp only [Result.andThen]
  rw [Oper.upon_skip]
  generalize hW : World.alloc _ _ = W
  have hbW : Below w1.heap.size w1 W := by rw [← hW]; exact (Below.refl _ _).alloc (Nat.le_refl _) _
  have c0' := (hbW.cell (p := ⟨w.heap.size, 0, none⟩) r0).trans c0
  have c1' := (hbW.cell (p := ⟨w.heap.size, 1, none⟩) r0).trans c1
  have z0' := (hbW.frozen (p := ⟨w.heap.size, 0, none⟩) r0).trans z0
  have z1' := (hbW.frozen (p := ⟨w.heap.size, 1, none⟩) r0).trans z1
  have r1 : w.heap.size < W.heap.size := by have := hbW.size; omega
  have r2 : w1.heap.size < W.heap.size := by rw [← hW]; simp
  have ht : ∀ k u, tabC[k]? = some u → W.cell? ⟨w1.heap.size, k, none⟩ = some u := fun k u hu => by rw [← hW]; exact cellNew _ _ _ _ _ rfl hu
  have HBW := hid (show Below w.heap.size w W from (((Below.refl _ _).alloc (Nat.le_refl _) _).trans (HB1.out.mono (by simp))).trans (hbW.mono (by omega)))
  clear hW hbW c0 c1 z0 z1 r0 HB1
  by_cases h0 : op ≤ 0
  · have g0 : decide (op ≤ 0) = true := decide_eq_true h0
    have e1 : wordC op = ⟨#[]⟩ := by unfold wordC; rw [if_neg (by omega)]
    have e2 : rolesC op = ⟨#[]⟩ := rolesC_out op (by omega)
    have e3 : (decide (0 < op) && decide (op < 53)) = false := by simp; omega
    have HE := hid (And.intro e1 (And.intro e2 e3))
    clear ht h0 e1 e2 e3
    go_wp2_with fail
    refine bodyPost_ret (v := .tuple #[.agg #[.string ⟨#[]⟩, .string ⟨#[]⟩], .bool false]) (by simp [results, Tryz.results25, go_sem, c0', c1', r1]) rfl ⟨by rw [HE.out.1, HE.out.2.1, HE.out.2.2], ?_⟩
    exact (HBW.out.setCell (Nat.le_refl _) _).setCell (Nat.le_refl _) _
  · have g0 : decide (op ≤ 0) = false := decide_eq_false h0
    by_cases h1 : 53 ≤ op
    · have g1 : decide (53 ≤ op) = true := decide_eq_true h1
      have e1 : wordC op = ⟨#[]⟩ := by unfold wordC; rw [if_neg (by omega)]
      have e2 : rolesC op = ⟨#[]⟩ := rolesC_out op (by omega)
      have e3 : (decide (0 < op) && decide (op < 53)) = false := by simp; omega
      have HE := hid (And.intro e1 (And.intro e2 e3))
      clear ht h0 h1 e1 e2 e3
      go_wp2_with fail
      refine bodyPost_ret (v := .tuple #[.agg #[.string ⟨#[]⟩, .string ⟨#[]⟩], .bool false]) (by simp [results, Tryz.results25, go_sem, c0', c1', r1]) rfl ⟨by rw [HE.out.1, HE.out.2.1, HE.out.2.2], ?_⟩
      exact (HBW.out.setCell (Nat.le_refl _) _).setCell (Nat.le_refl _) _
    · have g1 : decide (53 ≤ op) = false := decide_eq_false h1
      obtain ⟨k, rfl⟩ := Int.eq_ofNat_of_zero_le (a := op) (by omega)
      have hk : k < 53 := by omega
      have hk0 : ¬ k = 0 := by omega
      have hk1 : decide (k = 0) = false := decide_eq_false hk0
      have hk3 : 0 < k := by omega
      have hk2 : (k : Int) < 53 := by omega
      obtain ⟨t0, t1⟩ := tabC_at k hk
      have d0 := ht _ _ t0
      have d1 := ht _ _ t1
      have e1 : wordC k = (tabL.getD k (⟨#[]⟩, ⟨#[]⟩)).1 := by unfold wordC; rw [if_pos (by omega)]; rfl
      have e3 : (decide (0 < (k : Int)) && decide ((k : Int) < 53)) = true := by simp; omega
      have HE := hid (And.intro e1 (And.intro (tab_roles k (by omega) hk).symm e3))
      clear e1 e3 t0 t1
      generalize tabL.getD k (⟨#[]⟩, ⟨#[]⟩) = ent at *
      clear ht h0 h1
      go_wp2_with fail
      refine bodyPost_ret (v := .tuple #[.agg #[.string ent.1, .string ent.2], .bool true]) (by simp [results, Tryz.results25, go_sem, c0', c1', r1]) rfl ⟨by rw [HE.out.1, HE.out.2.1, HE.out.2.2], ?_⟩
      exact (HBW.out.setCell (Nat.le_refl _) _).setCell (Nat.le_refl _) _

end Go.Proofs.YtihcngjkflaelaaGreatDoor
