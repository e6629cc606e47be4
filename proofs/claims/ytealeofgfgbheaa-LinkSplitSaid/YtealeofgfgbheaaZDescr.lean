/-
  The table of the operations and the description of one.
-/
import Derived.Deep.WholeRow
import Derived.Test.YtealeofgfgbheaaZAppend
import Derived.Test.YtealeofgfgbheaaZSpecC
namespace Go.Proofs.Ytealeofgfgbheaa
set_option linter.unusedVariables false
set_option linter.unusedSimpArgs false
open Go.RowKit

theorem cellNew (w : World) (cs : Array Value) (t : TypeId) (b k : Nat) {u : Value} (hb : b = w.heap.size) (h : cs[k]? = some u) : (w.alloc (.cells cs t)).cell? ⟨b, k, none⟩ = some u := by
  subst hb
  rw [World.cell?_alloc_new]; exact h
theorem frozenNew (w : World) (cs : Array Value) (t : TypeId) (b k : Nat) (hb : b = w.heap.size) : (w.alloc (.cells cs t)).frozen? ⟨b, k, none⟩ = false := by
  subst hb
  rw [World.frozen?_alloc_new]

/-- The words and roles of all operations. -/
def tabL : List (ByteArray × ByteArray) := [(⟨#[]⟩, ⟨#[]⟩), (⟨#[99, 111, 110, 115, 116]⟩, ⟨#[100, 105, 45]⟩), (⟨#[110, 105, 108]⟩, ⟨#[100, 45, 45]⟩), (⟨#[109, 111, 118, 101]⟩, ⟨#[100, 115, 45]⟩), (⟨#[97, 100, 100]⟩, ⟨#[100, 115, 115]⟩), (⟨#[115, 117, 98]⟩, ⟨#[100, 115, 115]⟩), (⟨#[109, 117, 108]⟩, ⟨#[100, 115, 115]⟩), (⟨#[100, 105, 118]⟩, ⟨#[100, 115, 115]⟩), (⟨#[114, 101, 109]⟩, ⟨#[100, 115, 115]⟩), (⟨#[110, 101, 103]⟩, ⟨#[100, 115, 45]⟩), (⟨#[110, 111, 116]⟩, ⟨#[100, 115, 45]⟩), (⟨#[101, 113]⟩, ⟨#[100, 115, 115]⟩), (⟨#[110, 101]⟩, ⟨#[100, 115, 115]⟩), (⟨#[108, 116]⟩, ⟨#[100, 115, 115]⟩), (⟨#[108, 101]⟩, ⟨#[100, 115, 115]⟩), (⟨#[108, 101, 110]⟩, ⟨#[100, 115, 45]⟩), (⟨#[106, 117, 109, 112]⟩, ⟨#[45, 45, 116]⟩), (⟨#[106, 117, 109, 112, 122]⟩, ⟨#[115, 45, 116]⟩), (⟨#[103, 108, 111, 98, 97, 108]⟩, ⟨#[100, 103, 45]⟩), (⟨#[102, 105, 101, 108, 100]⟩, ⟨#[100, 115, 110]⟩), (⟨#[105, 110, 100, 101, 120]⟩, ⟨#[100, 115, 115]⟩), (⟨#[110, 101, 119]⟩, ⟨#[100, 108, 45]⟩), (⟨#[115, 108, 105, 99, 101]⟩, ⟨#[100, 115, 45]⟩), (⟨#[99, 104, 97, 110]⟩, ⟨#[100, 115, 45]⟩), (⟨#[99, 108, 111, 115, 117, 114, 101]⟩, ⟨#[100, 99, 107]⟩), (⟨#[99, 97, 112]⟩, ⟨#[100, 112, 45]⟩), (⟨#[99, 97, 108, 108]⟩, ⟨#[68, 102, 97]⟩), (⟨#[99, 97, 108, 108, 99]⟩, ⟨#[115, 45, 45]⟩), (⟨#[100, 101, 102, 101, 114]⟩, ⟨#[45, 102, 97]⟩), (⟨#[100, 101, 102, 101, 114, 99]⟩, ⟨#[115, 45, 45]⟩), (⟨#[114, 101, 116, 117, 114, 110]⟩, ⟨#[83, 45, 45]⟩), (⟨#[103, 111]⟩, ⟨#[45, 102, 97]⟩), (⟨#[103, 111, 99]⟩, ⟨#[115, 45, 45]⟩), (⟨#[108, 111, 97, 100]⟩, ⟨#[100, 115, 45]⟩), (⟨#[115, 116, 111, 114, 101]⟩, ⟨#[115, 115, 45]⟩), (⟨#[97, 108, 111, 97, 100]⟩, ⟨#[100, 115, 45]⟩), (⟨#[97, 115, 116, 111, 114, 101]⟩, ⟨#[115, 115, 45]⟩), (⟨#[97, 97, 100, 100]⟩, ⟨#[100, 115, 115]⟩), (⟨#[97, 99, 97, 115]⟩, ⟨#[100, 115, 115]⟩), (⟨#[108, 111, 99, 107]⟩, ⟨#[115, 45, 45]⟩), (⟨#[117, 110, 108, 111, 99, 107]⟩, ⟨#[115, 45, 45]⟩), (⟨#[114, 108, 111, 99, 107]⟩, ⟨#[115, 45, 45]⟩), (⟨#[114, 117, 110, 108, 111, 99, 107]⟩, ⟨#[115, 45, 45]⟩), (⟨#[103, 114, 111, 117, 112]⟩, ⟨#[115, 115, 45]⟩), (⟨#[119, 97, 105, 116]⟩, ⟨#[115, 45, 45]⟩), (⟨#[111, 110, 99, 101]⟩, ⟨#[115, 45, 116]⟩), (⟨#[111, 110, 99, 101, 101, 110, 100]⟩, ⟨#[115, 45, 45]⟩), (⟨#[115, 101, 110, 100]⟩, ⟨#[115, 115, 45]⟩), (⟨#[114, 101, 99, 118]⟩, ⟨#[68, 115, 68]⟩), (⟨#[99, 108, 111, 115, 101]⟩, ⟨#[115, 45, 45]⟩), (⟨#[115, 101, 108, 101, 99, 116]⟩, ⟨#[100, 120, 98]⟩), (⟨#[99, 97, 115, 101]⟩, ⟨#[115, 98, 118]⟩), (⟨#[112, 114, 105, 110, 116]⟩, ⟨#[115, 45, 45]⟩)]
def infoE : Enc (ByteArray × ByteArray) := ⟨2, fun x => [.string x.1, .string x.2], fun _ => rfl, by simp [Value.oneCell'], by decide⟩
/-- The word of an operation. -/
def wordC (op : Int) : ByteArray := if 0 < op ∧ op < 53 then (tabL.getD op.toNat (⟨#[]⟩, ⟨#[]⟩)).1 else ⟨#[]⟩
theorem tab_roles : ∀ k : Nat, 0 < k → k < 53 → (tabL.getD k (⟨#[]⟩, ⟨#[]⟩)).2 = rolesC k := by
  intro k h1 h2
  match k, h1, h2 with
  | 1, _, _ => rfl
  | 2, _, _ => rfl
  | 3, _, _ => rfl
  | 4, _, _ => rfl
  | 5, _, _ => rfl
  | 6, _, _ => rfl
  | 7, _, _ => rfl
  | 8, _, _ => rfl
  | 9, _, _ => rfl
  | 10, _, _ => rfl
  | 11, _, _ => rfl
  | 12, _, _ => rfl
  | 13, _, _ => rfl
  | 14, _, _ => rfl
  | 15, _, _ => rfl
  | 16, _, _ => rfl
  | 17, _, _ => rfl
  | 18, _, _ => rfl
  | 19, _, _ => rfl
  | 20, _, _ => rfl
  | 21, _, _ => rfl
  | 22, _, _ => rfl
  | 23, _, _ => rfl
  | 24, _, _ => rfl
  | 25, _, _ => rfl
  | 26, _, _ => rfl
  | 27, _, _ => rfl
  | 28, _, _ => rfl
  | 29, _, _ => rfl
  | 30, _, _ => rfl
  | 31, _, _ => rfl
  | 32, _, _ => rfl
  | 33, _, _ => rfl
  | 34, _, _ => rfl
  | 35, _, _ => rfl
  | 36, _, _ => rfl
  | 37, _, _ => rfl
  | 38, _, _ => rfl
  | 39, _, _ => rfl
  | 40, _, _ => rfl
  | 41, _, _ => rfl
  | 42, _, _ => rfl
  | 43, _, _ => rfl
  | 44, _, _ => rfl
  | 45, _, _ => rfl
  | 46, _, _ => rfl
  | 47, _, _ => rfl
  | 48, _, _ => rfl
  | 49, _, _ => rfl
  | 50, _, _ => rfl
  | 51, _, _ => rfl
  | 52, _, _ => rfl
  | k + 53, _, h => exact absurd h (by omega)

def tabC : Array Value := (tabL.flatMap infoE.enc).toArray

theorem tab_info : (Try.prog.info? 103).map (·.size) = some tabC.size := by kernel_rfl

set_option maxRecDepth 1000000 in
set_option maxHeartbeats 4000000 in
theorem table_calls (w : World) : Calls Try.prog 73 #[] w fun e w' => e = .returned (.agg tabC) ∧ Below w.heap.size w w' := by
  go_enter Try.func73, Try.ntmps73
  go_wp2_with fail
  generalize hch : List.set _ _ _ = ch
  have e : ch = tabC.toList := by rw [← hch]; kernel_rfl
  generalize Array.setIfInBounds _ _ _ = car
  clear hch
  subst e
  rw [run_storeCells_new w 103 _ tabC tab_info (by kernel_rfl) (by kernel_rfl)]
  simp only [Result.andThen]
  rw [Oper.upon_skip]
  go_wp2_with fail
  refine bodyPost_ret (v := .agg tabC) ?_ rfl ⟨rfl, (Below.refl _ _).alloc (Nat.le_refl _) _⟩
  exact results_cell_row (P := Try.prog) rfl _ _ w.heap.size 103 tabC (0, 0) _ rfl (heap_alloc_last w _) Try.underlying103 rfl tab_info

end Go.Proofs.Ytealeofgfgbheaa

/-
  The description of an operation.
-/
namespace Go.Proofs.Ytealeofgfgbheaa
set_option linter.unusedVariables false
set_option linter.unusedSimpArgs false
open Go.RowKit

theorem tabC_at (k : Nat) (hk : k < 53) : tabC[k * 2]? = some (.string (tabL.getD k (⟨#[]⟩, ⟨#[]⟩)).1) ∧ tabC[k * 2 + 1]? = some (.string (tabL.getD k (⟨#[]⟩, ⟨#[]⟩)).2) := by
  have h : ∀ k : Fin 53, tabC[k.val * 2]? = some (.string (tabL.getD k.val (⟨#[]⟩, ⟨#[]⟩)).1) ∧ tabC[k.val * 2 + 1]? = some (.string (tabL.getD k.val (⟨#[]⟩, ⟨#[]⟩)).2) := by
    intro k
    match k with
    | ⟨0, _⟩ => exact ⟨rfl, rfl⟩
    | ⟨1, _⟩ => exact ⟨rfl, rfl⟩
    | ⟨2, _⟩ => exact ⟨rfl, rfl⟩
    | ⟨3, _⟩ => exact ⟨rfl, rfl⟩
    | ⟨4, _⟩ => exact ⟨rfl, rfl⟩
    | ⟨5, _⟩ => exact ⟨rfl, rfl⟩
    | ⟨6, _⟩ => exact ⟨rfl, rfl⟩
    | ⟨7, _⟩ => exact ⟨rfl, rfl⟩
    | ⟨8, _⟩ => exact ⟨rfl, rfl⟩
    | ⟨9, _⟩ => exact ⟨rfl, rfl⟩
    | ⟨10, _⟩ => exact ⟨rfl, rfl⟩
    | ⟨11, _⟩ => exact ⟨rfl, rfl⟩
    | ⟨12, _⟩ => exact ⟨rfl, rfl⟩
    | ⟨13, _⟩ => exact ⟨rfl, rfl⟩
    | ⟨14, _⟩ => exact ⟨rfl, rfl⟩
    | ⟨15, _⟩ => exact ⟨rfl, rfl⟩
    | ⟨16, _⟩ => exact ⟨rfl, rfl⟩
    | ⟨17, _⟩ => exact ⟨rfl, rfl⟩
    | ⟨18, _⟩ => exact ⟨rfl, rfl⟩
    | ⟨19, _⟩ => exact ⟨rfl, rfl⟩
    | ⟨20, _⟩ => exact ⟨rfl, rfl⟩
    | ⟨21, _⟩ => exact ⟨rfl, rfl⟩
    | ⟨22, _⟩ => exact ⟨rfl, rfl⟩
    | ⟨23, _⟩ => exact ⟨rfl, rfl⟩
    | ⟨24, _⟩ => exact ⟨rfl, rfl⟩
    | ⟨25, _⟩ => exact ⟨rfl, rfl⟩
    | ⟨26, _⟩ => exact ⟨rfl, rfl⟩
    | ⟨27, _⟩ => exact ⟨rfl, rfl⟩
    | ⟨28, _⟩ => exact ⟨rfl, rfl⟩
    | ⟨29, _⟩ => exact ⟨rfl, rfl⟩
    | ⟨30, _⟩ => exact ⟨rfl, rfl⟩
    | ⟨31, _⟩ => exact ⟨rfl, rfl⟩
    | ⟨32, _⟩ => exact ⟨rfl, rfl⟩
    | ⟨33, _⟩ => exact ⟨rfl, rfl⟩
    | ⟨34, _⟩ => exact ⟨rfl, rfl⟩
    | ⟨35, _⟩ => exact ⟨rfl, rfl⟩
    | ⟨36, _⟩ => exact ⟨rfl, rfl⟩
    | ⟨37, _⟩ => exact ⟨rfl, rfl⟩
    | ⟨38, _⟩ => exact ⟨rfl, rfl⟩
    | ⟨39, _⟩ => exact ⟨rfl, rfl⟩
    | ⟨40, _⟩ => exact ⟨rfl, rfl⟩
    | ⟨41, _⟩ => exact ⟨rfl, rfl⟩
    | ⟨42, _⟩ => exact ⟨rfl, rfl⟩
    | ⟨43, _⟩ => exact ⟨rfl, rfl⟩
    | ⟨44, _⟩ => exact ⟨rfl, rfl⟩
    | ⟨45, _⟩ => exact ⟨rfl, rfl⟩
    | ⟨46, _⟩ => exact ⟨rfl, rfl⟩
    | ⟨47, _⟩ => exact ⟨rfl, rfl⟩
    | ⟨48, _⟩ => exact ⟨rfl, rfl⟩
    | ⟨49, _⟩ => exact ⟨rfl, rfl⟩
    | ⟨50, _⟩ => exact ⟨rfl, rfl⟩
    | ⟨51, _⟩ => exact ⟨rfl, rfl⟩
    | ⟨52, _⟩ => exact ⟨rfl, rfl⟩
    | ⟨k + 53, h⟩ => exact absurd h (by omega)
  exact h ⟨k, hk⟩
theorem rolesC_out (op : Int) (h : ¬ (0 < op ∧ op < 53)) : rolesC op = ⟨#[]⟩ := by
  unfold rolesC
  repeat rw [if_neg (by omega)]
theorem tabC_size : tabC.size = 106 := by kernel_rfl

set_option maxRecDepth 100000 in
set_option maxHeartbeats 4000000 in
theorem describe_calls (op : Int) (w : World) : Calls Try.prog 68 #[.int .i64 op] w fun e w' => e = .returned (.tuple #[.agg #[.string (wordC op), .string (rolesC op)], .bool (decide (0 < op) && decide (op < 53))]) ∧ Below w.heap.size w w' := by
  go_enter Try.func68, Try.ntmps68
  go_wp2_with fail
  refine (table_calls _).mono ?_
  rintro e w1 ⟨rfl, hb1⟩
  have HB1 := hid hb1
  have c0 := (hb1.cell (p := ⟨w.heap.size, 0, none⟩) (by simp)).trans (cellNew w #[.string ⟨#[]⟩, .string ⟨#[]⟩] 94 w.heap.size 0 (u := .string ⟨#[]⟩) rfl rfl)
  have c1 := (hb1.cell (p := ⟨w.heap.size, 1, none⟩) (by simp)).trans (cellNew w #[.string ⟨#[]⟩, .string ⟨#[]⟩] 94 w.heap.size 1 (u := .string ⟨#[]⟩) rfl rfl)
  have z0 := (hb1.frozen (p := ⟨w.heap.size, 0, none⟩) (by simp)).trans (frozenNew w #[.string ⟨#[]⟩, .string ⟨#[]⟩] 94 w.heap.size 0 rfl)
  have z1 := (hb1.frozen (p := ⟨w.heap.size, 1, none⟩) (by simp)).trans (frozenNew w #[.string ⟨#[]⟩, .string ⟨#[]⟩] 94 w.heap.size 1 rfl)
  have r0 : w.heap.size < w1.heap.size := by have := hb1.size; simp at this; omega
  clear hb1
  go_wp2_with fail
  rw [run_storeCells_new w1 103 _ tabC tab_info (by kernel_rfl) (by kernel_rfl)]
  simp only [Result.andThen]
  rw [Oper.upon_skip]
  generalize hW : World.alloc _ _ = W
  have hbW : Below w1.heap.size w1 W := by rw [← hW]; exact (Below.refl _ _).alloc (Nat.le_refl _) _
  have c0' := (hbW.cell (p := ⟨w.heap.size, 0, none⟩) r0).trans c0
  have c1' := (hbW.cell (p := ⟨w.heap.size, 1, none⟩) r0).trans c1
  have z0' := (hbW.frozen (p := ⟨w.heap.size, 0, none⟩) r0).trans z0
  have z1' := (hbW.frozen (p := ⟨w.heap.size, 1, none⟩) r0).trans z1
  have r1 : w.heap.size < W.heap.size := by have := hbW.size; omega
  have r2 : w1.heap.size < W.heap.size := by rw [← hW]; simp
  have ht : ∀ k u, tabC[k]? = some u → W.cell? ⟨w1.heap.size, k, none⟩ = some u := fun k u hu => by rw [← hW]; exact cellNew _ _ _ _ _ rfl hu
  have HBW := hid (show Below w.heap.size w W from (((Below.refl _ _).alloc (Nat.le_refl _) _).trans (HB1.out.mono (by simp))).trans (hbW.mono (by omega)))
  clear hW hbW c0 c1 z0 z1 r0 HB1
  by_cases h0 : op ≤ 0
  · have g0 : decide (op ≤ 0) = true := decide_eq_true h0
    have e1 : wordC op = ⟨#[]⟩ := by unfold wordC; rw [if_neg (by omega)]
    have e2 : rolesC op = ⟨#[]⟩ := rolesC_out op (by omega)
    have e3 : (decide (0 < op) && decide (op < 53)) = false := by simp; omega
    have HE := hid (And.intro e1 (And.intro e2 e3))
    clear ht h0 e1 e2 e3
    go_wp2_with fail
    refine bodyPost_ret (v := .tuple #[.agg #[.string ⟨#[]⟩, .string ⟨#[]⟩], .bool false]) (by simp [results, Try.results68, go_sem, c0', c1', r1]) rfl ⟨by rw [HE.out.1, HE.out.2.1, HE.out.2.2], ?_⟩
    exact (HBW.out.setCell (Nat.le_refl _) _).setCell (Nat.le_refl _) _
  · have g0 : decide (op ≤ 0) = false := decide_eq_false h0
    by_cases h1 : 53 ≤ op
    · have g1 : decide (53 ≤ op) = true := decide_eq_true h1
      have e1 : wordC op = ⟨#[]⟩ := by unfold wordC; rw [if_neg (by omega)]
      have e2 : rolesC op = ⟨#[]⟩ := rolesC_out op (by omega)
      have e3 : (decide (0 < op) && decide (op < 53)) = false := by simp; omega
      have HE := hid (And.intro e1 (And.intro e2 e3))
      clear ht h0 h1 e1 e2 e3
      go_wp2_with fail
      refine bodyPost_ret (v := .tuple #[.agg #[.string ⟨#[]⟩, .string ⟨#[]⟩], .bool false]) (by simp [results, Try.results68, go_sem, c0', c1', r1]) rfl ⟨by rw [HE.out.1, HE.out.2.1, HE.out.2.2], ?_⟩
      exact (HBW.out.setCell (Nat.le_refl _) _).setCell (Nat.le_refl _) _
    · have g1 : decide (53 ≤ op) = false := decide_eq_false h1
      obtain ⟨k, rfl⟩ := Int.eq_ofNat_of_zero_le (a := op) (by omega)
      have hk : k < 53 := by omega
      have hk0 : ¬ k = 0 := by omega
      have hk1 : decide (k = 0) = false := decide_eq_false hk0
      have hk3 : 0 < k := by omega
      have hk2 : (k : Int) < 53 := by omega
      obtain ⟨t0, t1⟩ := tabC_at k hk
      have d0 := ht _ _ t0
      have d1 := ht _ _ t1
      have e1 : wordC k = (tabL.getD k (⟨#[]⟩, ⟨#[]⟩)).1 := by unfold wordC; rw [if_pos (by omega)]; rfl
      have e3 : (decide (0 < (k : Int)) && decide ((k : Int) < 53)) = true := by simp; omega
      have HE := hid (And.intro e1 (And.intro (tab_roles k (by omega) hk).symm e3))
      clear e1 e3 t0 t1
      generalize tabL.getD k (⟨#[]⟩, ⟨#[]⟩) = ent at *
      clear ht h0 h1
      go_wp2_with fail
      refine bodyPost_ret (v := .tuple #[.agg #[.string ent.1, .string ent.2], .bool true]) (by simp [results, Try.results68, go_sem, c0', c1', r1]) rfl ⟨by rw [HE.out.1, HE.out.2.1, HE.out.2.2], ?_⟩
      exact (HBW.out.setCell (Nat.le_refl _) _).setCell (Nat.le_refl _) _

end Go.Proofs.Ytealeofgfgbheaa
