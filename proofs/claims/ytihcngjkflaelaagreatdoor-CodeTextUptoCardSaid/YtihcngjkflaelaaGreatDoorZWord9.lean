/-
  The document's words of operations, walked.
-/
import Derived.Deep.QuietTactic
import Derived.BigQuiet
import Derived.Test.YtihcngjkflaelaaGreatDoorZTxtP
namespace Go.Proofs.YtihcngjkflaelaaGreatDoor
set_option linter.unusedVariables false
set_option linter.unusedSimpArgs false
open Go.RowKit

def wordsC : Array Value := (tabL.map fun x => Value.string x.1).toArray
theorem words_info : (Tryz.prog.info? 85).map (·.size) = some wordsC.size := by kernel_rfl

theorem words_at (k : Nat) (h0 : 0 < k) (h1 : k < 53) : wordsC[k]? = some (.string (wordC k)) := by
  unfold wordC
  rw [if_pos (by omega), Int.toNat_natCast]
  have hlt : k < tabL.length := by
    have : tabL.length = 53 := by kernel_rfl
    omega
  unfold wordsC
  rw [List.getElem?_toArray, List.getElem?_map, List.getElem?_eq_getElem hlt, List.getD_eq_getElem?_getD, List.getElem?_eq_getElem hlt]
  rfl

set_option maxRecDepth 1000000 in
set_option maxHeartbeats 4000000 in
theorem rword_calls (k : Nat) (h0 : 0 < k) (h1 : k < 53) (w : World) : Calls Tryz.prog 28 #[.int .i64 k] w fun e w' => e = .returned (.string (wordC k)) ∧ Below w.heap.size w w' := by
  have hk : ¬ ((k : Int) < 0) := by omega
  have hk2 : ¬ ((k : Int) ≥ 53) := by omega
  have hk3 : (k : Int) < 53 := by omega
  have H0 := hid h0
  go_enter Tryz.func28, Tryz.ntmps28
  generalize hO : Op.build 85 _ = BO
  obtain ⟨OPS, hB⟩ : ∃ OPS, BO = Op.build 85 OPS := ⟨_, hO.symm⟩
  subst hB
  have HO := hid (Op.build.inj hO).2
  clear hO
  go_wp2_with fail
  case h_2 =>
    rename_i hq
    exact absurd (by rw [← HO.out]; kernel_rfl) (hq wordsC)
  case h_1 =>
    rename_i cs hq
    have e : some cs = some wordsC := hq.symm.trans (by rw [← HO.out]; kernel_rfl)
    obtain rfl := Option.some.inj e
    clear e hq HO
    have hws : wordsC.size = 53 := by kernel_rfl
    have hcell : (w.alloc (.cells wordsC 85)).cell? ⟨w.heap.size, k, none⟩ = some (.string (wordC k)) := cellNew w wordsC 85 _ k rfl (words_at k H0.out h1)
    simp only [Sem.run_pure, Result.andThen_ok]
    rw [Oper.upon_value]
    go_wp2_with fail
    rw [run_storeCells_new w 85 _ wordsC words_info (by kernel_rfl) (by kernel_rfl)]
    simp only [Result.andThen]
    rw [Oper.upon_skip]
    go_wp2_with fail
    go_ret
    exact ⟨rfl, (Below.refl _ _).alloc (Nat.le_refl _) _⟩

end Go.Proofs.YtihcngjkflaelaaGreatDoor
