/-
  The table of the operations and the description of one.
-/
import Derived.Deep.WholeRow
import Derived.Test.YtihcngjkflaelaaGreatDoorZAppend
import Derived.Test.YtihcngjkflaelaaGreatDoorZSpecC
namespace Go.Proofs.YtihcngjkflaelaaGreatDoor
set_option linter.unusedVariables false
set_option linter.unusedSimpArgs false
open Go.RowKit

theorem cellNew (w : World) (cs : Array Value) (t : TypeId) (b k : Nat) {u : Value} (hb : b = w.heap.size) (h : cs[k]? = some u) : (w.alloc (.cells cs t)).cell? ⟨b, k, none⟩ = some u := by
  subst hb
  rw [World.cell?_alloc_new]; exact h
theorem frozenNew (w : World) (cs : Array Value) (t : TypeId) (b k : Nat) (hb : b = w.heap.size) : (w.alloc (.cells cs t)).frozen? ⟨b, k, none⟩ = false := by
  subst hb
  rw [World.frozen?_alloc_new]

/-- The words and roles of all operations. -/
def tabL : List (ByteArray × ByteArray) := [(⟨#[]⟩, ⟨#[]⟩), (⟨#[99, 111, 110, 115, 116]⟩, ⟨#[100, 105, 45]⟩), (⟨#[110, 105, 108]⟩, ⟨#[100, 45, 45]⟩), (⟨#[109, 111, 118, 101]⟩, ⟨#[100, 115, 45]⟩), (⟨#[97, 100, 100]⟩, ⟨#[100, 115, 115]⟩), (⟨#[115, 117, 98]⟩, ⟨#[100, 115, 115]⟩), (⟨#[109, 117, 108]⟩, ⟨#[100, 115, 115]⟩), (⟨#[100, 105, 118]⟩, ⟨#[100, 115, 115]⟩), (⟨#[114, 101, 109]⟩, ⟨#[100, 115, 115]⟩), (⟨#[110, 101, 103]⟩, ⟨#[100, 115, 45]⟩), (⟨#[110, 111, 116]⟩, ⟨#[100, 115, 45]⟩), (⟨#[101, 113]⟩, ⟨#[100, 115, 115]⟩), (⟨#[110, 101]⟩, ⟨#[100, 115, 115]⟩), (⟨#[108, 116]⟩, ⟨#[100, 115, 115]⟩), (⟨#[108, 101]⟩, ⟨#[100, 115, 115]⟩), (⟨#[108, 101, 110]⟩, ⟨#[100, 115, 45]⟩), (⟨#[106, 117, 109, 112]⟩, ⟨#[45, 45, 116]⟩), (⟨#[106, 117, 109, 112, 122]⟩, ⟨#[115, 45, 116]⟩), (⟨#[103, 108, 111, 98, 97, 108]⟩, ⟨#[100, 103, 45]⟩), (⟨#[102, 105, 101, 108, 100]⟩, ⟨#[100, 115, 110]⟩), (⟨#[105, 110, 100, 101, 120]⟩, ⟨#[100, 115, 115]⟩), (⟨#[110, 101, 119]⟩, ⟨#[100, 108, 45]⟩), (⟨#[115, 108, 105, 99, 101]⟩, ⟨#[100, 115, 45]⟩), (⟨#[99, 104, 97, 110]⟩, ⟨#[100, 115, 45]⟩), (⟨#[99, 108, 111, 115, 117, 114, 101]⟩, ⟨#[100, 99, 107]⟩), (⟨#[99, 97, 112]⟩, ⟨#[100, 112, 45]⟩), (⟨#[99, 97, 108, 108]⟩, ⟨#[68, 102, 97]⟩), (⟨#[99, 97, 108, 108, 99]⟩, ⟨#[115, 45, 45]⟩), (⟨#[100, 101, 102, 101, 114]⟩, ⟨#[45, 102, 97]⟩), (⟨#[100, 101, 102, 101, 114, 99]⟩, ⟨#[115, 45, 45]⟩), (⟨#[114, 101, 116, 117, 114, 110]⟩, ⟨#[83, 45, 45]⟩), (⟨#[103, 111]⟩, ⟨#[45, 102, 97]⟩), (⟨#[103, 111, 99]⟩, ⟨#[115, 45, 45]⟩), (⟨#[108, 111, 97, 100]⟩, ⟨#[100, 115, 45]⟩), (⟨#[115, 116, 111, 114, 101]⟩, ⟨#[115, 115, 45]⟩), (⟨#[97, 108, 111, 97, 100]⟩, ⟨#[100, 115, 45]⟩), (⟨#[97, 115, 116, 111, 114, 101]⟩, ⟨#[115, 115, 45]⟩), (⟨#[97, 97, 100, 100]⟩, ⟨#[100, 115, 115]⟩), (⟨#[97, 99, 97, 115]⟩, ⟨#[100, 115, 115]⟩), (⟨#[108, 111, 99, 107]⟩, ⟨#[115, 45, 45]⟩), (⟨#[117, 110, 108, 111, 99, 107]⟩, ⟨#[115, 45, 45]⟩), (⟨#[114, 108, 111, 99, 107]⟩, ⟨#[115, 45, 45]⟩), (⟨#[114, 117, 110, 108, 111, 99, 107]⟩, ⟨#[115, 45, 45]⟩), (⟨#[103, 114, 111, 117, 112]⟩, ⟨#[115, 115, 45]⟩), (⟨#[119, 97, 105, 116]⟩, ⟨#[115, 45, 45]⟩), (⟨#[111, 110, 99, 101]⟩, ⟨#[115, 45, 116]⟩), (⟨#[111, 110, 99, 101, 101, 110, 100]⟩, ⟨#[115, 45, 45]⟩), (⟨#[115, 101, 110, 100]⟩, ⟨#[115, 115, 45]⟩), (⟨#[114, 101, 99, 118]⟩, ⟨#[68, 115, 68]⟩), (⟨#[99, 108, 111, 115, 101]⟩, ⟨#[115, 45, 45]⟩), (⟨#[115, 101, 108, 101, 99, 116]⟩, ⟨#[100, 120, 98]⟩), (⟨#[99, 97, 115, 101]⟩, ⟨#[115, 98, 118]⟩), (⟨#[112, 114, 105, 110, 116]⟩, ⟨#[115, 45, 45]⟩)]
def infoE : Enc (ByteArray × ByteArray) := ⟨2, fun x => [.string x.1, .string x.2], fun _ => rfl, by simp [Value.oneCell'], by decide⟩
/-- The word of an operation. -/
def wordC (op : Int) : ByteArray := if 0 < op ∧ op < 53 then (tabL.getD op.toNat (⟨#[]⟩, ⟨#[]⟩)).1 else ⟨#[]⟩
theorem tab_roles : ∀ k : Nat, 0 < k → k < 53 → (tabL.getD k (⟨#[]⟩, ⟨#[]⟩)).2 = rolesC k := by
  intro k h1 h2
  match k, h1, h2 with
  | 1, _, _ => rfl
  | 2, _, _ => rfl
  | 3, _, _ => rfl
  | 4, _, _ => rfl
  | 5, _, _ => rfl
  | 6, _, _ => rfl
  | 7, _, _ => rfl
  | 8, _, _ => rfl
  | 9, _, _ => rfl
  | 10, _, _ => rfl
  | 11, _, _ => rfl
  | 12, _, _ => rfl
  | 13, _, _ => rfl
  | 14, _, _ => rfl
  | 15, _, _ => rfl
  | 16, _, _ => rfl
  | 17, _, _ => rfl
  | 18, _, _ => rfl
  | 19, _, _ => rfl
  | 20, _, _ => rfl
  | 21, _, _ => rfl
  | 22, _, _ => rfl
  | 23, _, _ => rfl
  | 24, _, _ => rfl
  | 25, _, _ => rfl
  | 26, _, _ => rfl
  | 27, _, _ => rfl
  | 28, _, _ => rfl
  | 29, _, _ => rfl
  | 30, _, _ => rfl
  | 31, _, _ => rfl
  | 32, _, _ => rfl
  | 33, _, _ => rfl
  | 34, _, _ => rfl
  | 35, _, _ => rfl
  | 36, _, _ => rfl
  | 37, _, _ => rfl
  | 38, _, _ => rfl
  | 39, _, _ => rfl
  | 40, _, _ => rfl
  | 41, _, _ => rfl
  | 42, _, _ => rfl
  | 43, _, _ => rfl
  | 44, _, _ => rfl
  | 45, _, _ => rfl
  | 46, _, _ => rfl
  | 47, _, _ => rfl
  | 48, _, _ => rfl
  | 49, _, _ => rfl
  | 50, _, _ => rfl
  | 51, _, _ => rfl
  | 52, _, _ => rfl
  | k + 53, _, h => exact absurd h (by omega)

def tabC : Array Value := (tabL.flatMap infoE.enc).toArray

theorem tab_info : (Tryz.prog.info? 82).map (·.size) = some tabC.size := by kernel_rfl

set_option maxRecDepth 1000000 in
set_option maxHeartbeats 4000000 in
theorem table_calls (w : World) : Calls Tryz.prog 50 #[] w fun e w' => e = .returned (.agg tabC) ∧ Below w.heap.size w w' := by
  go_enter Tryz.func50, Tryz.ntmps50
  go_wp2_with fail
  generalize hch : List.set _ _ _ = ch
  have e : ch = tabC.toList := by rw [← hch]; kernel_rfl
  generalize Array.setIfInBounds _ _ _ = car
  clear hch
  subst e
  rw [run_storeCells_new w 82 _ tabC tab_info (by kernel_rfl) (by kernel_rfl)]
  simp only [Result.andThen]
  rw [Oper.upon_skip]
  go_wp2_with fail
  refine bodyPost_ret (v := .agg tabC) ?_ rfl ⟨rfl, (Below.refl _ _).alloc (Nat.le_refl _) _⟩
  exact results_cell_row (P := Tryz.prog) rfl _ _ w.heap.size 82 tabC (0, 0) _ rfl (heap_alloc_last w _) Tryz.underlying82 rfl tab_info

end Go.Proofs.YtihcngjkflaelaaGreatDoor
