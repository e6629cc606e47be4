/-
  A map from numbers to bools of the call's own: which numbers are true.
-/
import Derived.Test.YtnbffkcnhphdnaaProg
import Derived.Maps.OwnOps
import Derived.Maps.OwnSet
import Derived.Test.YtnbffkcnhphdnaaZBase
namespace Go.Proofs.Ytnbffkcnhphdnaa
set_option linter.unusedVariables false
set_option linter.unusedSimpArgs false
open Go.RowKit
open Go.Maps (Keyed int_keyed keyOf_int_mk)

theorem mapB_law : Keyed Try.prog 3 := int_keyed Try.underlying3
theorem mapB_zero (w : World) : (zeroValue 4).run Try.prog w = .ok (.bool false) w := by kernel_rfl
theorem i64_wf {k : Int} (h : I64 k) : (Lit.int .i64 k).wf = true := by
  unfold I64 at h
  simp [Lit.wf, IntKind.min, IntKind.max, IntKind.signed, IntKind.bits]
  omega
def MapB (w : World) (b c : Nat) (L : List Int) : Prop := ∃ D : DataW Unit, w.ownsMap Try.prog 3 (plainElem Try.prog 4) b c D ∧ ∀ k : Int, D.atKey (.int .i64 k) (.lit (.bool false)) = .lit (.bool (decide (k ∈ L)))

theorem MapB.made (w : World) : MapB (w.alloc (.map #[] 0)) w.heap.size 0 [] := ⟨.map [], World.ownsMap_made _ _ _ _, fun k => by simp [DataW.atKey]⟩
theorem MapB.grown {w w' : World} {b c : Nat} {L : List Int} {row : Option Nat} (h : MapB w b c L) (hg : w.grownBy w' row) (hne : some b ≠ row) : MapB w' b c L := by
  obtain ⟨D, h1, h2⟩ := h
  exact ⟨D, h1.kept hg hne, h2⟩
theorem MapB.block {w w' : World} {b c : Nat} {L : List Int} (h : MapB w b c L) (hb : w'.heap[b]? = w.heap[b]?) : MapB w' b c L := by
  obtain ⟨D, ⟨es, clock, h1, h3⟩, h2⟩ := h
  exact ⟨D, ⟨es, clock, hb.trans h1, h3⟩, h2⟩
theorem MapB.lt {w : World} {b c : Nat} {L : List Int} (h : MapB w b c L) : b < w.heap.size := by
  obtain ⟨D, h1, h2⟩ := h
  exact h1.lt
theorem MapB.mono {w : World} {b c c' : Nat} {L : List Int} (h : MapB w b c L) (hc : c ≤ c') : MapB w b c' L := by
  obtain ⟨D, h1, h2⟩ := h
  exact ⟨D, h1.mono hc, h2⟩
theorem MapB.below {w w' : World} {b c : Nat} {L : List Int} (h : MapB w b c L) (hb : Below w.heap.size w w') : MapB w' b c L := h.block (hb.block _ h.lt)
theorem MapB.setCell {w : World} {b c : Nat} {L : List Int} (h : MapB w b c L) {a : Addr} (ha : b ≠ a.block) (u : Value) : MapB (w.setCell a u) b c L := h.block (Below.heap_setCell _ _ _ _ ha)

section
variable {w : World} {ops : Array Oper} {rest : List Oper} {o : Oper} {a : Act} {Q : Exit → Act → World → Prop} {b c : Nat} {L : List Int}
theorem wpList_lookup_b (hg : o.guard = none) (m x : Operand) (t : TypeId) (hop : o.op = Op.lookup t m x false) (ht : Try.prog.underlying t = some (.map 3 4))
    (hm : a.eval m = .map (some b)) (hown : MapB w b c L) (k : Int) (hx : a.eval x = .int .i64 k) (hk : I64 k) (hK : wpList Try.prog ops Q rest (a.put o.dst (.bool (decide (k ∈ L)))) w) :
    wpList Try.prog ops Q (o :: rest) a w := by
  refine wpList_plain hg fun K' hK' => ?_
  obtain ⟨D, h1, h2⟩ := hown
  have hz : plainElem (H := Unit) Try.prog 4 (.bool false) = some (.lit (.bool false), []) := plainElem_bool Try.underlying4 false
  obtain ⟨v, ps, hrun, hv⟩ := h1.lookup mapB_law ht (mapB_zero w) hz (keyOf_int_mk Try.underlying3 (i64_wf hk))
  rw [h2 k] at hv
  have hvv : v = .bool (decide (k ∈ L)) := by
    unfold plainElem at hv
    rw [Try.underlying4] at hv
    cases v <;> simp at hv
    rw [hv.1]
  subst hvv
  unfold Oper.wp
  simp [execOp, hop, hm, hx, hrun, Result.andThen]
  exact hK' _ _ hK
theorem wpList_update_b (hg : o.guard = none) (m x v : Operand) (t : TypeId) (hop : o.op = Op.mapUpdate t m x v) (ht : Try.prog.underlying t = some (.map 3 4))
    (hm : a.eval m = .map (some b)) (hown : MapB w b c L) (hc : c < maxLen) (k : Int) (hx : a.eval x = .int .i64 k) (hv : a.eval v = .bool true) (hk : I64 k)
    (hK : ∀ w', MapB w' b (c + 1) (k :: L) → w.grownBy w' (some b) → wpList Try.prog ops Q rest (a.put o.dst undef) w') :
    wpList Try.prog ops Q (o :: rest) a w := by
  obtain ⟨D, h1, h2⟩ := hown
  refine wpList_mapUpdate_own w hg m x v t hop 3 4 mapB_law ht _ b c D hm h1 hc _ _ _ hx hv (keyOf_int_mk Try.underlying3 (i64_wf hk)) _ [] (plainElem_bool Try.underlying4 true) fun w' h3 h4 => hK w' ⟨_, h3, fun j => ?_⟩ h4
  by_cases e : j = k
  · subst e
    rw [Maps.atKey_put_same h1.isMap (by simp [WideAt.IsKeyLit])]
    simp
  · rw [Maps.atKey_put_other (by simpa using e), h2 j]
    simp [e]
theorem wpList_delete_b (hg : o.guard = none) (m x : Operand) (t : TypeId) (hop : o.op = Op.call { callee := Callee.builtin Builtin.delete, args := #[m, x], argTypes := #[t, 3] }) (ht : Try.prog.underlying t = some (.map 3 4))
    (hm : a.eval m = .map (some b)) (hown : MapB w b c L) (k : Int) (hx : a.eval x = .int .i64 k) (hk : I64 k)
    (hK : ∀ w', MapB w' b c (L.filter fun j => decide (j ≠ k)) → w.grownBy w' (some b) → wpList Try.prog ops Q rest (a.put o.dst (.tuple #[])) w') :
    wpList Try.prog ops Q (o :: rest) a w := by
  obtain ⟨D, h1, h2⟩ := hown
  refine wpList_delete_own w hg m x t 3 hop 4 mapB_law ht _ b c D hm h1 _ _ hx (keyOf_int_mk Try.underlying3 (i64_wf hk)) fun w' h3 h4 => hK w' ⟨_, h3, fun j => ?_⟩ h4.grown
  by_cases e : j = k
  · subst e
    rw [Maps.atKey_del_same]
    simp
  · rw [Maps.atKey_del_other (by simpa using e), h2 j]
    simp [e]
end

end Go.Proofs.Ytnbffkcnhphdnaa
