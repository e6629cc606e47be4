/-
  Maps of the call's own whose keys are numbers or strings: to bools (which keys are true), to numbers (what each key has).
-/
import Derived.Test.YtealeofgfgbheaaProg
import Derived.Maps.OwnOps
import Derived.Maps.OwnSet
import Derived.Test.YtealeofgfgbheaaZAppend
namespace Go.Proofs.Ytealeofgfgbheaa
set_option linter.unusedVariables false
set_option linter.unusedSimpArgs false
open Go.RowKit
open Go.Maps (Keyed int_keyed string_keyed keyOf_int_mk)

/-- A type of keys. -/
structure KeyT (κ : Type) where
  kt : TypeId
  kv : κ → Value
  kl : κ → Lit
  good : κ → Prop
  keyed : Keyed Try.prog kt
  key : ∀ k, good k → keyOf Try.prog kt (kv k) = some (kl k)
  inj : ∀ a b, kl a = kl b → a = b
  isKey : ∀ k, WideAt.IsKeyLit (kl k)
theorem i64_wf {k : Int} (h : I64 k) : (Lit.int .i64 k).wf = true := by
  unfold I64 at h
  simp [Lit.wf, IntKind.min, IntKind.max, IntKind.signed, IntKind.bits]
  omega
def intK : KeyT Int where
  kt := 3
  kv k := .int .i64 k
  kl k := .int .i64 k
  good := I64
  keyed := int_keyed Try.underlying3
  key k h := keyOf_int_mk Try.underlying3 (i64_wf h)
  inj a b h := by simpa using h
  isKey k := by simp [WideAt.IsKeyLit]
def strK : KeyT ByteArray where
  kt := 9
  kv k := .string k
  kl k := .string k.data.toList
  good k := k.size ≤ 140737488355328
  keyed := string_keyed Try.underlying9
  key k h := by
    have : k.size ≤ maxLen := Nat.le_trans h (by decide)
    simp [keyOf, Try.underlying9, mapKey, this]
  inj a b h := by
    have h2 : a.data.toList = b.data.toList := by simpa using h
    have h3 : a.data = b.data := Array.toList_inj.1 h2
    cases a; cases b; simp_all
  isKey k := by simp [WideAt.IsKeyLit]
theorem mapB_zero (w : World) : (zeroValue 4).run Try.prog w = .ok (.bool false) w := by kernel_rfl
theorem mapN_zero (w : World) : (zeroValue 3).run Try.prog w = .ok (.int .i64 0) w := by kernel_rfl

theorem bool_inv {P : Program} {e : TypeId} (he : P.underlying e = some .bool) {v : Value} {b : Bool} {ps : List MemPlace} (h : plainElem (H := Unit) P e v = some (.lit (.bool b), ps)) : v = .bool b := by
  unfold plainElem at h
  rw [he] at h
  cases v <;> simp at h
  rw [h.1]

section
variable {κ : Type} (K : KeyT κ)
/-- What each key has. -/
def MapN (w : World) (b c : Nat) (F : κ → Option Int) : Prop := ∃ D : DataW Unit, w.ownsMap Try.prog K.kt (plainElem Try.prog 3) b c D ∧ ∀ k : κ, D.atKey (K.kl k) (.lit (.int .i64 0)) = .lit (.int .i64 ((F k).getD 0)) ∧ Maps.has D (K.kl k) = (F k).isSome

variable {K}
theorem MapN.made (w : World) : MapN K (w.alloc (.map #[] 0)) w.heap.size 0 (fun _ => none) := ⟨.map [], World.ownsMap_made _ _ _ _, fun k => ⟨by simp [DataW.atKey], by simp [Maps.has]⟩⟩
theorem MapN.grown {w w' : World} {b c : Nat} {L : κ → Option Int} {row : Option Nat} (h : MapN K w b c L) (hg : w.grownBy w' row) (hne : some b ≠ row) : MapN K w' b c L := by
  obtain ⟨D, h1, h2⟩ := h
  exact ⟨D, h1.kept hg hne, h2⟩
theorem MapN.block {w w' : World} {b c : Nat} {L : κ → Option Int} (h : MapN K w b c L) (hb : w'.heap[b]? = w.heap[b]?) : MapN K w' b c L := by
  obtain ⟨D, ⟨es, clock, h1, h3⟩, h2⟩ := h
  exact ⟨D, ⟨es, clock, hb.trans h1, h3⟩, h2⟩
theorem MapN.isMap {w : World} {b c : Nat} {L : κ → Option Int} (h : MapN K w b c L) : ∃ es clock, w.heap[b]? = some (.map es clock) := by
  obtain ⟨D, ⟨es, clock, h1, h3⟩, h2⟩ := h
  exact ⟨es, clock, h1⟩
theorem MapN.lt {w : World} {b c : Nat} {L : κ → Option Int} (h : MapN K w b c L) : b < w.heap.size := by
  obtain ⟨D, h1, h2⟩ := h
  exact h1.lt
theorem MapN.mono {w : World} {b c c' : Nat} {L : κ → Option Int} (h : MapN K w b c L) (hc : c ≤ c') : MapN K w b c' L := by
  obtain ⟨D, h1, h2⟩ := h
  exact ⟨D, h1.mono hc, h2⟩
theorem MapN.below {w w' : World} {b c : Nat} {L : κ → Option Int} (h : MapN K w b c L) (hb : Below w.heap.size w w') : MapN K w' b c L := h.block (hb.block _ h.lt)
theorem MapN.setCell {w : World} {b c : Nat} {L : κ → Option Int} (h : MapN K w b c L) {a : Addr} (ha : b ≠ a.block) (u : Value) : MapN K (w.setCell a u) b c L := h.block (Below.heap_setCell _ _ _ _ ha)
theorem MapN.congr {w : World} {b c : Nat} {F F' : κ → Option Int} (h : MapN K w b c F) (he : ∀ k, F k = F' k) : MapN K w b c F' := by
  have : F = F' := funext he
  rw [← this]; exact h

theorem MapN.look {w : World} {b c : Nat} {F : κ → Option Int} (h : MapN K w b c F) (t : TypeId) (ht : Try.prog.underlying t = some (.map K.kt 3)) (k : κ) (hk : K.good k) :
    (Instr.lookup t (.map (some b)) (K.kv k) false).run Try.prog w = .ok (.int .i64 ((F k).getD 0)) w := by
  obtain ⟨D, h1, h2⟩ := h
  obtain ⟨c, hrun, hat, _⟩ := h1.lookup_int K.keyed ht Try.underlying3 (mapN_zero w) (K.key k hk)
  rw [(h2 k).1] at hat
  simp at hat
  rw [hrun, hat]
theorem MapN.look_ok {w : World} {b c : Nat} {F : κ → Option Int} (h : MapN K w b c F) (t : TypeId) (ht : Try.prog.underlying t = some (.map K.kt 3)) (k : κ) (hk : K.good k) :
    (Instr.lookup t (.map (some b)) (K.kv k) true).run Try.prog w = .ok (.tuple #[.int .i64 ((F k).getD 0), .bool (F k).isSome]) w := by
  obtain ⟨D, h1, h2⟩ := h
  have hw0 : (Lit.int .i64 0).wf = true := by decide
  obtain ⟨v, ps, hrun, hv⟩ := h1.look_ok K.keyed ht (mapN_zero w) (plainElem_int Try.underlying3 hw0) (K.key k hk)
  obtain ⟨c, rfl, hc, _⟩ := plainElem_int_inv Try.underlying3 hv
  rw [(h2 k).1] at hc
  simp at hc
  rw [hrun, (h2 k).2, hc.1]
end
section
variable {κ : Type} [DecidableEq κ]
def memB (k : κ) (L : List κ) : Bool := decide (k ∈ L)
theorem memB_true {k : κ} {L : List κ} (h : k ∈ L) : memB k L = true := decide_eq_true h
theorem memB_false {k : κ} {L : List κ} (h : ¬ k ∈ L) : memB k L = false := decide_eq_false h
variable (K : KeyT κ)
/-- Which keys are true. -/
def MapB (w : World) (b c : Nat) (L : List κ) : Prop := ∃ D : DataW Unit, w.ownsMap Try.prog K.kt (plainElem Try.prog 4) b c D ∧ ∀ k : κ, D.atKey (K.kl k) (.lit (.bool false)) = .lit (.bool (decide (k ∈ L)))
variable {K}
theorem MapB.made (w : World) : MapB K (w.alloc (.map #[] 0)) w.heap.size 0 [] := ⟨.map [], World.ownsMap_made _ _ _ _, fun k => by simp [DataW.atKey]⟩
theorem MapB.grown {w w' : World} {b c : Nat} {L : List κ} {row : Option Nat} (h : MapB K w b c L) (hg : w.grownBy w' row) (hne : some b ≠ row) : MapB K w' b c L := by
  obtain ⟨D, h1, h2⟩ := h
  exact ⟨D, h1.kept hg hne, h2⟩
theorem MapB.block {w w' : World} {b c : Nat} {L : List κ} (h : MapB K w b c L) (hb : w'.heap[b]? = w.heap[b]?) : MapB K w' b c L := by
  obtain ⟨D, ⟨es, clock, h1, h3⟩, h2⟩ := h
  exact ⟨D, ⟨es, clock, hb.trans h1, h3⟩, h2⟩
theorem MapB.isMap {w : World} {b c : Nat} {L : List κ} (h : MapB K w b c L) : ∃ es clock, w.heap[b]? = some (.map es clock) := by
  obtain ⟨D, ⟨es, clock, h1, h3⟩, h2⟩ := h
  exact ⟨es, clock, h1⟩
theorem MapB.lt {w : World} {b c : Nat} {L : List κ} (h : MapB K w b c L) : b < w.heap.size := by
  obtain ⟨D, h1, h2⟩ := h
  exact h1.lt
theorem MapB.mono {w : World} {b c c' : Nat} {L : List κ} (h : MapB K w b c L) (hc : c ≤ c') : MapB K w b c' L := by
  obtain ⟨D, h1, h2⟩ := h
  exact ⟨D, h1.mono hc, h2⟩
theorem MapB.below {w w' : World} {b c : Nat} {L : List κ} (h : MapB K w b c L) (hb : Below w.heap.size w w') : MapB K w' b c L := h.block (hb.block _ h.lt)
theorem MapB.setCell {w : World} {b c : Nat} {L : List κ} (h : MapB K w b c L) {a : Addr} (ha : b ≠ a.block) (u : Value) : MapB K (w.setCell a u) b c L := h.block (Below.heap_setCell _ _ _ _ ha)
theorem MapB.congr {w : World} {b c : Nat} {L L' : List κ} (h : MapB K w b c L) (he : ∀ k, k ∈ L ↔ k ∈ L') : MapB K w b c L' := by
  obtain ⟨D, h1, h2⟩ := h
  exact ⟨D, h1, fun k => by rw [h2 k]; simp [he k]⟩
/-- A key looked up. -/
theorem MapB.look {w : World} {b c : Nat} {L : List κ} (h : MapB K w b c L) (t : TypeId) (ht : Try.prog.underlying t = some (.map K.kt 4)) (k : κ) (hk : K.good k) :
    (Instr.lookup t (.map (some b)) (K.kv k) false).run Try.prog w = .ok (.bool (memB k L)) w := by
  obtain ⟨D, h1, h2⟩ := h
  have hz : plainElem (H := Unit) Try.prog 4 (.bool false) = some (.lit (.bool false), []) := plainElem_bool Try.underlying4 false
  obtain ⟨v, ps, hrun, hv⟩ := h1.lookup K.keyed ht (mapB_zero w) hz (K.key k hk)
  rw [h2 k] at hv
  have hvv := bool_inv Try.underlying4 hv
  subst hvv
  exact hrun
/-- A key set. -/
theorem MapB.upd {w : World} {b c : Nat} {L : List κ} (h : MapB K w b c L) (t : TypeId) (ht : Try.prog.underlying t = some (.map K.kt 4)) (hc : c < maxLen) (k : κ) (hk : K.good k) :
    ∃ w', (Instr.mapUpdate t (.map (some b)) (K.kv k) (.bool true)).run Try.prog w = .ok () w' ∧ MapB K w' b (c + 1) (k :: L) ∧ w.grownBy w' (some b) := by
  obtain ⟨D, h1, h2⟩ := h
  obtain ⟨w', hrun, h3, h4⟩ := h1.update K.keyed ht hc (K.key k hk) (plainElem_bool Try.underlying4 true)
  refine ⟨w', hrun, ⟨_, h3, fun j => ?_⟩, h4⟩
  by_cases e : j = k
  · subst e
    rw [Maps.atKey_put_same h1.isMap (K.isKey j)]
    simp
  · rw [Maps.atKey_put_other (fun he => e (K.inj _ _ he)), h2 j]
    simp [e]
theorem MapN.upd {w : World} {b c : Nat} {F : κ → Option Int} (h : MapN K w b c F) (t : TypeId) (ht : Try.prog.underlying t = some (.map K.kt 3)) (hc : c < maxLen) (k : κ) (hk : K.good k) (n : Int) (hn : I64 n) :
    ∃ w', (Instr.mapUpdate t (.map (some b)) (K.kv k) (.int .i64 n)).run Try.prog w = .ok () w' ∧ MapN K w' b (c + 1) (fun j => if j = k then some n else F j) ∧ w.grownBy w' (some b) := by
  obtain ⟨D, h1, h2⟩ := h
  obtain ⟨w', hrun, h3, h4⟩ := h1.update K.keyed ht hc (K.key k hk) (plainElem_int Try.underlying3 (i64_wf hn))
  refine ⟨w', hrun, ⟨_, h3, fun j => ?_⟩, h4⟩
  by_cases e : j = k
  · subst e
    rw [Maps.atKey_put_same h1.isMap (K.isKey j), Maps.has_put_same h1.isMap (K.isKey j)]
    simp
  · rw [Maps.atKey_put_other (fun he => e (K.inj _ _ he)), Maps.has_put_other (fun he => e (K.inj _ _ he)), (h2 j).1, (h2 j).2]
    simp [e]

variable {w : World} {ops : Array Oper} {rest : List Oper} {o : Oper} {a : Act} {Q : Exit → Act → World → Prop} {b c : Nat}
theorem wpList_look_B {L : List κ} (hg : o.guard = none) (m x : Operand) (t : TypeId) (hop : o.op = Op.lookup t m x false) (ht : Try.prog.underlying t = some (.map K.kt 4))
    (hm : a.eval m = .map (some b)) (hown : MapB K w b c L) (k : κ) (hx : a.eval x = K.kv k) (hk : K.good k) (hK : wpList Try.prog ops Q rest (a.put o.dst (.bool (memB k L))) w) :
    wpList Try.prog ops Q (o :: rest) a w := by
  refine wpList_plain hg fun K' hK' => ?_
  have hrun := hown.look t ht k hk
  unfold Oper.wp
  simp [execOp, hop, hm, hx, hrun, Result.andThen]
  exact hK' _ _ hK
theorem wpList_upd_B {L : List κ} (hg : o.guard = none) (m x v : Operand) (t : TypeId) (hop : o.op = Op.mapUpdate t m x v) (ht : Try.prog.underlying t = some (.map K.kt 4))
    (hm : a.eval m = .map (some b)) (hown : MapB K w b c L) (hc : c < maxLen) (k : κ) (hx : a.eval x = K.kv k) (hv : a.eval v = .bool true) (hk : K.good k)
    (hK : ∀ w', MapB K w' b (c + 1) (k :: L) → w.grownBy w' (some b) → wpList Try.prog ops Q rest (a.put o.dst undef) w') :
    wpList Try.prog ops Q (o :: rest) a w := by
  refine wpList_plain hg fun K' hK' => ?_
  obtain ⟨w', hrun, h3, h4⟩ := hown.upd t ht hc k hk
  unfold Oper.wp
  simp [execOp, hop, hm, hx, hv, hrun, Result.andThen]
  exact hK' _ _ (hK w' h3 h4)
omit [DecidableEq κ] in
theorem wpList_look_N {F : κ → Option Int} (hg : o.guard = none) (m x : Operand) (t : TypeId) (hop : o.op = Op.lookup t m x false) (ht : Try.prog.underlying t = some (.map K.kt 3))
    (hm : a.eval m = .map (some b)) (hown : MapN K w b c F) (k : κ) (hx : a.eval x = K.kv k) (hk : K.good k) (hK : wpList Try.prog ops Q rest (a.put o.dst (.int .i64 ((F k).getD 0))) w) :
    wpList Try.prog ops Q (o :: rest) a w := by
  refine wpList_plain hg fun K' hK' => ?_
  have hrun := hown.look t ht k hk
  unfold Oper.wp
  simp [execOp, hop, hm, hx, hrun, Result.andThen]
  exact hK' _ _ hK
theorem wpList_upd_N {F : κ → Option Int} (hg : o.guard = none) (m x v : Operand) (t : TypeId) (hop : o.op = Op.mapUpdate t m x v) (ht : Try.prog.underlying t = some (.map K.kt 3))
    (hm : a.eval m = .map (some b)) (hown : MapN K w b c F) (hc : c < maxLen) (k : κ) (hx : a.eval x = K.kv k) (n : Int) (hv : a.eval v = .int .i64 n) (hk : K.good k) (hn : I64 n)
    (hK : ∀ w', MapN K w' b (c + 1) (fun j => if j = k then some n else F j) → w.grownBy w' (some b) → wpList Try.prog ops Q rest (a.put o.dst undef) w') :
    wpList Try.prog ops Q (o :: rest) a w := by
  refine wpList_plain hg fun K' hK' => ?_
  obtain ⟨w', hrun, h3, h4⟩ := hown.upd t ht hc k hk n hn
  unfold Oper.wp
  simp [execOp, hop, hm, hx, hv, hrun, Result.andThen]
  exact hK' _ _ (hK w' h3 h4)
end

end Go.Proofs.Ytealeofgfgbheaa
