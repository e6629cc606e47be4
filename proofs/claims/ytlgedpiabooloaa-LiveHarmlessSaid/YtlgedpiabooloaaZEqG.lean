/-
  Equality of lists of instructions and of globals, as the library checks it.
-/
import Derived.Test.YtlgedpiabooloaaProg
import Derived.Deep.QuietTactic
import Derived.BigQuiet
import Derived.Laws.StructEq
import Derived.Test.YtlgedpiabooloaaShelf
import Derived.Test.YtlgedpiabooloaaZOwnP
namespace Go.Proofs.Ytlgedpiabooloaa
set_option linter.unusedVariables false
set_option linter.unusedSimpArgs false
open Go.RowKit

theorem eq_of_nth {α : Type} [Inhabited α] {l r : List α} (hl : l.length = r.length) (h : ∀ i, i < l.length → nth l i = nth r i) : l = r := by
  apply List.ext_getElem hl
  intro i h1 h2
  rw [← nth_eq _ _ h1, ← nth_eq _ _ h2]; exact h i h1

open Classical in
/-- Whether two values are equal. -/
noncomputable def eqC {α : Type} (a b : α) : Bool := decide (a = b)
theorem eqC_true {α : Type} {a b : α} (h : a = b) : eqC a b = true := by simp [eqC, h]
theorem eqC_false {α : Type} {a b : α} (h : ¬ a = b) : eqC a b = false := by simp [eqC, h]

theorem insFields : Try.prog.underlying 47 = some (.struct (Try.prog.fieldsOf 47)) := by kernel_rfl
theorem insStood : Try.prog.stoodInHeld 47 = false := by kernel_rfl
theorem insGuard : Try.prog.eqGuardType Try.prog.depth 47 = false := by kernel_rfl
def insV (u : Ins) : Value := .agg #[.int .i64 u.op, .int .i64 u.a, .int .i64 u.b, .int .i64 u.c, .int .i64 u.pos]
theorem neqIns (u v : Ins) (w : World) : (binOp .neq 47 (insV u) (insV v)).run Try.prog w = .ok (.bool (!eqC u v)) w := by
  unfold insV
  rw [run_neq_struct, run_equalIn_agg w 9999 _ _ _ insFields insStood]
  simp only [Program.fieldsOf, Try.underlying47]
  have part0 : ∀ (xs : Array Value) (k : Nat) (x : Int) (w : World), xs[k]? = some (.int .i64 x) → (part 3 xs k).run Try.prog w = .ok (.int .i64 x) w := by
    intro xs k x w h
    go_simp
  simp [Op.eqFields, part0, run_equalIn_int w _ 3 .i64 .i64 _ _ Try.underlying3]
  by_cases h : u = v
  · subst h; simp [eqC]
  · rw [eqC_false h]
    have hn : ¬ (u.op = v.op ∧ u.a = v.a ∧ u.b = v.b ∧ u.c = v.c ∧ u.pos = v.pos) := by
      rintro ⟨h1, h2, h3, h4, h5⟩
      apply h
      cases u; cases v
      simp only at h1 h2 h3 h4 h5
      subst h1 h2 h3 h4 h5
      rfl
    by_cases h1 : u.op = v.op <;> by_cases h2 : u.a = v.a <;> by_cases h3 : u.b = v.b <;> by_cases h4 : u.c = v.c <;> by_cases h5 : u.pos = v.pos <;> simp [h1, h2, h3, h4, h5]
    exact hn ⟨h1, h2, h3, h4, h5⟩

set_option maxRecDepth 100000 in
set_option maxHeartbeats 4000000 in
theorem eqIns_calls (lo1 lo2 : Nat) (va vb : Value) (l r : List Ins) (w : World) (ha : CodeAt lo1 w va l) (hb : CodeAt lo2 w vb r) :
    Calls Try.prog 67 #[va, vb] w fun e w' => e = .returned (.bool (eqC l r)) ∧ Below w.heap.size w w' := by
  obtain ⟨a1, c1, b1, o1, rfl, p1, x0, x1, x2, x3, x4, k1, _, _, m1, n1⟩ := ha.open
  obtain ⟨a2, c2, b2, o2, rfl, p2, y0, y1, y2, y3, y4, k2, _, _, m2, n2⟩ := hb.open
  by_cases hl : l.length = r.length
  · have HL := hid hl
    have hne : ((l.length : Int) != (r.length : Int)) = false := by simp [hl]
    clear hl
    go_enter Try.func67, Try.ntmps67
    go_wp2_with fail
    go_loopw [13] (fun i wr => ∃ k : Nat, k ≤ l.length ∧ i = .int .i64 k ∧ (∀ j, j < k → nth l j = nth r j) ∧ Below w.heap.size w wr) (fun i _ => l.length - (intOf i).toNat)
    case atStart => exact ⟨0, Nat.zero_le _, rfl, fun j hj => by omega, Below.refl _ _⟩
    case round =>
      obtain ⟨k, hk, rfl, hag, hbl⟩ := hrel
      obtain ⟨hcl, hfz⟩ := bcell hbl
      have HA := hid hag
      clear hag
      by_cases hlt : k < l.length
      · have hr : k < r.length := by have := HL.out; omega
        have e1 := p1 (by omega)
        have e2 := p2 (by omega)
        subst e1 e2
        have d0 := x0 k hlt
        have d1 := x1 k hlt
        have d2 := x2 k hlt
        have d3 := x3 k hlt
        have d4 := x4 k hlt
        have f0 := y0 k hr
        have f1 := y1 k hr
        have f2 := y2 k hr
        have f3 := y3 k hr
        have f4 := y4 k hr
        have s1 := k1 (by omega)
        have s2 := k2 (by omega)
        have hlt2 : (k : Int) < l.length := by omega
        have hr2 : (k : Int) < r.length := by omega
        obtain ⟨u, hu⟩ : ∃ u, nth l k = u := ⟨_, rfl⟩
        obtain ⟨v, hv⟩ : ∃ v, nth r k = v := ⟨_, rfl⟩
        have HU := hid hu
        have HV := hid hv
        rw [hu] at d0 d1 d2 d3 d4
        rw [hv] at f0 f1 f2 f3 f4
        clear p1 p2 x0 x1 x2 x3 x4 y0 y1 y2 y3 y4 k1 k2 hu hv
        have hneq := neqIns u v
        unfold insV at hneq
        have hgd := insGuard
        cases hx : eqC u v with
        | true =>
          rw [hx] at hneq
          have HX := hid hx
          clear hx
          go_wp2_with fail
          go_quiet (fail)
          go_wp2_with fail
          go_roundw
          case rel =>
            refine ⟨k + 1, by omega, by go_num, fun j hj => ?_, below_drewN hbl _⟩
            rcases Nat.lt_or_ge j k with h5 | h5
            · exact HA.out j h5
            · rw [show j = k by omega, HU.out, HV.out]
              have h9 := HX.out
              simpa [eqC] using h9
          case measure => simp [intOf]; omega
        | false =>
          rw [hx] at hneq
          have HX := hid hx
          clear hx
          go_wp2_with fail
          go_quiet (fail)
          go_wp2_with fail
          go_ret
          refine ⟨ret_bool (eqC_false fun he => ?_).symm, below_drewN hbl _⟩
          have h9 := HX.out
          rw [← HU.out, ← HV.out, he] at h9
          simp [eqC] at h9
      · clear p1 p2 x0 x1 x2 x3 x4 y0 y1 y2 y3 y4 k1 k2
        go_wp2_with fail
        go_ret
        exact ⟨ret_bool (eqC_true (eq_of_nth HL.out fun j hj => HA.out j (by omega))).symm, hbl⟩
  · have hne : ((l.length : Int) != (r.length : Int)) = true := by simp; omega
    have HN := hid (show eqC l r = false from eqC_false fun he => hl (by rw [he]))
    clear hl
    go_enter Try.func67, Try.ntmps67
    go_wp2_with fail
    go_ret
    exact ⟨ret_bool HN.out.symm, Below.refl _ _⟩

end Go.Proofs.Ytlgedpiabooloaa

/-
  Equality of lists of globals, as the library checks it.
-/
namespace Go.Proofs.Ytlgedpiabooloaa
set_option linter.unusedVariables false
set_option linter.unusedSimpArgs false
open Go.RowKit

theorem globFields : Try.prog.underlying 60 = some (.struct (Try.prog.fieldsOf 60)) := by kernel_rfl
theorem globStood : Try.prog.stoodInHeld 60 = false := by kernel_rfl
theorem globGuard : Try.prog.eqGuardType Try.prog.depth 60 = false := by kernel_rfl
def globV (u : Glob) : Value := .agg #[.string u.name, .int .i64 u.kind]
theorem bytes_eq {a b : ByteArray} : (a.toList == b.toList) = true ↔ a = b := by
  rw [beq_iff_eq, ByteArray.toList_eq, ByteArray.toList_eq]
  exact ⟨fun h => by cases a; cases b; congr 1; exact Array.ext' h, fun h => by rw [h]⟩
theorem neqGlob (u v : Glob) (w : World) : (binOp .neq 60 (globV u) (globV v)).run Try.prog w = .ok (.bool (!eqC u v)) w := by
  unfold globV
  rw [run_neq_struct, run_equalIn_agg w 9999 _ _ _ globFields globStood]
  simp only [Program.fieldsOf, Try.underlying60]
  have part0 : ∀ (xs : Array Value) (k : Nat) (x : Int) (w : World), xs[k]? = some (.int .i64 x) → (part 3 xs k).run Try.prog w = .ok (.int .i64 x) w := by
    intro xs k x w h
    go_simp
  have part1 : ∀ (xs : Array Value) (k : Nat) (x : ByteArray) (w : World), xs[k]? = some (.string x) → (part 9 xs k).run Try.prog w = .ok (.string x) w := by
    intro xs k x w h
    go_simp
  have e2 := part1 #[.string u.name, .int .i64 u.kind] 0 u.name w rfl
  have e3 := part1 #[.string v.name, .int .i64 v.kind] 0 v.name w rfl
  have hs := fun w => run_equalIn_string (P := Try.prog) w 9998 9 u.name v.name Try.underlying9
  simp only [Nat.reduceAdd] at hs
  simp only [Op.eqFields, Sem.run_bind, ne_eq, String.reduceEq, not_false_eq_true, if_true, e2, e3, Result.andThen_ok, hs]
  cases hn : (u.name.toList == v.name.toList) with
  | false =>
    have : ¬ u = v := fun h => by rw [h] at hn; simp at hn
    simp [eqC_false this]
  | true =>
    have h1 := bytes_eq.1 hn
    simp [part0, run_equalIn_int w _ 3 .i64 .i64 _ _ Try.underlying3]
    by_cases h2 : u.kind = v.kind
    · have : u = v := by cases u; cases v; simp_all
      simp [h2, eqC_true this]
    · have : ¬ u = v := fun h => h2 (by rw [h])
      simp [h2, eqC_false this]

set_option maxRecDepth 100000 in
set_option maxHeartbeats 4000000 in
theorem eqGlob_calls (lo1 lo2 : Nat) (va vb : Value) (l r : List Glob) (w : World) (ha : GlobsAt lo1 w va l) (hb : GlobsAt lo2 w vb r) :
    Calls Try.prog 68 #[va, vb] w fun e w' => e = .returned (.bool (eqC l r)) ∧ Below w.heap.size w w' := by
  obtain ⟨a1, c1, b1, o1, rfl, p1, x0, x1, k1, _, m1, n1⟩ := ha.open
  obtain ⟨a2, c2, b2, o2, rfl, p2, y0, y1, k2, _, m2, n2⟩ := hb.open
  by_cases hl : l.length = r.length
  · have HL := hid hl
    have hne : ((l.length : Int) != (r.length : Int)) = false := by simp [hl]
    clear hl
    go_enter Try.func68, Try.ntmps68
    go_wp2_with fail
    go_loopw [13] (fun i wr => ∃ k : Nat, k ≤ l.length ∧ i = .int .i64 k ∧ (∀ j, j < k → nth l j = nth r j) ∧ Below w.heap.size w wr) (fun i _ => l.length - (intOf i).toNat)
    case atStart => exact ⟨0, Nat.zero_le _, rfl, fun j hj => by omega, Below.refl _ _⟩
    case round =>
      obtain ⟨k, hk, rfl, hag, hbl⟩ := hrel
      obtain ⟨hcl, hfz⟩ := bcell hbl
      have HA := hid hag
      clear hag
      by_cases hlt : k < l.length
      · have hr : k < r.length := by have := HL.out; omega
        have e1 := p1 (by omega)
        have e2 := p2 (by omega)
        subst e1 e2
        have d0 := x0 k hlt
        have d1 := x1 k hlt
        have f0 := y0 k hr
        have f1 := y1 k hr
        have s1 := k1 (by omega)
        have s2 := k2 (by omega)
        have hlt2 : (k : Int) < l.length := by omega
        have hr2 : (k : Int) < r.length := by omega
        obtain ⟨u, hu⟩ : ∃ u, nth l k = u := ⟨_, rfl⟩
        obtain ⟨v, hv⟩ : ∃ v, nth r k = v := ⟨_, rfl⟩
        have HU := hid hu
        have HV := hid hv
        rw [hu] at d0 d1
        rw [hv] at f0 f1
        clear p1 p2 x0 x1 y0 y1 k1 k2 hu hv
        have hneq := neqGlob u v
        unfold globV at hneq
        have hgd := globGuard
        cases hx : eqC u v with
        | true =>
          rw [hx] at hneq
          have HX := hid hx
          clear hx
          go_wp2_with fail
          go_quiet (fail)
          go_wp2_with fail
          go_roundw
          case rel =>
            refine ⟨k + 1, by omega, by go_num, fun j hj => ?_, below_drewN hbl _⟩
            rcases Nat.lt_or_ge j k with h5 | h5
            · exact HA.out j h5
            · rw [show j = k by omega, HU.out, HV.out]
              have h9 := HX.out
              simpa [eqC] using h9
          case measure => simp [intOf]; omega
        | false =>
          rw [hx] at hneq
          have HX := hid hx
          clear hx
          go_wp2_with fail
          go_quiet (fail)
          go_wp2_with fail
          go_ret
          refine ⟨ret_bool (eqC_false fun he => ?_).symm, below_drewN hbl _⟩
          have h9 := HX.out
          rw [← HU.out, ← HV.out, he] at h9
          simp [eqC] at h9
      · clear p1 p2 x0 x1 y0 y1 k1 k2
        go_wp2_with fail
        go_ret
        exact ⟨ret_bool (eqC_true (eq_of_nth HL.out fun j hj => HA.out j (by omega))).symm, hbl⟩
  · have hne : ((l.length : Int) != (r.length : Int)) = true := by simp; omega
    have HN := hid (show eqC l r = false from eqC_false fun he => hl (by rw [he]))
    clear hl
    go_enter Try.func68, Try.ntmps68
    go_wp2_with fail
    go_ret
    exact ⟨ret_bool HN.out.symm, Below.refl _ _⟩

end Go.Proofs.Ytlgedpiabooloaa
