/-
  slices.Clone, walked.
-/
import Derived.Test.YtealeofgfgbheaaProg
import Derived.Lib.SliceRun
import Derived.Test.YtealeofgfgbheaaZAppend
import Derived.Test.YtealeofgfgbheaaZQFun
import Derived.Test.YtealeofgfgbheaaZRegT
namespace Go.Proofs.Ytealeofgfgbheaa
set_option linter.unusedVariables false
set_option linter.unusedSimpArgs false
open Go.RowKit

theorem clnIns_info : (Try.prog.info? 43).map (fun i => (i.zero, i.size, i.bytes)) = some (some (.agg #[.int .i64 0, .int .i64 0, .int .i64 0, .int .i64 0, .int .i64 0]), insE.sz, 40) := by kernel_rfl
set_option maxRecDepth 100000 in
set_option maxHeartbeats 2000000 in
theorem clnIns_calls (lo : Nat) (v : Value) (l : List Ins) (w : World) (h : SlE insE lo w v l) (hn : l.length ≤ 1000000) :
    Calls Try.prog 65 #[v] w fun e w' => ∃ v', e = .returned v' ∧ OwnE insE w.heap.size 43 w' v' l ∧ Below w.heap.size w w' := by
  have qT : ∀ (w : World) (a : Option Addr) (n c n' c' : Nat), (binOp .eql 39 (.slice a n c) (.slice none n' c')).run Try.prog w = .ok (.bool a.isNone) w := fun w a n c n' c' => Lib.run_eql_slice_nil w _ _ a n c n' c' Try.underlying39
  have H := hid h
  obtain ⟨a, c, b, o, rfl, hnil, _⟩ := h
  cases a with
  | none =>
    obtain rfl := hnil rfl
    have hl : l = [] := by
      obtain ⟨a', c', b', o', he, _, hp, _⟩ := H.out
      obtain ⟨rfl, _, _⟩ := Value.slice.inj he
      rcases Nat.eq_zero_or_pos l.length with h | h
      · exact List.eq_nil_of_length_eq_zero h
      · have := (hp h).1; cases this
    subst hl
    go_enter Try.func65, Try.ntmps65
    go_wp2_with fail
    go_ret
    exact ⟨_, rfl, OwnE.nil _ _ _ _, Below.refl _ _⟩
  | some ad =>
    go_enter Try.func65, Try.ntmps65
    go_wp2_with (
      at_builtin
      go_loud (refine wpList_append_E insE (o := ⟨some 7, _, _, _, _, _⟩) rfl (.tmp 5) (.tmp 6) 39 rfl w.heap.size lo 43 _ 40 Try.underlying39 clnIns_info rfl [] l (OwnE.lit insE w w.heap.size 43 [] #[] w.heap.size 0 rfl (Nat.le_refl _) rfl rfl (by simp)) (SlE.below H.out ((Below.refl _ _).alloc (Nat.le_refl _) _)) (by simp; omega) (by simp only [maxLen]; simp; omega) (by simp) ?_)
      intro v7 w7 ho7 hg7
      have HO7 := hid ho7
      have HB7 := hid (Below.grownE ((Below.refl w.heap.size w).alloc (Nat.le_refl _) _) (OwnE.lit insE w w.heap.size 43 [] #[] w.heap.size 0 rfl (Nat.le_refl _) rfl rfl (by simp)) hg7 (by simp) (Nat.le_refl _))
      clear ho7 hg7)
    go_ret
    exact ⟨_, rfl, HO7.out, HB7.out⟩

theorem clnFun_info : (Try.prog.info? 41).map (fun i => (i.zero, i.size, i.bytes)) = some (some (.agg #[.string ⟨#[]⟩, .int .i64 0, .int .i64 0, .slice none 0 0]), funE.sz, 56) := by kernel_rfl
theorem clnGlob_info : (Try.prog.info? 60).map (fun i => (i.zero, i.size, i.bytes)) = some (some (.agg #[.string ⟨#[]⟩, .int .i64 0]), globE.sz, 24) := by kernel_rfl
set_option maxRecDepth 100000 in
set_option maxHeartbeats 2000000 in
theorem clnGlob_calls (lo : Nat) (v : Value) (l : List Glob) (w : World) (h : SlE globE lo w v l) (hn : l.length ≤ 1000000) :
    Calls Try.prog 56 #[v] w fun e w' => ∃ v', e = .returned v' ∧ OwnE globE w.heap.size 60 w' v' l ∧ Below w.heap.size w w' := by
  have qT : ∀ (w : World) (a : Option Addr) (n c n' c' : Nat), (binOp .eql 23 (.slice a n c) (.slice none n' c')).run Try.prog w = .ok (.bool a.isNone) w := fun w a n c n' c' => Lib.run_eql_slice_nil w _ _ a n c n' c' Try.underlying23
  have H := hid h
  obtain ⟨a, c, b, o, rfl, hnil, _⟩ := h
  cases a with
  | none =>
    obtain rfl := hnil rfl
    have hl : l = [] := by
      obtain ⟨a', c', b', o', he, _, hp, _⟩ := H.out
      obtain ⟨rfl, _, _⟩ := Value.slice.inj he
      rcases Nat.eq_zero_or_pos l.length with h | h
      · exact List.eq_nil_of_length_eq_zero h
      · have := (hp h).1; cases this
    subst hl
    go_enter Try.func56, Try.ntmps56
    go_wp2_with fail
    go_ret
    exact ⟨_, rfl, OwnE.nil _ _ _ _, Below.refl _ _⟩
  | some ad =>
    go_enter Try.func56, Try.ntmps56
    go_wp2_with (
      at_builtin
      go_loud (refine wpList_append_E globE (o := ⟨some 7, _, _, _, _, _⟩) rfl (.tmp 5) (.tmp 6) 23 rfl w.heap.size lo 60 _ 24 Try.underlying23 clnGlob_info rfl [] l (OwnE.lit globE w w.heap.size 60 [] #[] w.heap.size 0 rfl (Nat.le_refl _) rfl rfl (by simp)) (SlE.below H.out ((Below.refl _ _).alloc (Nat.le_refl _) _)) (by simp; omega) (by simp only [maxLen]; simp; omega) (by simp) ?_)
      intro v7 w7 ho7 hg7
      have HO7 := hid ho7
      have HB7 := hid (Below.grownE ((Below.refl w.heap.size w).alloc (Nat.le_refl _) _) (OwnE.lit globE w w.heap.size 60 [] #[] w.heap.size 0 rfl (Nat.le_refl _) rfl rfl (by simp)) hg7 (by simp) (Nat.le_refl _))
      clear ho7 hg7)
    go_ret
    exact ⟨_, rfl, HO7.out, HB7.out⟩

theorem clnInt_info : (Try.prog.info? 3).map (fun i => (i.zero, i.size, i.bytes)) = some (some (.int .i64 0), intE.sz, 8) := by kernel_rfl
set_option maxRecDepth 100000 in
set_option maxHeartbeats 2000000 in
theorem clnInt_calls (lo : Nat) (v : Value) (l : List Int) (w : World) (h : SlE intE lo w v l) (hn : l.length ≤ 1000000) :
    Calls Try.prog 53 #[v] w fun e w' => ∃ v', e = .returned v' ∧ OwnE intE w.heap.size 3 w' v' l ∧ Below w.heap.size w w' := by
  have qT : ∀ (w : World) (a : Option Addr) (n c n' c' : Nat), (binOp .eql 45 (.slice a n c) (.slice none n' c')).run Try.prog w = .ok (.bool a.isNone) w := fun w a n c n' c' => Lib.run_eql_slice_nil w _ _ a n c n' c' Try.underlying45
  have H := hid h
  obtain ⟨a, c, b, o, rfl, hnil, _⟩ := h
  cases a with
  | none =>
    obtain rfl := hnil rfl
    have hl : l = [] := by
      obtain ⟨a', c', b', o', he, _, hp, _⟩ := H.out
      obtain ⟨rfl, _, _⟩ := Value.slice.inj he
      rcases Nat.eq_zero_or_pos l.length with h | h
      · exact List.eq_nil_of_length_eq_zero h
      · have := (hp h).1; cases this
    subst hl
    go_enter Try.func53, Try.ntmps53
    go_wp2_with fail
    go_ret
    exact ⟨_, rfl, OwnE.nil _ _ _ _, Below.refl _ _⟩
  | some ad =>
    go_enter Try.func53, Try.ntmps53
    go_wp2_with (
      at_builtin
      go_loud (refine wpList_append_E intE (o := ⟨some 7, _, _, _, _, _⟩) rfl (.tmp 5) (.tmp 6) 45 rfl w.heap.size lo 3 _ 8 Try.underlying45 clnInt_info rfl [] l (OwnE.lit intE w w.heap.size 3 [] #[] w.heap.size 0 rfl (Nat.le_refl _) rfl rfl (by simp)) (SlE.below H.out ((Below.refl _ _).alloc (Nat.le_refl _) _)) (by simp; omega) (by simp only [maxLen]; simp; omega) (by simp) ?_)
      intro v7 w7 ho7 hg7
      have HO7 := hid ho7
      have HB7 := hid (Below.grownE ((Below.refl w.heap.size w).alloc (Nat.le_refl _) _) (OwnE.lit intE w w.heap.size 3 [] #[] w.heap.size 0 rfl (Nat.le_refl _) rfl rfl (by simp)) hg7 (by simp) (Nat.le_refl _))
      clear ho7 hg7)
    go_ret
    exact ⟨_, rfl, HO7.out, HB7.out⟩

end Go.Proofs.Ytealeofgfgbheaa
