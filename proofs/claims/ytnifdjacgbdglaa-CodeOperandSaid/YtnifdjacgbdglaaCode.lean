import Derived.Test.YtnifdjacgbdglaaSort
namespace Go.Proofs.Ytnifdjacgbdglaa
set_option linter.unusedVariables false
set_option linter.unusedSimpArgs false
open Go.RowKit

set_option maxHeartbeats 400000 in
theorem between_calls (v lo hi : Int) (w : World) :
    Calls Try.prog 28 #[.int .i64 v, .int .i64 lo, .int .i64 hi] w fun e w' => e = .returned (.bool (decide (lo ≤ v) && decide (v ≤ hi))) ∧ w = w' := by
  by_cases h1 : lo ≤ v
  · go_enter Try.func28, Try.ntmps28
    go_wp2
    go_ret
    exact ⟨by simp [h1], rfl⟩
  · go_enter Try.func28, Try.ntmps28
    go_wp2
    go_ret
    exact ⟨by simp; omega, rfl⟩

theorem grown_trans {w w1 w2 : World} {r : Option Nat} (h : w.grownBy w1 r) (k : w1.grownBy w2 r) : w.grownBy w2 r :=
  ⟨k.os.trans h.os, k.tape.trans h.tape, k.output.trans h.output, Nat.le_trans h.size k.size, fun i hi hr => (k.block i (Nat.lt_of_lt_of_le hi h.size) hr).trans (h.block i hi hr)⟩

set_option maxHeartbeats 400000 in
theorem sorted_calls {base : Nat} {e : TypeId} {w : World} {v : Value} {l : List Int} (h : OwnE intE base e w v l) (hn : l.length ≤ 140737488355328) :
    Calls Try.prog 45 #[v] w fun en w' => ∃ v', en = .returned v' ∧ OwnE intE base e w' v' (setL l) ∧ w.grownBy w' v.ownBlock ∧ v'.ownBlock = v.ownBlock := by
  go_enter Try.func45, Try.ntmps45
  go_wp2_with fail
  refine (sort_calls h hn).mono ?_
  rintro en w1 ⟨rfl, h1, g1⟩
  have H1 := hid g1
  clear g1
  go_wp2_with fail
  refine (compact_calls h1 (by rw [sortI_length]; exact hn)).mono ?_
  rintro en w2 ⟨v', rfl, h2, g2, e2⟩
  have H2 := hid g2
  have E2 := hid e2
  clear g2 e2
  go_wp2_with fail
  go_ret
  exact ⟨_, rfl, h2, grown_trans H1.out H2.out, E2.out⟩

/-- A slice literal of ints: g is the new block. -/
theorem ints_lit (w : World) (e : TypeId) (l : List Int) (cs : Array Value) (g n : Nat) (hg : w.heap.size = g) (hn' : n = l.length) (hc : cs = (l.map (Value.int .i64)).toArray) (hn : l.length ≤ 1000) : OwnE intE g e (w.alloc (.cells cs e)) (.slice (some ⟨g, 0, none⟩) n n) l := by
  subst hc hg hn'
  have := World.ownsRow_lit (base := w.heap.size) (e := e) (size := 1) w (l.map (Value.int .i64)).toArray l.length (Nat.le_refl _) (by simp only [maxLen]; omega) (by simp)
  exact OwnE.int.2 (by simpa using this)
theorem ints_lit_at (lo : Nat) (w : World) (e : TypeId) (l : List Int) (cs : Array Value) (g n : Nat) (hg : w.heap.size = g) (hn' : n = l.length) (hc : cs = (l.map (Value.int .i64)).toArray) (hn : l.length ≤ 1000) (hlo : lo ≤ g) : IntsAt lo (w.alloc (.cells cs e)) (.slice (some ⟨g, 0, none⟩) n n) l :=
  (ints_lit w e l cs g n hg hn' hc hn).sl hlo (by omega)

end Go.Proofs.Ytnifdjacgbdglaa
