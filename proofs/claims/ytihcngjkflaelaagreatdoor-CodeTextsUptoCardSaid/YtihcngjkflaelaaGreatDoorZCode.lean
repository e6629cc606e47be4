/-
  Parts of the proof.
-/
import Derived.Test.YtihcngjkflaelaaGreatDoorShelf
import Derived.Sort.OwnSortedInts
import Derived.Lib.OwnBridge
import Derived.Test.YtihcngjkflaelaaGreatDoorZSpec09
namespace Go.Proofs.YtihcngjkflaelaaGreatDoor
set_option linter.unusedVariables false
set_option linter.unusedSimpArgs false
open Go.RowKit Go.Sort Go.Lib

theorem flat_int (l : List Int) : l.flatMap intE.enc = l.map (Value.int .i64) := by
  induction l with
  | nil => rfl
  | cons x l ih => rw [List.flatMap_cons, ih]; rfl


theorem OwnE.int {base : Nat} {e : TypeId} {w : World} {v : Value} {l : List Int} : OwnE intE base e w v l ↔ w.ownsRow base e 1 v l.length (l.map (Value.int .i64)) := by
  unfold OwnE; rw [flat_int]; exact Iff.rfl

/-- A row that the call owns, nil or at the head of a block. -/
theorem own_cases {base : Nat} {e : TypeId} {w : World} {v : Value} {l : List Int} (h : OwnE intE base e w v l) :
    (v = .slice none 0 0 ∧ l = []) ∨ ∃ g cap cur, v = .slice (some ⟨g, 0, none⟩) l.length cap ∧ base ≤ g ∧ w.heap[g]? = some (.cells cur e (0, 0)) ∧ l.length ≤ cap ∧ cap ≤ maxLen ∧ cur.size = cap * 1 ∧ cur.toList.take l.length = l.map (Value.int .i64) := by
  have h := OwnE.int.1 h
  rcases h.2 with ⟨rfl, h0⟩ | ⟨g, cap, cur, rfl, hb, hg, hn, hm, hs, ht⟩
  · exact .inl ⟨rfl, List.eq_nil_of_length_eq_zero h0⟩
  · exact .inr ⟨g, cap, cur, rfl, hb, hg, hn, hm, hs, by rw [Nat.mul_one] at ht; exact ht⟩

theorem sort_calls {base : Nat} {e : TypeId} {w : World} {v : Value} {l : List Int} (h : OwnE intE base e w v l) (hn : l.length ≤ 140737488355328) :
    Calls Tryz.prog 57 #[v] w fun en w' => en = .returned (.tuple #[]) ∧ OwnE intE base e w' v (sortI l) ∧ w.grownBy w' v.ownBlock := by
  rcases own_cases h with ⟨rfl, rfl⟩ | ⟨g, cap, cur, rfl, hb, hg, hc, hm, hs, ht⟩
  · refine (Tryz.slices_Sort_int_none _ _ _).mono ?_
    rintro en w' ⟨rfl, rfl⟩
    refine ⟨rfl, ?_, World.grownBy.refl _ _⟩
    rw [show sortI [] = [] from List.length_eq_zero_iff.1 (sortI_length [])]
    exact OwnE.nil _ _ _ _
  · have hH := holds_of_blockI hg ht
    refine (Tryz.slices_Sort_int g 0 cap l w hH (Array.getElem?_eq_some_iff.1 hg).1 (by omega)).mono ?_
    rintro en w' ⟨rfl, q, os, rfl⟩
    have hl := sortI_length l
    refine ⟨rfl, OwnE.int.2 ?_, grownBy_sortedI _⟩
    have := ownsRow_sortedI (n := q) (os := os) (ss := l) (ts := sortI l) hl hb hg hc hm hs
    rw [hl]
    exact this

theorem compact_calls {base : Nat} {e : TypeId} {w : World} {v : Value} {l : List Int} (h : OwnE intE base e w v l) (hn : l.length ≤ 140737488355328) :
    Calls Tryz.prog 58 #[v] w fun en w' => ∃ v', en = .returned v' ∧ OwnE intE base e w' v' (Lib.compact l) ∧ w.grownBy w' v.ownBlock ∧ v'.ownBlock = v.ownBlock := by
  rcases own_cases h with ⟨rfl, rfl⟩ | ⟨g, cap, cur, rfl, hb, hg, hc, hm, hs, ht⟩
  · refine (Tryz.slices_Compact_int_empty _ _ _).mono ?_
    rintro en w' ⟨rfl, rfl⟩
    exact ⟨_, rfl, OwnE.nil _ _ _ _, World.grownBy.refl _ _, rfl⟩
  · have hH := holds_of_blockI hg ht
    refine (Tryz.slices_Compact_int g 0 cap l w hH (by omega) hc).mono ?_
    rintro en w' ⟨rfl, q, rfl⟩
    have hle := Lib.compact_length_le l
    refine ⟨_, rfl, OwnE.int.2 ?_, ⟨rfl, rfl, rfl, by simp [putRow, mapBlock, Sort.ahead], fun k hk hne => ?_⟩, rfl⟩
    · have := ownsRow_putRow (q := q) (k := (Lib.compact l).length) (ys := Lib.compact l ++ List.replicate (l.length - (Lib.compact l).length) 0) (OwnE.int.1 h) (by simp; omega) hle
      simpa using this
    · have : g ≠ k := fun e => hne (by rw [e]; rfl)
      simp [putRow, mapBlock, Sort.ahead, Array.getElem?_modify, this]

end Go.Proofs.YtihcngjkflaelaaGreatDoor

namespace Go.Proofs.YtihcngjkflaelaaGreatDoor
set_option linter.unusedVariables false
set_option linter.unusedSimpArgs false
open Go.RowKit

set_option maxHeartbeats 400000 in
theorem between_calls (v lo hi : Int) (w : World) :
    Calls Tryz.prog 32 #[.int .i64 v, .int .i64 lo, .int .i64 hi] w fun e w' => e = .returned (.bool (decide (lo ≤ v) && decide (v ≤ hi))) ∧ w = w' := by
  by_cases h1 : lo ≤ v
  · go_enter Tryz.func32, Tryz.ntmps32
    go_wp2
    go_ret
    exact ⟨by simp [h1], rfl⟩
  · go_enter Tryz.func32, Tryz.ntmps32
    go_wp2
    go_ret
    exact ⟨by simp; omega, rfl⟩

theorem grown_trans {w w1 w2 : World} {r : Option Nat} (h : w.grownBy w1 r) (k : w1.grownBy w2 r) : w.grownBy w2 r :=
  ⟨k.os.trans h.os, k.tape.trans h.tape, k.output.trans h.output, Nat.le_trans h.size k.size, fun i hi hr => (k.block i (Nat.lt_of_lt_of_le hi h.size) hr).trans (h.block i hi hr)⟩

set_option maxHeartbeats 400000 in
theorem sorted_calls {base : Nat} {e : TypeId} {w : World} {v : Value} {l : List Int} (h : OwnE intE base e w v l) (hn : l.length ≤ 140737488355328) :
    Calls Tryz.prog 39 #[v] w fun en w' => ∃ v', en = .returned v' ∧ OwnE intE base e w' v' (setL l) ∧ w.grownBy w' v.ownBlock ∧ v'.ownBlock = v.ownBlock := by
  go_enter Tryz.func39, Tryz.ntmps39
  go_wp2_with fail
  refine (sort_calls h hn).mono ?_
  rintro en w1 ⟨rfl, h1, g1⟩
  have H1 := hid g1
  clear g1
  go_wp2_with fail
  refine (compact_calls h1 (by rw [sortI_length]; exact hn)).mono ?_
  rintro en w2 ⟨v', rfl, h2, g2, e2⟩
  have H2 := hid g2
  have E2 := hid e2
  clear g2 e2
  go_wp2_with fail
  go_ret
  exact ⟨_, rfl, h2, grown_trans H1.out H2.out, E2.out⟩

/-- A slice literal of ints: g is the new block. -/
theorem ints_lit (w : World) (e : TypeId) (l : List Int) (cs : Array Value) (g n : Nat) (hg : w.heap.size = g) (hn' : n = l.length) (hc : cs = (l.map (Value.int .i64)).toArray) (hn : l.length ≤ 1000) : OwnE intE g e (w.alloc (.cells cs e)) (.slice (some ⟨g, 0, none⟩) n n) l := by
  subst hc hg hn'
  have := World.ownsRow_lit (base := w.heap.size) (e := e) (size := 1) w (l.map (Value.int .i64)).toArray l.length (Nat.le_refl _) (by simp only [maxLen]; omega) (by simp)
  exact OwnE.int.2 (by simpa using this)
theorem ints_lit_at (lo : Nat) (w : World) (e : TypeId) (l : List Int) (cs : Array Value) (g n : Nat) (hg : w.heap.size = g) (hn' : n = l.length) (hc : cs = (l.map (Value.int .i64)).toArray) (hn : l.length ≤ 1000) (hlo : lo ≤ g) : IntsAt lo (w.alloc (.cells cs e)) (.slice (some ⟨g, 0, none⟩) n n) l :=
  (ints_lit w e l cs g n hg hn' hc hn).sl hlo (by omega)

end Go.Proofs.YtihcngjkflaelaaGreatDoor
