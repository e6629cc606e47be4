/-
  The state of the iteration over waiting nodes.
-/
import Derived.Test.YtnbffkcnhphdnaaZOut42
namespace Go.Proofs.Ytnbffkcnhphdnaa
set_option linter.unusedVariables false
set_option linter.unusedSimpArgs false
open Go.RowKit

/-- The edges that leave a node, of the first k. -/
def outE (E : List Edg) (n k : Nat) (i : Nat) : List Int := ((List.range k).filter fun j => insideB n (nth E j) && decide ((nth E j).src = i)).map fun j : Nat => (j : Int)
theorem outE_succ (E : List Edg) (n k i : Nat) : outE E n (k + 1) i = outE E n k i ++ if (insideB n (nth E k) && decide ((nth E k).src = i)) = true then [(k : Int)] else [] := by
  unfold outE
  rw [List.range_succ, List.filter_append, List.map_append]
  congr 1
  cases h : (insideB n (nth E k) && decide ((nth E k).src = i)) <;> simp [h]
theorem outE_mem (E : List Edg) (n k i : Nat) (x : Int) : x ∈ outE E n k i ↔ ∃ j : Nat, x = j ∧ j < k ∧ insideB n (nth E j) = true ∧ (nth E j).src = i := by
  unfold outE
  rw [List.mem_map]
  constructor
  · rintro ⟨j, hj, rfl⟩
    rw [List.mem_filter] at hj
    simp at hj
    exact ⟨j, rfl, hj.1, hj.2.1, hj.2.2⟩
  · rintro ⟨j, rfl, h1, h2, h3⟩
    refine ⟨j, ?_, rfl⟩
    rw [List.mem_filter]
    simp [h1, h2, h3]
theorem outE_len (E : List Edg) (n k i : Nat) : (outE E n k i).length ≤ k := by
  unfold outE
  rw [List.length_map]
  exact Nat.le_trans (List.length_filter_le _ _) (by simp)
theorem outE_stay (E : List Edg) (n k : Nat) (h : insideB n (nth E k) = false) : outE E n (k + 1) = outE E n k := by
  funext i
  rw [outE_succ, h]
  simp
theorem outE_push (E : List Edg) (n k s : Nat) (h : insideB n (nth E k) = true) (hs : (nth E k).src = s) : outE E n (k + 1) = fun j => if j = s then outE E n k s ++ [(k : Int)] else outE E n k j := by
  funext i
  rw [outE_succ, h, hs]
  by_cases e : i = s
  · subst e; simp
  · rw [if_neg e, if_neg (by simp; omega), List.append_nil]

def iotaL (k : Nat) : List Int := (List.range k).map fun j : Nat => (j : Int)
theorem iotaL_succ (k : Nat) : iotaL (k + 1) = iotaL k ++ [(k : Int)] := by unfold iotaL; rw [List.range_succ, List.map_append]; rfl
theorem iotaL_len (k : Nat) : (iotaL k).length = k := by simp [iotaL]
theorem iotaL_mem (k : Nat) (x : Int) : x ∈ iotaL k ↔ ∃ j : Nat, x = j ∧ j < k := by
  unfold iotaL
  rw [List.mem_map]
  constructor
  · rintro ⟨j, hj, rfl⟩; exact ⟨j, rfl, by simpa using hj⟩
  · rintro ⟨j, rfl, hj⟩; exact ⟨j, by simpa using hj, rfl⟩

theorem MapB.congr {w : World} {b c : Nat} {L L' : List Int} (h : MapB w b c L) (hl : ∀ x, x ∈ L ↔ x ∈ L') : MapB w b c L' := by
  obtain ⟨D, h1, h2⟩ := h
  exact ⟨D, h1, fun k => by rw [h2 k]; simp [hl k]⟩
theorem MapB.isMap {w : World} {b c : Nat} {L : List Int} (h : MapB w b c L) : ∃ es clock, w.heap[b]? = some (.map es clock) := by
  obtain ⟨D, ⟨es, clock, h1, _⟩, _⟩ := h
  exact ⟨es, clock, h1⟩
theorem cell_ne_map {w : World} {b c k off : Nat} {L : List Int} {u : Value} (h : MapB w b c L) (hc : w.cell? ⟨k, off, none⟩ = some u) : k ≠ b := by
  intro e
  subst e
  obtain ⟨es, clock, hm⟩ := h.isMap
  simp [World.cell?, hm] at hc
theorem ints_ne_map {lo : Nat} {w : World} {b c : Nat} {L : List Int} {v : Value} {l : List Int} (h : MapB w b c L) (hi : IntsAt lo w v l) (h0 : 0 < l.length) (k : Nat) (hk : v.ownBlock = some k) : k ≠ b := by
  obtain ⟨a, c', b', o, rfl, p1, q1, _⟩ := hi.open
  have e := p1 h0
  subst e
  have : b' = k := by simpa [Value.ownBlock] using hk
  subst this
  exact cell_ne_map h (q1 0 h0)

structure St (w w4 : World) (vb vc mb n : Nat) (wr : World) (ss : List Slc) (u : List (List Int)) (lv : Value) (l lm : List Int) (c : Nat) : Prop where
  below : Below w.heap.size w wr
  size : w4.heap.size ≤ wr.heap.size
  fix : ∀ k, k < w4.heap.size → k ≠ mb → k ≠ vb → wr.heap[k]? = w4.heap[k]?
  v : VAt w.heap.size wr (.slice (some ⟨vb, 0, none⟩) n vc) ss u
  q : QAt w4.heap.size 3 wr lv l
  m : MapB wr mb c lm
  ap : ∀ i, i < u.length → 0 < (nth u i).length → ∀ k, (nth ss i).val.ownBlock = some k → lv.ownBlock ≠ some k

section
variable {w w4 wr : World} {vb vc mb n : Nat} {ss : List Slc} {u : List (List Int)} {lv : Value} {l lm : List Int} {c : Nat}
theorem St.mbv (h : St w w4 vb vc mb n wr ss u lv l lm c) : mb ≠ vb := by
  intro e
  obtain ⟨es, clock, hm⟩ := h.m.isMap
  rcases h.v.own.2 with ⟨h0, _⟩ | ⟨g, cap, cur, hv, _, hg, _⟩
  · cases h0
  · obtain ⟨h1, _⟩ := Value.slice.inj hv
    simp at h1
    subst h1
    rw [← e, hm] at hg
    cases hg
theorem St.qv (h : St w w4 vb vc mb n wr ss u lv l lm c) (k : Nat) (hk : lv.ownBlock = some k) : k ≠ vb ∧ k ≠ mb ∧ w4.heap.size ≤ k := by
  obtain ⟨h1, h2, cur, h3⟩ := h.q.lt k hk
  refine ⟨fun e => ?_, fun e => ?_, h1⟩
  · rcases h.v.own.2 with ⟨h0, _⟩ | ⟨g, cap, cur', hv, _, hg, _⟩
    · cases h0
    · obtain ⟨h4, _⟩ := Value.slice.inj hv
      simp at h4
      subst h4
      rw [← e, h3] at hg
      simp at hg
  · obtain ⟨es, clock, hm⟩ := h.m.isMap
    rw [← e, h3] at hm
    cases hm
theorem St.step (h : St w w4 vb vc mb n wr ss u lv l lm c) {w' : World} (hb : Below wr.heap.size wr w') : St w w4 vb vc mb n w' ss u lv l lm c :=
  ⟨bvia h.below hb, Nat.le_trans h.size hb.size, fun k h1 h2 h3 => (hb.block k (Nat.lt_of_lt_of_le h1 h.size)).trans (h.fix k h1 h2 h3), h.v.below hb, h.q.below hb, h.m.below hb, h.ap⟩
theorem St.rowBlk (h : St w w4 vb vc mb n wr ss u lv l lm c) (k : Nat) (hk : VBlk (.slice (some ⟨vb, 0, none⟩) n vc) ss u k) : k ≠ mb ∧ (lv.ownBlock ≠ some k) := by
  rcases hk with hk | ⟨i, hi, h0, hk⟩
  · have e : vb = k := by simpa [Value.ownBlock] using hk
    subst e
    exact ⟨fun e => h.mbv e.symm, fun e => (h.qv _ e).1 rfl⟩
  · exact ⟨ints_ne_map h.m (h.v.row i hi) h0 k hk, h.ap i hi h0 k hk⟩
theorem St.below_grow (h : St w w4 vb vc mb n wr ss u lv l lm c) (hw4 : w.heap.size ≤ mb) {w' : World} {row : Option Nat} (hg : wr.grownBy w' row) (hrow : ∀ k, row = some k → w.heap.size ≤ k) : Below w.heap.size w w' :=
  h.below.grown hg h.below.size hrow
theorem St.map (h : St w w4 vb vc mb n wr ss u lv l lm c) (hmb : w.heap.size ≤ mb) (hmb4 : mb < w4.heap.size) {w' : World} (hg : wr.grownBy w' (some mb)) {lm' : List Int} {c' : Nat} (hm : MapB w' mb c' lm') : St w w4 vb vc mb n w' ss u lv l lm' c' := by
  refine ⟨h.below_grow hmb hg (fun k hk => by cases hk; exact hmb), Nat.le_trans h.size hg.size, fun k h1 h2 h3 => (hg.block k (Nat.lt_of_lt_of_le h1 h.size) (by simpa using h2)).trans (h.fix k h1 h2 h3), h.v.keep fun k hk => hg.block k (h.v.blk k hk) (by simpa using (h.rowBlk k hk).1), h.q.keep fun k hk => hg.block k (h.q.lt k hk).2.1 (by simpa using (h.qv k hk).2.1), hm, h.ap⟩
theorem St.queue (h : St w w4 vb vc mb n wr ss u lv l lm c) (hmb : w.heap.size ≤ mb) (hw4 : w.heap.size ≤ w4.heap.size) {w1 w' : World} {lv' : Value} {l' : List Int} (h1 : Below wr.heap.size wr w1) (hg : w1.grownBy w' lv.ownBlock) (hq : QAt w4.heap.size 3 w' lv' l') (hloc : ∀ k, lv'.ownBlock = some k → lv.ownBlock = some k ∨ k = w1.heap.size) : St w w4 vb vc mb n w' ss u lv' l' lm c := by
  have h2 := h.step h1
  refine ⟨h2.below_grow hmb hg (fun k hk => Nat.le_trans hw4 (h2.qv k hk).2.2), Nat.le_trans h2.size hg.size, fun k k1 k2 k3 => (hg.block k (Nat.lt_of_lt_of_le k1 h2.size) (fun e => by have := (h2.qv k e.symm).2.2; omega)).trans (h2.fix k k1 k2 k3), h2.v.keep fun k hk => hg.block k (h2.v.blk k hk) (fun e => (h2.rowBlk k hk).2 e.symm), hq, ?_, fun i hi h0 k hk e => ?_⟩
  · refine h2.m.grown hg fun e => (h2.qv mb e.symm).2.1 rfl
  · rcases hloc k e with h3 | h3
    · exact h.ap i hi h0 k hk h3
    · have := ((h2.v.row i hi).blk h0 k hk).2
      omega
theorem St.pop (h : St w w4 vb vc mb n wr ss u lv l lm c) {lv' : Value} {l' : List Int} (hq : QAt w4.heap.size 3 wr lv' l') (hloc : ∀ k, lv'.ownBlock = some k → lv.ownBlock = some k) : St w w4 vb vc mb n wr ss u lv' l' lm c :=
  ⟨h.below, h.size, h.fix, h.v, hq, h.m, fun i hi h0 k hk e => h.ap i hi h0 k hk (hloc k e)⟩
theorem St.put (h : St w w4 vb vc mb n wr ss u lv l lm c) (hvb : w.heap.size ≤ vb) (i lo : Nat) (S : Slc) (x : List Int) (hi : i < u.length) (hr : IntsAt lo wr S.val x) (hlo : vb < lo) (hlq : ∀ k, lv.ownBlock = some k → k < lo) :
    St w w4 vb vc mb n (wr.setCell ⟨vb, i, none⟩ S.val) (ss.set i S) (u.set i x) lv l lm c := by
  have hst : ∀ k, k ≠ vb → (wr.setCell ⟨vb, i, none⟩ S.val).heap[k]? = wr.heap[k]? := fun k hk => Go.Deep.blk_setCell_other _ _ _ _ hk
  have hss : i < ss.length := by rw [h.v.len]; exact hi
  refine ⟨h.below.setCell hvb _, by simpa [World.setCell] using h.size, fun k h1 h2 h3 => (hst k h3).trans (h.fix k h1 h2 h3), h.v.put i S x hi hr (fun h0 k hk => by have := (hr.blk h0 k hk).1; omega), h.q.keep fun k hk => hst k (h.qv k hk).1, h.m.block (hst mb h.mbv), fun j hj h0 k hk e => ?_⟩
  rw [List.length_set] at hj
  rw [nth_setV _ _ _ _ hi] at h0
  rw [nth_setV _ _ _ _ hss] at hk
  by_cases e2 : i = j
  · rw [if_pos e2] at h0 hk
    have h3 := (hr.blk h0 k hk).1
    have h4 := hlq k e
    omega
  · rw [if_neg e2] at h0 hk
    exact h.ap j hj h0 k hk e
end

end Go.Proofs.Ytnbffkcnhphdnaa
