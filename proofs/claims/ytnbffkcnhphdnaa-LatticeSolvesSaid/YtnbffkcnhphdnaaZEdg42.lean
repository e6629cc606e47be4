/-
  How edges read in memory; an edge's transformation.
-/
import Derived.Test.YtnbffkcnhphdnaaZBox
import Derived.Test.YtnbffkcnhphdnaaZPAt
import Derived.Test.YtnbffkcnhphdnaaZRegion
import Derived.Test.YtnbffkcnhphdnaaZSets42b
namespace Go.Proofs.Ytnbffkcnhphdnaa
set_option linter.unusedVariables false
set_option linter.unusedSimpArgs false
open Go.RowKit

def edgE : Enc (Edg × Slc × Slc) := ⟨4, fun x => [.int .i64 x.1.src, .int .i64 x.1.dst, .slice x.2.1.a x.2.1.n x.2.1.c, .slice x.2.2.a x.2.2.n x.2.2.c], fun _ => rfl, by simp [Value.oneCell'], by decide⟩
def EdgesAt (lo : Nat) (w : World) (v : Value) (l : List Edg) : Prop := ∃ m : List (Edg × Slc × Slc), m.map Prod.fst = l ∧ SlE edgE lo w v m ∧ ∀ i, i < m.length → IntsAt lo w (nth m i).2.1.val (nth m i).1.kill ∧ IntsAt lo w (nth m i).2.2.val (nth m i).1.gen
theorem EdgesAt.keep {lo : Nat} {w w' : World} {v : Value} {l : List Edg} (h : EdgesAt lo w v l) (hk : Keep lo w w') : EdgesAt lo w' v l := by
  obtain ⟨m, h1, h2, h3⟩ := h
  exact ⟨m, h1, h2.keep hk, fun i hi => ⟨(h3 i hi).1.keep hk, (h3 i hi).2.keep hk⟩⟩
theorem EdgesAt.below {lo : Nat} {w w' : World} {v : Value} {l : List Edg} (h : EdgesAt lo w v l) (hb : Below w.heap.size w w') : EdgesAt lo w' v l := h.keep (Keep.below hb)
theorem EdgesAt.mono {lo lo' : Nat} {w : World} {v : Value} {l : List Edg} (h : EdgesAt lo w v l) (hl : lo' ≤ lo) : EdgesAt lo' w v l := by
  obtain ⟨m, h1, h2, h3⟩ := h
  exact ⟨m, h1, h2.mono hl, fun i hi => ⟨(h3 i hi).1.mono hl, (h3 i hi).2.mono hl⟩⟩
theorem ints_len {lo : Nat} {w : World} {s : Slc} {l : List Int} (h : IntsAt lo w s.val l) : s.n = l.length := by obtain ⟨_, _, _, _, he, _⟩ := h.open; exact (Value.slice.inj he).2.1
theorem EdgesAt.open {lo : Nat} {w : World} {v : Value} {l : List Edg} (h : EdgesAt lo w v l) : ∃ a c b o, ∃ K G : Nat → Slc, v = .slice a l.length c ∧ (0 < l.length → a = some ⟨b, o, none⟩) ∧
    (∀ i, i < l.length → w.cell? ⟨b, o + i * 4, none⟩ = some (.int .i64 (nth l i).src)) ∧ (∀ i, i < l.length → w.cell? ⟨b, o + i * 4 + 1, none⟩ = some (.int .i64 (nth l i).dst)) ∧
    (∀ i, i < l.length → w.cell? ⟨b, o + i * 4 + 2, none⟩ = some (.slice (K i).a (nth l i).kill.length (K i).c)) ∧ (∀ i, i < l.length → w.cell? ⟨b, o + i * 4 + 3, none⟩ = some (.slice (G i).a (nth l i).gen.length (G i).c)) ∧
    (∀ i, i < l.length → IntsAt lo w (.slice (K i).a (nth l i).kill.length (K i).c) (nth l i).kill) ∧ (∀ i, i < l.length → IntsAt lo w (.slice (G i).a (nth l i).gen.length (G i).c) (nth l i).gen) ∧
    (0 < l.length → b < w.heap.size) ∧ (0 < l.length → lo ≤ b) ∧ l.length ≤ c ∧ c ≤ maxLen ∧ l.length ≤ 140737488355328 := by
  obtain ⟨m, rfl, hsl, hrow⟩ := h
  have hlen : (m.map Prod.fst).length = m.length := by simp
  have hat : ∀ i, i < m.length → nth (m.map Prod.fst) i = (nth m i).1 := fun i hi => nth_map _ _ _ hi
  obtain ⟨a, c, b, o, rfl, hnil, hp, hc, h1, h2, h3⟩ := hsl
  have c0 : ∀ i, i < m.length → w.cell? ⟨b, o + i * 4, none⟩ = some (.int .i64 (nth (m.map Prod.fst) i).src) := fun i hi => by have := hc i 0 hi (by decide); rw [hat i hi]; exact this
  refine ⟨a, c, b, o, fun i => (nth m i).2.1, fun i => (nth m i).2.2, by rw [hlen], fun h0 => (hp (by rwa [hlen] at h0)).1, fun i hi => c0 i (by rwa [hlen] at hi), fun i hi => ?_, fun i hi => ?_, fun i hi => ?_, fun i hi => ?_, fun i hi => ?_, fun h0 => World.block_lt_of_cell? _ _ (c0 0 (by rwa [hlen] at h0)), fun h0 => (hp (by rwa [hlen] at h0)).2, by rw [hlen]; exact h1, h2, by rw [hlen]; exact h3⟩
  all_goals rw [hlen] at hi
  · have := hc i 1 hi (by decide); rw [hat i hi]; exact this
  · have := hc i 2 hi (by decide); rw [hat i hi, ← ints_len (hrow i hi).1]; exact this
  · have := hc i 3 hi (by decide); rw [hat i hi, ← ints_len (hrow i hi).2]; exact this
  · rw [hat i hi, ← ints_len (hrow i hi).1]; exact (hrow i hi).1
  · rw [hat i hi, ← ints_len (hrow i hi).2]; exact (hrow i hi).2

theorem pickL_true (a b : List Int) : pickL a b true = meetL a b := by
  unfold pickL meetL
  exact List.filter_congr fun x _ => by simp
theorem pickL_false (a b : List Int) : pickL a b false = minusL a b := by
  unfold pickL minusL
  exact List.filter_congr fun x _ => by cases decide (x ∈ b) <;> rfl

section
variable (lo1 lo2 : Nat) (va vb : Value) (a b : List Int) (w : World)
set_option maxHeartbeats 1000000 in
theorem lmeet_calls (ha : IntsAt lo1 w va a) (hb : IntsAt lo2 w vb b) (hi : Inc b) (h1 : a.length ≤ 100000) (h2 : b.length ≤ 100000) :
    Calls Try.prog 30 #[va, vb] w fun e w' => ∃ v', e = .returned v' ∧ IntsAt w.heap.size w' v' (meetL a b) ∧ Below w.heap.size w w' := by
  have HA := hid ha
  have HB := hid hb
  have HI := hid hi
  clear ha hb hi
  go_enter Try.func30, Try.ntmps30
  go_wp2_with fail
  refine (pick_calls lo1 lo2 va vb a b true w HA.out HB.out HI.out h1 h2).mono ?_
  rintro e w1 ⟨v1, rfl, h3, hb1⟩
  rw [pickL_true] at h3
  have H3 := hid h3
  have HB1 := hid hb1
  clear h3 hb1
  go_wp2_with fail
  go_ret
  exact ⟨_, rfl, H3.out, HB1.out⟩
set_option maxHeartbeats 1000000 in
theorem lminus_calls (ha : IntsAt lo1 w va a) (hb : IntsAt lo2 w vb b) (hi : Inc b) (h1 : a.length ≤ 100000) (h2 : b.length ≤ 100000) :
    Calls Try.prog 31 #[va, vb] w fun e w' => ∃ v', e = .returned v' ∧ IntsAt w.heap.size w' v' (minusL a b) ∧ Below w.heap.size w w' := by
  have HA := hid ha
  have HB := hid hb
  have HI := hid hi
  clear ha hb hi
  go_enter Try.func31, Try.ntmps31
  go_wp2_with fail
  refine (pick_calls lo1 lo2 va vb a b false w HA.out HB.out HI.out h1 h2).mono ?_
  rintro e w1 ⟨v1, rfl, h3, hb1⟩
  rw [pickL_false] at h3
  have H3 := hid h3
  have HB1 := hid hb1
  clear h3 hb1
  go_wp2_with fail
  go_ret
  exact ⟨_, rfl, H3.out, HB1.out⟩
def subB (a b : List Int) : Bool := decide (minusL a b = [])
theorem subB_iff (a b : List Int) : subB a b = true ↔ ∀ x ∈ a, x ∈ b := by
  unfold subB
  rw [decide_eq_true_eq]
  constructor
  · intro h x hx
    rcases Classical.em (x ∈ b) with h1 | h1
    · exact h1
    · exfalso
      have : x ∈ minusL a b := (minusL_mem a b x).2 ⟨hx, h1⟩
      rw [h] at this; cases this
  · intro h
    exact List.eq_nil_iff_forall_not_mem.2 fun x hx => ((minusL_mem a b x).1 hx).2 (h x ((minusL_mem a b x).1 hx).1)
theorem len_zero_iff (l : List Int) : ((l.length : Int) == 0) = decide (l = []) := by
  rw [Bool.eq_iff_iff]
  simp
set_option maxHeartbeats 1000000 in
theorem lsubset_calls (ha : IntsAt lo1 w va a) (hb : IntsAt lo2 w vb b) (hi : Inc b) (h1 : a.length ≤ 100000) (h2 : b.length ≤ 100000) :
    Calls Try.prog 32 #[va, vb] w fun e w' => e = .returned (.bool (subB a b)) ∧ Below w.heap.size w w' := by
  have HA := hid ha
  have HB := hid hb
  have HI := hid hi
  clear ha hb hi
  go_enter Try.func32, Try.ntmps32
  go_wp2_with fail
  refine (pick_calls lo1 lo2 va vb a b false w HA.out HB.out HI.out h1 h2).mono ?_
  rintro e w1 ⟨v1, rfl, h3, hb1⟩
  rw [pickL_false] at h3
  obtain ⟨a1, k1, b1, o1, rfl, _⟩ := h3.open
  have HE := hid (len_zero_iff (minusL a b))
  have HB1 := hid hb1
  clear h3 hb1
  go_wp2_with fail
  go_ret
  refine ⟨ret_bool ?_, HB1.out⟩
  unfold subB
  rw [← HE.out]
end

end Go.Proofs.Ytnbffkcnhphdnaa
