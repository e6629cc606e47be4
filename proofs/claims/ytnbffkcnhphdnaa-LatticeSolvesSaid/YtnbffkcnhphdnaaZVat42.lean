/-
  A row of sets of the call's own, whose sets may lie anywhere else.
-/
import Derived.Deep.OwnRows
import Derived.Test.YtnbffkcnhphdnaaZClos42
namespace Go.Proofs.Ytnbffkcnhphdnaa
set_option linter.unusedVariables false
set_option linter.unusedSimpArgs false
open Go.RowKit

structure VAt (base : Nat) (w : World) (v : Value) (ss : List Slc) (s : List (List Int)) : Prop where
  len : ss.length = s.length
  own : OwnE rowE base 34 w v ss
  row : ∀ i, i < s.length → IntsAt 0 w (nth ss i).val (nth s i)
  ne : ∀ i, i < s.length → 0 < (nth s i).length → ∀ k, (nth ss i).val.ownBlock = some k → v.ownBlock ≠ some k

theorem VAt.lays {base : Nat} {w : World} {v : Value} {ss : List Slc} {s : List (List Int)} (h : VAt base w v ss s) (hn : s.length ≤ 140737488355328) : LaysAt 0 w v s := ⟨ss, h.len, h.own.sl (Nat.zero_le _) (by rw [h.len]; exact hn), h.row⟩
theorem VAt.open {base : Nat} {w : World} {v : Value} {ss : List Slc} {s : List (List Int)} (h : VAt base w v ss s) (h0 : 0 < s.length) : ∃ g cap, v = .slice (some ⟨g, 0, none⟩) s.length cap ∧ base ≤ g ∧ g < w.heap.size := by
  have := h.own.open (by rw [h.len]; exact h0)
  rw [h.len] at this
  exact this
theorem VAt.cell {base g n cap : Nat} {w : World} {ss : List Slc} {s : List (List Int)} (h : VAt base w (.slice (some ⟨g, 0, none⟩) n cap) ss s) (i : Nat) (hi : i < s.length) : w.cell? ⟨g, i, none⟩ = some (.slice (nth ss i).a (nth s i).length (nth ss i).c) := by
  have := h.own.cellAt i 0 (by rw [h.len]; exact hi) (by decide)
  rw [show i * rowE.sz + 0 = i by show i * 1 + 0 = i; omega] at this
  rw [this, ← ints_len (h.row i hi)]
  rfl
theorem VAt.frozen {base g n cap : Nat} {w : World} {ss : List Slc} {s : List (List Int)} (h : VAt base w (.slice (some ⟨g, 0, none⟩) n cap) ss s) (i : Nat) : w.frozen? ⟨g, i, none⟩ = false := h.own.frozenAt i
theorem VAt.ints {base : Nat} {w : World} {v : Value} {ss : List Slc} {s : List (List Int)} (h : VAt base w v ss s) (i : Nat) (hi : i < s.length) : IntsAt 0 w (.slice (nth ss i).a (nth s i).length (nth ss i).c) (nth s i) := by
  have := h.row i hi
  rw [← ints_len this]
  exact this
/-- The blocks on which the reading hangs. -/
def VBlk (v : Value) (ss : List Slc) (s : List (List Int)) (k : Nat) : Prop := v.ownBlock = some k ∨ ∃ i, i < s.length ∧ 0 < (nth s i).length ∧ (nth ss i).val.ownBlock = some k
theorem VAt.keep {base : Nat} {w w' : World} {v : Value} {ss : List Slc} {s : List (List Int)} (h : VAt base w v ss s) (hk : ∀ k, VBlk v ss s k → w'.heap[k]? = w.heap[k]?) : VAt base w' v ss s :=
  ⟨h.len, h.own.ofBlock fun k hb => hk k (.inl hb), fun i hi => (h.row i hi).agree fun h0 k hb => hk k (.inr ⟨i, hi, h0, hb⟩), h.ne⟩
theorem VAt.blk {base : Nat} {w : World} {v : Value} {ss : List Slc} {s : List (List Int)} (h : VAt base w v ss s) (k : Nat) (hk : VBlk v ss s k) : k < w.heap.size := by
  rcases hk with hk | ⟨i, hi, h0, hb⟩
  · exact (h.own.lt k hk).2
  · exact ((h.row i hi).blk h0 k hb).2
theorem VAt.below {base : Nat} {w w' : World} {v : Value} {ss : List Slc} {s : List (List Int)} (h : VAt base w v ss s) (hb : Below w.heap.size w w') : VAt base w' v ss s := h.keep fun k hk => hb.block k (h.blk k hk)
theorem VAt.put {base lo g n cap : Nat} {w : World} {ss : List Slc} {s : List (List Int)} (h : VAt base w (.slice (some ⟨g, 0, none⟩) n cap) ss s) (i : Nat) (S : Slc) (l : List Int) (hi : i < s.length) (hr : IntsAt lo w S.val l) (hlo : 0 < l.length → ∀ k, S.val.ownBlock = some k → k ≠ g) :
    VAt base (w.setCell ⟨g, i, none⟩ S.val) (.slice (some ⟨g, 0, none⟩) n cap) (ss.set i S) (s.set i l) := by
  have hss : i < ss.length := by rw [h.len]; exact hi
  have hkeep : ∀ k, k ≠ g → (w.setCell ⟨g, i, none⟩ S.val).heap[k]? = w.heap[k]? := fun k hk => Go.Deep.blk_setCell_other _ _ _ _ hk
  refine ⟨by simp [h.len], ?_, fun j hj => ?_, fun j hj h0 k hk => ?_⟩
  · have := h.own.put i 0 S.val S hss (by decide) (by simp [rowE, Slc.val])
    rw [show i * rowE.sz + 0 = i by show i * 1 + 0 = i; omega] at this
    exact this
  · have hj' : j < s.length := by simpa using hj
    by_cases e : i = j
    · subst e
      rw [nth_setV _ _ _ _ hss, if_pos rfl, nth_setV _ _ _ _ hi, if_pos rfl]
      exact ((hr.agree fun h0 k hb => hkeep k (hlo h0 k hb)) : IntsAt lo _ _ _).mono (Nat.zero_le _)
    · rw [nth_setV _ _ _ _ hss, if_neg e, nth_setV _ _ _ _ hi, if_neg e]
      exact (h.row j hj').agree fun h0 k hb => hkeep k (fun e2 => by
        subst e2
        exact h.ne j hj' h0 k hb rfl)
  · have hj' : j < s.length := by simpa using hj
    by_cases e : i = j
    · subst e
      rw [nth_setV _ _ _ _ hss, if_pos rfl] at hk
      rw [nth_setV _ _ _ _ hi, if_pos rfl] at h0
      have := hlo h0 k hk
      simpa [Value.ownBlock] using fun e => this e.symm
    · rw [nth_setV _ _ _ _ hss, if_neg e] at hk
      rw [nth_setV _ _ _ _ hi, if_neg e] at h0
      exact h.ne j hj' h0 k hk
theorem nth_replX {α : Type} [Inhabited α] (n i : Nat) (x : α) (h : i < n) : nth (List.replicate n x) i = x := by
  rw [nth_eq _ _ (by simpa using h)]; simp
theorem VAt.made (w : World) (n : Nat) (hn : n ≤ 1000) : VAt w.heap.size (w.alloc (.cells (madeCells #[.slice none 0 0] n) 34)) (.slice (some ⟨w.heap.size, 0, none⟩) n n) (List.replicate n ⟨none, 0, 0⟩) (List.replicate n []) := by
  refine ⟨by simp, ?_, fun i hi => ?_, fun i hi h0 => ?_⟩
  · refine OwnE.lit rowE w w.heap.size 34 (List.replicate n ⟨none, 0, 0⟩) _ w.heap.size n rfl (Nat.le_refl _) (by simp) ?_ (by simpa using hn)
    rw [toList_madeCells_one]
    induction n with
    | zero => rfl
    | succ n ih => rw [List.replicate_succ, List.replicate_succ, List.flatMap_cons, ← ih (by omega)]; rfl
  · have hi' : i < n := by simpa using hi
    rw [nth_replX _ _ _ hi', nth_replX _ _ _ hi']
    exact SlE.nil _ _ _
  · have hi' : i < n := by simpa using hi
    rw [nth_replX _ _ _ hi'] at h0
    simp at h0
theorem infoRow42 : (Try.prog.info? 34).map (fun i => (i.zero, i.size, i.bytes)) = some (some (.slice none 0 0), 1, 24) := by kernel_rfl

def sets0 (S : List (List Int)) (m : List Int) (i : Nat) : List Int := if i < S.length then setL (nth S i) else m
theorem rmap_set {α : Type} [Inhabited α] (f : Nat → α) (x : α) (n k : Nat) (h : k < n) : ((List.range k).map f ++ List.replicate (n - k) x).set k (f k) = (List.range (k + 1)).map f ++ List.replicate (n - (k + 1)) x := by
  rw [List.set_append_right _ _ (by simp)]
  simp only [List.length_map, List.length_range, Nat.sub_self]
  rw [show n - k = (n - (k + 1)) + 1 by omega, List.replicate_succ, List.set_cons_zero, List.range_succ, List.map_append, List.append_assoc]
  rfl

set_option maxRecDepth 100000 in
set_option maxHeartbeats 4000000 in
theorem sets_calls (lo1 lo2 : Nat) (vs vm : Value) (n : Nat) (S : List (List Int)) (m : List Int) (w : World) (hS : LaysAt lo1 w vs S) (hm : IntsAt lo2 w vm m) (hn : n ≤ 1000) (hml : m.length ≤ 100000) (hSl : ∀ i, i < S.length → (nth S i).length ≤ 100000) :
    Calls Try.prog 38 #[.int .i64 n, vs, vm] w fun e w' => ∃ g ss, e = .returned (.slice (some ⟨g, 0, none⟩) n n) ∧ VAt w.heap.size w' (.slice (some ⟨g, 0, none⟩) n n) ss ((List.range n).map (sets0 S m)) ∧ Below w.heap.size w w' := by
  obtain ⟨sa, sc, sb, so, SS, rfl, p1, x0, xi, k1, _, m1, n1⟩ := hS.open
  have HQ := hid (And.intro p1 (And.intro x0 (And.intro xi k1)))
  have HM := hid hm
  have HSL := hid hSl
  have hmk := run_make_row' (P := Try.prog) 23 34 (.slice none 0 0) 24 Try.underlying23 infoRow42 rfl .i64 .i64 n (by omega) (by omega)
  clear hS hm hSl p1 x0 xi k1
  go_enter Try.func38, Try.ntmps38
  go_wp2_with fail
  generalize hW : World.alloc _ _ = W
  have hv := show VAt w.heap.size W (.slice (some ⟨w.heap.size, 0, none⟩) n n) (List.replicate n ⟨none, 0, 0⟩) (List.replicate n []) by rw [← hW]; exact VAt.made w n hn
  have HV := hid hv
  have HBW := hid (show Below w.heap.size w W by rw [← hW]; exact (Below.refl _ _).alloc (Nat.le_refl _) _)
  clear hW hv hmk
  go_loopw [13] (fun i wr => ∃ (k : Nat) (ss : List Slc), k ≤ n ∧ i = .int .i64 k ∧ VAt w.heap.size wr (.slice (some ⟨w.heap.size, 0, none⟩) n n) ss ((List.range k).map (sets0 S m) ++ List.replicate (n - k) []) ∧ Below w.heap.size w wr) (fun i _ => n - (intOf i).toNat)
  case atStart => exact ⟨0, _, Nat.zero_le _, rfl, HV.out, HBW.out⟩
  case round =>
    obtain ⟨k, ss, hk, rfl, hv, hbl⟩ := hrel
    obtain ⟨wo, hwo⟩ : ∃ wo, wo = wr := ⟨_, rfl⟩
    subst hwo
    have HVO := hid hv
    have HBL := hid hbl
    have zg : w.heap.size < wo.heap.size := (hv.own.lt _ rfl).2
    have zf := hv.frozen k
    have hlenk : ((List.range k).map (sets0 S m) ++ List.replicate (n - k) []).length = n := by simp; omega
    have HLN := hid hlenk
    clear hv hbl hlenk
    by_cases hlt : k < n
    · have hlt2 : (k : Int) < n := Int.ofNat_lt.2 hlt
      have d0 := HVO.out.cell k (by rw [HLN.out]; exact hlt)
      by_cases hs : k < S.length
      · have hs2 : (k : Int) < S.length := Int.ofNat_lt.2 hs
        obtain ⟨p1, x0, xi, k1⟩ := HQ.out
        have e1 := p1 (by omega)
        subst e1
        have y0 := x0 k hs
        have zs := k1 (by omega)
        have HSI := hid (xi k hs)
        have HSZ := hid (show sb ≠ w.heap.size by omega)
        have hsk := HSL.out k hs
        clear p1 x0 xi k1
        go_wp2_with (first
          | (go_at_call 46
             refine (clone_calls lo2 vm m _ (HM.out.below HBL.out) (by omega)).mono ?_
             rintro e w2 ⟨v2, rfl, ho2, hb2⟩
             have hi2 := ho2.sl (Nat.le_refl _) (by omega)
             obtain ⟨a2, n2, c2, rfl⟩ : ∃ a n c, v2 = .slice a n c := by obtain ⟨a, c, _, _, rfl, _⟩ := IntsAt.open hi2; exact ⟨a, _, c, rfl⟩
             have HI2 := hid hi2
             have HB2 := hid (bvia HBL.out hb2)
             have HV2 := hid (HVO.out.below hb2)
             have HZ2 := hid hb2.size
             have zg2 : w.heap.size < w2.heap.size := Nat.lt_of_lt_of_le zg hb2.size
             have zf2 := HV2.out.frozen k
             have d2 := HV2.out.cell k (by rw [HLN.out]; exact hlt)
             have y2 := (HB2.out.cell (p := ⟨sb, _, none⟩) zs).trans y0
             have zs2 : sb < w2.heap.size := by omega
             clear ho2 hi2 hb2)
          | (go_at_call 27
             refine (lset_calls lo1 _ (nth S k) _ (HSI.out.below (bstore HB2.out _ _ _ (Nat.le_refl _))) (by omega)).mono ?_
             rintro e w3 ⟨v3, rfl, hi3, hb3⟩
             obtain ⟨a3, n3, c3, rfl⟩ : ∃ a n c, v3 = .slice a n c := by obtain ⟨a, c, _, _, rfl, _⟩ := IntsAt.open hi3; exact ⟨a, _, c, rfl⟩
             have HI3 := hid hi3
             have HB3 := hid (bvia (bstore HB2.out w.heap.size k (.slice a2 n2 c2) (Nat.le_refl _)) hb3)
             have HV3 := hid ((HV2.out.put k ⟨a2, n2, c2⟩ m (by rw [HLN.out]; exact hlt) HI2.out (fun h0 q hq => by have := (HI2.out.blk h0 q hq).1; omega)).below hb3)
             have zg3 : w.heap.size < w3.heap.size := by have := hb3.size; simp at this; omega
             have zf3 := HV3.out.frozen k
             have HZ3 := hid (show w2.heap.size ≤ w3.heap.size by have := hb3.size; simpa using this)
             have d3 := HV3.out.cell k (by rw [List.length_set, HLN.out]; exact hlt)
             clear hi3 hb3 y2 zs2))
        have hfin := HV3.out.put k ⟨a3, n3, c3⟩ (setL (nth S k)) (by rw [List.length_set, HLN.out]; exact hlt) HI3.out (fun h0 q hq => by have := (HI3.out.blk h0 q hq).1; simp at this; omega)
        rw [List.set_set, List.set_set, show setL (nth S k) = sets0 S m k by unfold sets0; rw [if_pos hs], rmap_set (sets0 S m) [] n k hlt] at hfin
        refine ⟨⟨k + 1, _, by omega, by go_num, hfin, bstore HB3.out _ _ _ (Nat.le_refl _)⟩, by simp [intOf] <;> omega⟩
      · have hs2 : ¬ (k : Int) < S.length := by omega
        go_wp2_with (
          go_at_call 46
          refine (clone_calls lo2 vm m _ (HM.out.below HBL.out) (by omega)).mono ?_
          rintro e w2 ⟨v2, rfl, ho2, hb2⟩
          have hi2 := ho2.sl (Nat.le_refl _) (by omega)
          obtain ⟨a2, n2, c2, rfl⟩ : ∃ a n c, v2 = .slice a n c := by obtain ⟨a, c, _, _, rfl, _⟩ := IntsAt.open hi2; exact ⟨a, _, c, rfl⟩
          have HI2 := hid hi2
          have HB2 := hid (bvia HBL.out hb2)
          have HV2 := hid (HVO.out.below hb2)
          have HZ2 := hid hb2.size
          have zg2 : w.heap.size < w2.heap.size := Nat.lt_of_lt_of_le zg hb2.size
          have zf2 := HV2.out.frozen k
          have d2 := HV2.out.cell k (by rw [HLN.out]; exact hlt)
          clear ho2 hi2 hb2)
        have hfin := HV2.out.put k ⟨a2, n2, c2⟩ m (by rw [HLN.out]; exact hlt) HI2.out (fun h0 q hq => by have := (HI2.out.blk h0 q hq).1; omega)
        rw [show m = sets0 S m k by unfold sets0; rw [if_neg hs]] at hfin
        have e9 : (List.range k).map (sets0 S (sets0 S m k)) = (List.range k).map (sets0 S m) := by rw [show sets0 S m k = m by unfold sets0; rw [if_neg hs]]
        rw [e9, rmap_set (sets0 S m) [] n k hlt] at hfin
        refine ⟨⟨k + 1, _, by omega, by go_num, hfin, bstore HB2.out _ _ _ (Nat.le_refl _)⟩, by simp [intOf] <;> omega⟩
    · have HK := hid (show k = n by omega)
      go_wp2_with fail
      go_ret
      refine ⟨w.heap.size, ss, rfl, ?_, HBL.out⟩
      have := HVO.out
      rw [HK.out, Nat.sub_self, List.replicate_zero, List.append_nil] at this
      exact this

end Go.Proofs.Ytnbffkcnhphdnaa
