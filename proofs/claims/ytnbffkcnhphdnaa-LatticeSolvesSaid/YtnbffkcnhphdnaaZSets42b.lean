/-
  Package lattice's operations on sets: union, intersection, difference.
-/
import Derived.Test.YtnbffkcnhphdnaaZSets42
namespace Go.Proofs.Ytnbffkcnhphdnaa
set_option linter.unusedVariables false
set_option linter.unusedSimpArgs false
open Go.RowKit

set_option maxHeartbeats 2000000 in
theorem concat_calls (lo : Nat) (a1 a2 : Option Addr) (n1 n2 k1 k2 : Nat) (a b : List Int) (g : Nat) (w : World) (ha : IntsAt lo w (.slice a1 n1 k1) a) (hb : IntsAt lo w (.slice a2 n2 k2) b) (c0 : w.cell? ⟨g, 0, none⟩ = some (.slice a1 n1 k1)) (c1 : w.cell? ⟨g, 1, none⟩ = some (.slice a2 n2 k2)) (hg : g < w.heap.size)
    (h1 : a.length ≤ 100000) (h2 : b.length ≤ 100000) :
    Calls Try.prog 49 #[.slice (some ⟨g, 0, none⟩) 2 2] w fun e w' => ∃ v', e = .returned v' ∧ OwnE intE w.heap.size 3 w' v' (a ++ b) ∧ Below w.heap.size w w' := by
  have e1 : n1 = a.length := by obtain ⟨_, _, _, _, he, _⟩ := ha.open; exact (Value.slice.inj he).2.1
  have e2 : n2 = b.length := by obtain ⟨_, _, _, _, he, _⟩ := hb.open; exact (Value.slice.inj he).2.1
  subst e1 e2
  have HA := hid ha
  have HB := hid hb
  have C0 := hid c0
  have C1 := hid c1
  have hsum : wrap64 ((a.length : Int) + b.length) = (a.length : Int) + b.length := by unfold wrap64; omega
  have hnn : decide ((a.length : Int) + b.length < 0) = false := by simp; omega
  clear ha hb
  go_enter Try.func49, Try.ntmps49
  go_wp2_with fail
  go_loop [3, 11] (fun s i => (i = .int .i64 0 ∧ s = .int .i64 0) ∨ (i = .int .i64 1 ∧ s = .int .i64 a.length) ∨ (i = .int .i64 2 ∧ s = .int .i64 ((a.length + b.length : Nat) : Int))) (fun _ i => 2 - (intOf i).toNat)
  case atStart => exact .inl ⟨rfl, rfl⟩
  case round =>
    rcases hrel with ⟨rfl, rfl⟩ | ⟨rfl, rfl⟩ | ⟨rfl, rfl⟩
    · go_wp2_with fail
      go_round
      case rel => exact .inr (.inl ⟨rfl, rfl⟩)
      case measure => simp [intOf]
    · go_wp2_with fail
      go_round
      case rel => exact .inr (.inr ⟨rfl, by go_num⟩)
      case measure => simp [intOf]
    · go_wp2_with fail
      refine (grow_calls (a.length + b.length) w (by omega)).mono ?_
      rintro e w1 ⟨v1, rfl, ho, hb1⟩
      have HO := hid ho
      have HB1 := hid hb1
      clear ho hb1 c0 c1 hsum hnn
      go_wp2_with fail
      go_loopw [6, 27] (fun v i wr => (i = .int .i64 0 ∧ OwnE intE w.heap.size 3 wr v [] ∧ Below w.heap.size w wr) ∨ (i = .int .i64 1 ∧ OwnE intE w.heap.size 3 wr v a ∧ Below w.heap.size w wr) ∨ (i = .int .i64 2 ∧ OwnE intE w.heap.size 3 wr v (a ++ b) ∧ Below w.heap.size w wr)) (fun _ i _ => 2 - (intOf i).toNat)
      case atStart => exact .inl ⟨rfl, HO.out, HB1.out⟩
      case round =>
        rcases hrel with ⟨rfl, ho, hbl⟩ | ⟨rfl, ho, hbl⟩ | ⟨rfl, ho, hbl⟩
        · obtain ⟨wo, hwo⟩ : ∃ wo, wo = wr := ⟨_, rfl⟩
          subst hwo
          have d0 := (hbl.cell (p := ⟨g, _, none⟩) hg).trans C0.out
          have z0 : g < wo.heap.size := Nat.lt_of_lt_of_le hg hbl.size
          have HO2 := hid ho
          have HBL := hid hbl
          clear ho hbl
          go_wp2_with (at_builtin; refine wpList_append_E intE rfl _ _ 34 rfl w.heap.size lo 3 (.int .i64 0) 8 Try.underlying34 infoI42 rfl [] a HO2.out (HA.out.below HBL.out) (by simp; omega) (by simp [maxLen]; omega) HBL.out.size ?_; intro v2 w2 ho2 hg2; have HO3 := hid ho2; have HB3 := hid (Below.grownE HBL.out HO2.out hg2 HBL.out.size (Nat.le_refl _)); clear ho2 hg2)
          go_roundw
          case rel => exact .inr (.inl ⟨rfl, by simpa using HO3.out, HB3.out⟩)
          case measure => simp [intOf]
        · obtain ⟨wo, hwo⟩ : ∃ wo, wo = wr := ⟨_, rfl⟩
          subst hwo
          have d0 := (hbl.cell (p := ⟨g, _, none⟩) hg).trans C1.out
          have z0 : g < wo.heap.size := Nat.lt_of_lt_of_le hg hbl.size
          have HO2 := hid ho
          have HBL := hid hbl
          clear ho hbl
          go_wp2_with (at_builtin; refine wpList_append_E intE rfl _ _ 34 rfl w.heap.size lo 3 (.int .i64 0) 8 Try.underlying34 infoI42 rfl a b HO2.out (HB.out.below HBL.out) (by omega) (by simp [maxLen]; omega) HBL.out.size ?_; intro v2 w2 ho2 hg2; have HO3 := hid ho2; have HB3 := hid (Below.grownE HBL.out HO2.out hg2 HBL.out.size (Nat.le_refl _)); clear ho2 hg2)
          go_roundw
          case rel => exact .inr (.inr ⟨rfl, HO3.out, HB3.out⟩)
          case measure => simp [intOf]
        · have HO2 := hid ho
          have HBL := hid hbl
          clear ho hbl
          go_wp2_with fail
          go_ret
          exact ⟨_, rfl, HO2.out, HBL.out⟩

set_option maxHeartbeats 1000000 in
theorem lunion_calls (lo1 lo2 : Nat) (va vb : Value) (a b : List Int) (w : World) (ha : IntsAt lo1 w va a) (hb : IntsAt lo2 w vb b) (h1 : a.length ≤ 100000) (h2 : b.length ≤ 100000) :
    Calls Try.prog 28 #[va, vb] w fun e w' => ∃ v', e = .returned v' ∧ IntsAt w.heap.size w' v' (unionL a b) ∧ Below w.heap.size w w' := by
  have HA := hid (ha.mono (Nat.zero_le _))
  have HB := hid (hb.mono (Nat.zero_le _))
  obtain ⟨a1, k1, _, _, rfl, _⟩ := ha.open
  obtain ⟨a2, k2, _, _, rfl, _⟩ := hb.open
  clear ha hb
  go_enter Try.func28, Try.ntmps28
  go_wp2_with fail
  generalize hW : World.alloc _ _ = W
  have hbW : Below w.heap.size w W := by rw [← hW]; exact (Below.refl _ _).alloc (Nat.le_refl _) _
  have c0 : W.cell? ⟨w.heap.size, 0, none⟩ = some (.slice a1 a.length k1) := by rw [← hW]; simp
  have c1 : W.cell? ⟨w.heap.size, 1, none⟩ = some (.slice a2 b.length k2) := by rw [← hW]; simp
  have hg : w.heap.size < W.heap.size := by rw [← hW]; simp
  have HBW := hid hbW
  clear hW hbW
  refine (concat_calls 0 a1 a2 _ _ k1 k2 a b w.heap.size W (HA.out.below HBW.out) (HB.out.below HBW.out) c0 c1 hg h1 h2).mono ?_
  rintro e w1 ⟨v1, rfl, ho, hb1⟩
  have HO := hid (ho.sl (Nat.le_refl _) (by simp; omega))
  have HB1 := hid (bvia HBW.out hb1)
  clear ho hb1 c0 c1 hg
  go_wp2_with fail
  refine (lset_calls W.heap.size v1 (a ++ b) w1 HO.out (by simp; omega)).mono ?_
  rintro e w2 ⟨v2, rfl, hi, hb2⟩
  have HI := hid (hi.mono HB1.out.size)
  have HB2 := hid (bvia HB1.out hb2)
  clear hi hb2
  go_wp2_with fail
  go_ret
  exact ⟨_, rfl, HI.out, HB2.out⟩

def pickL (a b : List Int) (y : Bool) : List Int := a.filter fun x => decide (x ∈ b) == y

set_option maxHeartbeats 1000000 in
theorem search_calls (lo : Nat) (v : Value) (l : List Int) (x : Int) (w : World) (h : IntsAt lo w v l) (hi : Inc l) (hn : l.length ≤ 1000000) :
    Calls Try.prog 56 #[v, .int .i64 x] w fun e w' => ∃ q : Int, e = .returned (.tuple #[.int .i64 q, .bool (decide (x ∈ l))]) ∧ Below w.heap.size w w' := by
  obtain ⟨a, c, b, o, rfl, p1, q1, k1, _, _, m1, n1⟩ := h.open
  rcases Nat.eq_zero_or_pos l.length with h0 | h0
  · have hl : l = [] := List.eq_nil_of_length_eq_zero h0
    subst hl
    refine (Try.slices_BinarySearch_int_empty a c x w).mono ?_
    rintro e w' ⟨rfl, rfl⟩
    exact ⟨0, by simp, Below.refl _ _⟩
  · obtain rfl := p1 h0
    refine (Try.slices_BinarySearch_int b o l.length c l x w (Nat.le_refl _) (by omega) (fun j hj => q1 j hj) (by rw [List.take_length]; exact hi.imp fun h => by omega)).mono ?_
    rintro e w' ⟨rfl, q, rfl⟩
    rw [List.take_length, show l.contains x = decide (x ∈ l) by rw [Bool.eq_iff_iff]; simp]
    exact ⟨_, rfl, bdraw (Below.refl _ _) q⟩

set_option maxHeartbeats 2000000 in
theorem pick_calls (lo1 lo2 : Nat) (va vb : Value) (a b : List Int) (y : Bool) (w : World) (ha : IntsAt lo1 w va a) (hb : IntsAt lo2 w vb b) (hi : Inc b) (h1 : a.length ≤ 100000) (h2 : b.length ≤ 100000) :
    Calls Try.prog 50 #[va, vb, .bool y] w fun e w' => ∃ v', e = .returned v' ∧ IntsAt w.heap.size w' v' (pickL a b y) ∧ Below w.heap.size w w' := by
  obtain ⟨aa, ac, ab, ao, rfl, p1, q1, k1, _, _, m1, n1⟩ := ha.open
  have HQ := hid (And.intro p1 (And.intro q1 k1))
  have HB := hid hb
  have HINC := hid hi
  clear ha hb hi p1 q1 k1
  go_enter Try.func50, Try.ntmps50
  go_wp2_with fail
  go_loopw [7, 14] (fun v i wr => ∃ k : Nat, k ≤ a.length ∧ i = .int .i64 k ∧ OwnE intE w.heap.size 3 wr v (pickL (a.take k) b y) ∧ Below w.heap.size w wr) (fun _ i _ => a.length - (intOf i).toNat)
  case atStart => exact ⟨0, Nat.zero_le _, rfl, OwnE.nil _ _ _ _, Below.refl _ _⟩
  case round =>
    obtain ⟨k, hk, rfl, ho, hbl⟩ := hrel
    obtain ⟨wo, hwo⟩ : ∃ wo, wo = wr := ⟨_, rfl⟩
    subst hwo
    have HO := hid ho
    have HBL := hid hbl
    clear ho hbl
    by_cases hlt : k < a.length
    · have hlt2 : (k : Int) < a.length := Int.ofNat_lt.2 hlt
      obtain ⟨p1, q1, k1⟩ := HQ.out
      have e1 := p1 (by omega)
      subst e1
      have d0 := (HBL.out.cell (p := ⟨ab, _, none⟩) (k1 (by omega))).trans (q1 k hlt)
      have z0 : ab < wo.heap.size := Nat.lt_of_lt_of_le (k1 (by omega)) HBL.out.size
      obtain ⟨x, hx⟩ : ∃ x, nth a k = x := ⟨_, rfl⟩
      have HS := hid (show pickL (a.take (k + 1)) b y = pickL (a.take k) b y ++ if decide (x ∈ b) == y then [x] else [] by
        unfold pickL
        rw [List.take_add_one, List.getElem?_eq_getElem hlt, List.filter_append, ← nth_eq _ _ hlt, hx]
        congr 1
        cases hd : (decide (x ∈ b) == y) <;> simp [hd])
      have HLE := hid (show (pickL (a.take k) b y).length ≤ k from Nat.le_trans (List.length_filter_le _ _) (by rw [List.length_take]; omega))
      rw [hx] at d0
      clear p1 q1 k1 hx
      have hle1 : (pickL (a.take k) b y).length ≤ k := HLE.out
      cases hd : (decide (x ∈ b) == y) with
      | true =>
        have HD := hid hd
        go_wp2_with (first
          | (go_at_call 56
             refine (search_calls lo2 vb b x _ (HB.out.below HBL.out) HINC.out (by omega)).mono ?_
             rintro e w2 ⟨q, rfl, hb2⟩
             have HB2 := hid (bvia HBL.out hb2)
             have HO2 := hid (show OwnE intE w.heap.size 3 w2 _ _ from HO.out.ofBlock fun j hj => hb2.block j (HO.out.lt j hj).2)
             clear hb2)
          | (at_builtin
             refine wpList_append_E intE rfl _ _ 34 rfl w.heap.size 0 3 (.int .i64 0) 8 Try.underlying34 infoI42 rfl (pickL (a.take k) b y) [x] (HO2.out.alloc _) (OwnE.sl (OwnE.lit intE _ 0 3 [x] _ _ 1 rfl (Nat.zero_le _) rfl rfl (by simp)) (Nat.le_refl _) (by simp)) (by simp; omega) (by simp [maxLen]; omega) (by have := HB2.out.size; simp; omega) ?_
             intro v3 w3 ho3 hg3
             have HO3 := hid ho3
             have HB3 := hid (Below.grownE (bone HB2.out _) (HO2.out.alloc _) hg3 (by have := HB2.out.size; simp; omega) (Nat.le_refl _))
             clear ho3 hg3))
        go_roundw
        case rel => exact ⟨k + 1, by omega, by go_num, by rw [HS.out, HD.out]; exact HO3.out, HB3.out⟩
        case measure => simp [intOf] <;> omega
      | false =>
        have HD := hid hd
        go_wp2_with (
          go_at_call 56
          refine (search_calls lo2 vb b x _ (HB.out.below HBL.out) HINC.out (by omega)).mono ?_
          rintro e w2 ⟨q, rfl, hb2⟩
          have HB2 := hid (bvia HBL.out hb2)
          have HO2 := hid (show OwnE intE w.heap.size 3 w2 _ _ from HO.out.ofBlock fun j hj => hb2.block j (HO.out.lt j hj).2)
          clear hb2)
        go_roundw
        case rel => exact ⟨k + 1, by omega, by go_num, by rw [HS.out, HD.out]; simpa using HO2.out, HB2.out⟩
        case measure => simp [intOf] <;> omega
    · have HK := hid (show k = a.length by omega)
      go_wp2_with fail
      go_ret
      refine ⟨_, rfl, ?_, HBL.out⟩
      have := HO.out.sl (Nat.le_refl _) (by have := List.length_filter_le (fun x => decide (x ∈ b) == y) (a.take k); unfold pickL; simp at this; omega)
      rw [HK.out, List.take_length] at this
      exact this

end Go.Proofs.Ytnbffkcnhphdnaa
