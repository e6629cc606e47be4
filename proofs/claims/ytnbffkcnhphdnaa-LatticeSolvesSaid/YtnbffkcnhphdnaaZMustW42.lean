/-
  Package lattice's Must, walked.
-/
import Derived.Test.YtnbffkcnhphdnaaZMayW42
namespace Go.Proofs.Ytnbffkcnhphdnaa
set_option linter.unusedVariables false
set_option linter.unusedSimpArgs false
open Go.RowKit

theorem first_must (S : List (List Int)) (all : List Int) (i : Nat) : meetL (sets0 S (setL all) i) (setL all) = must0 S all i := by
  unfold sets0 must0
  split
  · refine inc_ext _ _ (meetL_inc _ (setL_inc _)) (meetL_inc _ (setL_inc _)) fun x => ?_
    rw [meetL_mem, meetL_mem, setL_mem, setL_mem]
    exact And.comm
  · refine inc_ext _ _ (meetL_inc _ (setL_inc _)) (setL_inc _) fun x => ?_
    rw [meetL_mem]
    exact ⟨fun h => h.1, fun h => ⟨h, h⟩⟩

theorem mix_set {α : Type} [Inhabited α] (f g : Nat → α) (n k : Nat) (h : k < n) : ((List.range n).map fun i => if i < k then f i else g i).set k (f k) = (List.range n).map fun i => if i < k + 1 then f i else g i := by
  refine ext_nth _ _ (by simp) fun i hi => ?_
  have hi' : i < n := by simpa using hi
  rw [nth_setV _ _ _ _ (by simpa using h), nth_rmap _ _ _ hi', nth_rmap _ _ _ hi']
  by_cases e : k = i
  · subst e
    rw [if_pos rfl, if_pos (by omega)]
  · rw [if_neg e]
    by_cases e2 : i < k
    · rw [if_pos e2, if_pos (by omega)]
    · rw [if_neg e2, if_neg (by omega)]

set_option maxRecDepth 100000 in
set_option maxHeartbeats 8000000 in
theorem must_calls (lo1 lo2 lo4 : Nat) (ve vs va : Value) (n : Nat) (E : List Edg) (S : List (List Int)) (all U : List Int) (w : World) (hE : EdgesAt lo1 w ve E) (hS : LaysAt lo2 w vs S) (ha : IntsAt lo4 w va all) (hg : GOk n E S U) (haU : ∀ r ∈ all, r ∈ U) (hal : all.length ≤ 10000) (hn : 1 ≤ n) :
    Calls Try.prog 17 #[.int .i64 n, ve, vs, va] w fun e w' => ∃ v X, e = .returned v ∧ IsMust n E S all X ∧ LaysAt 0 w' v X ∧ Below w.heap.size w w' := by
  have HE := hid hE
  have HS := hid hS
  have HA := hid ha
  have HG := hid hg
  have HAU := hid haU
  have hn2 := hg.n
  have hul := hg.u
  have hel := hg.e.1
  obtain ⟨ea, ec, _, _, _, _, rfl, hz⟩ := hE.open
  have hlt1 : ¬ (n : Int) < 1 := by omega
  have hlt2 : ¬ 100000 < (n : Int) := by omega
  have hsal := setL_length all
  have HNU := hid (show (setL all).length ≤ 500 from Nat.le_trans (inc_sub_len (U := U) (setL_inc all) fun r hr => haU r ((setL_mem all r).1 hr)) hul)
  clear hE hS hg hz ha haU
  go_enter Try.func17, Try.ntmps17
  go_wp2_with (first
    | (go_at_call 27
       have hb0 : Below w.heap.size w (w.alloc (.cells #[.slice ea E.length ec] 29)) := (Below.refl _ _).alloc (Nat.le_refl _) _
       refine (lset_calls lo4 va all _ (HA.out.below hb0) (by omega)).mono ?_
       rintro e w1 ⟨v1, rfl, h1, hb1⟩
       have HI1 := hid h1
       have HB1 := hid (bvia hb0 hb1)
       have HC1 := hid (show w1.cell? ⟨w.heap.size, 0, none⟩ = some (.slice ea E.length ec) from (hb1.cell (p := ⟨w.heap.size, 0, none⟩) (by simp)).trans (by simp))
       have HZ1 := hid (show w.heap.size < w1.heap.size by have := hb1.size; simp at this; omega)
       clear h1 hb1 hb0)
    | (go_at_call 38
       refine (sets_calls lo2 _ vs v1 n S (setL all) w1 (HS.out.keep (Keep.below HB1.out)) HI1.out hn2 (by omega) (fun i hi => by have := (HG.out.s i hi).1; omega)).mono ?_
       rintro e w2 ⟨g, ss, rfl, hv, hb2⟩
       have HV := hid hv
       have HB2 := hid (bvia HB1.out hb2)
       have HBb := hid hb2
       have HI2 := hid (HI1.out.below hb2)
       have HC2 := hid ((hb2.cell (p := ⟨w.heap.size, 0, none⟩) HZ1.out).trans HC1.out)
       have HZ2 := hid (Nat.lt_of_lt_of_le HZ1.out hb2.size)
       have HGB := hid (hv.own.lt _ rfl)
       clear hv hb2))
  go_loopw [26] (fun i wr => ∃ (k : Nat) (ss : List Slc), k ≤ n ∧ i = .int .i64 k ∧ VAt w1.heap.size wr (.slice (some ⟨g, 0, none⟩) n n) ss ((List.range n).map fun i => if i < k then must0 S all i else sets0 S (setL all) i) ∧ Below w1.heap.size w1 wr) (fun i _ => n - (intOf i).toNat)
  case atStart => exact ⟨0, ss, Nat.zero_le _, rfl, HV.out, HBb.out⟩
  case round =>
    clear HV HB2 HI2 HC2 HZ2
    obtain ⟨k, ss, hk, rfl, hv, hbl⟩ := hrel
    obtain ⟨wo, hwo⟩ : ∃ wo, wo = wr := ⟨_, rfl⟩
    subst hwo
    have HVO := hid hv
    have HBL := hid hbl
    have zg : g < wo.heap.size := (hv.own.lt _ rfl).2
    have zf := hv.frozen k
    have HLN := hid (show ((List.range n).map fun i => if i < k then must0 S all i else sets0 S (setL all) i).length = n by simp)
    clear hv hbl
    by_cases hlt : k < n
    · have hlt3 : (k : Int) < n := Int.ofNat_lt.2 hlt
      have hnk : nth ((List.range n).map fun i => if i < k then must0 S all i else sets0 S (setL all) i) k = sets0 S (setL all) k := by rw [nth_rmap _ _ _ hlt, if_neg (by omega)]
      have d0 := HVO.out.cell k (by rw [HLN.out]; exact hlt)
      have HVC := hid (HVO.out.ints k (by rw [HLN.out]; exact hlt))
      rw [hnk] at d0 HVC
      have HM := hid (first_must S all k)
      have HMS := hid (mix_set (must0 S all) (sets0 S (setL all)) n k hlt)
      have HSL := hid (show (sets0 S (setL all) k).length ≤ 100000 by
        unfold sets0
        split
        · rename_i hs
          have h1 := setL_length (nth S k)
          have := (HG.out.s k hs).1
          omega
        · have := HNU.out; omega)
      obtain ⟨T0, hT⟩ : ∃ T0, sets0 S (setL all) k = T0 := ⟨_, rfl⟩
      rw [hT] at d0 HVC HM HSL
      clear hnk hT
      go_wp2_with (
        go_at_call 30
        refine (lmeet_calls 0 _ _ v1 T0 (setL all) _ HVC.out (HI1.out.below HBL.out) (setL_inc _) HSL.out (by have := HNU.out; omega)).mono ?_
        rintro e w3 ⟨v3, rfl, hi3, hb3⟩
        obtain ⟨a3, c3, _, _, rfl, _⟩ := IntsAt.open hi3
        have HI3 := hid hi3
        have HB3 := hid (bvia HBL.out hb3)
        have HV3 := hid (HVO.out.below hb3)
        have zg3 : g < w3.heap.size := Nat.lt_of_lt_of_le zg hb3.size
        have zf3 := HV3.out.frozen k
        have d3 := HV3.out.cell k (by rw [HLN.out]; exact hlt)
        clear hi3 hb3)
      have hput := HV3.out.put k ⟨a3, (meetL T0 (setL all)).length, c3⟩ (meetL T0 (setL all)) (by rw [HLN.out]; exact hlt) HI3.out (fun h0 q hq => by have := (HI3.out.blk h0 q hq).1; omega)
      refine ⟨⟨k + 1, ss.set k ⟨a3, (meetL T0 (setL all)).length, c3⟩, by omega, by go_num, ?_, HB3.out.setCell (HGB.out).1 _⟩, by simp [intOf] <;> omega⟩
      rw [← HMS.out, ← HM.out]
      exact hput
    · have HK := hid (show k = n by omega)
      have HL := hid (show LaysAt 0 wo (.slice (some ⟨g, 0, none⟩) n n) ((List.range n).map (must0 S all)) by
        have h := HVO.out.lays (by rw [HLN.out]; omega)
        rw [HK.out] at h
        have e : ((List.range n).map fun i => if i < n then must0 S all i else sets0 S (setL all) i) = (List.range n).map (must0 S all) := List.map_congr_left fun i hi => by rw [if_pos (by simpa using hi)]
        rw [e] at h
        exact h)
      have HBO := hid (bvia HB1.out HBL.out)
      have c3 := (HBL.out.cell (p := ⟨w.heap.size, _, none⟩) HZ1.out).trans HC1.out
      have z3 : w.heap.size < wo.heap.size := Nat.lt_of_lt_of_le HZ1.out HBL.out.size
      have HC3 := hid c3
      go_wp2_with (
        go_at_call 37
        refine (solve_calls 30 42 lo1 w.heap.size n _ _ E meetL (fun i x => thru (nth E i) x) (OkU U) ((List.range n).map (must0 S all)) totV _ enters30 enters42 (HE.out.below HBO.out) HL.out (must_alg HG.out HAU.out) (by omega) hn2 hel (fun a ha => Nat.le_trans (inc_sub_len ha.1 ha.2) (by omega)) (by
          have h1 := totV_le (s := (List.range n).map (must0 S all)) (n := n) (m := 500) (by simp) fun i hi => by
            rw [nth_rmap _ _ _ hi]
            exact Nat.le_trans (inc_sub_len (U := U) (must0_inc S all i) fun r hr => by
              unfold must0 at hr
              split at hr
              · rw [meetL_mem, setL_mem] at hr; exact HAU.out r hr.1
              · rw [setL_mem] at hr; exact HAU.out r hr) hul
          have : n * 500 ≤ 1000 * 500 := Nat.mul_le_mul hn2 (Nat.le_refl _)
          omega) (fun a b va vb w' ha hb hia hib hbl => ?_) (fun i x vx w' hi hx hix hbl => ?_)).mono ?_
        · exact lmeet_calls 0 0 va vb a b w' hia hib hb.1 (Nat.le_trans (inc_sub_len ha.1 ha.2) (by omega)) (Nat.le_trans (inc_sub_len hb.1 hb.2) (by omega))
        · exact must1_calls lo1 0 _ vx w.heap.size i E x w' (HE.out.below (bvia HBO.out hbl)) HG.out.e ((hbl.cell (p := ⟨w.heap.size, _, none⟩) z3).trans HC3.out) hix hi (Nat.le_trans (inc_sub_len hx.1 hx.2) (by omega))
        rintro e w9 ⟨v9, V, rfl, hV, hst, hcl, hb9⟩
        have HV9 := hid hV
        have HX := hid (show ∃ X, IsMust n E S all X ∧ V = X by
          obtain ⟨X, hX⟩ := must_exists n E S all
          exact ⟨X, hX, must_solved hX hst hcl⟩)
        have HB9 := hid (bvia HBO.out hb9)
        clear hV hst hcl hb9)
      go_ret
      obtain ⟨X, hX, e⟩ := HX.out
      subst e
      exact ⟨_, V, rfl, hX, HV9.out, HB9.out⟩

set_option maxHeartbeats 1000000 in
theorem must_no (x : Int) (va : Option Addr) (vn vc : Nat) (vs vl : Value) (w : World) (h : x < 1) :
    Calls Try.prog 17 #[.int .i64 x, .slice va vn vc, vs, vl] w fun e w' => e = .returned (.slice none 0 0) ∧ Below w.heap.size w w' := by
  go_enter Try.func17, Try.ntmps17
  go_wp2_with fail
  go_ret
  exact ⟨rfl, (Below.refl _ _).alloc (Nat.le_refl _) _⟩

end Go.Proofs.Ytnbffkcnhphdnaa
