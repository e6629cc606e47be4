/-
  Package ref's May and Must, walked.
-/
import Derived.Deep.LoopGhost
import Derived.Test.YtnbffkcnhphdnaaZMayStep42
import Derived.Test.YtnbffkcnhphdnaaZMustStep42
import Derived.Test.YtnbffkcnhphdnaaZMustW42
namespace Go.Proofs.Ytnbffkcnhphdnaa
set_option linter.unusedVariables false
set_option linter.unusedSimpArgs false
open Go.RowKit

set_option maxRecDepth 100000 in
set_option maxHeartbeats 4000000 in
theorem rmay_calls (lo1 lo2 : Nat) (ve vs : Value) (n : Nat) (E : List Edg) (S : List (List Int)) (U : List Int) (w : World) (hE : EdgesAt lo1 w ve E) (hS : LaysAt lo2 w vs S) (hg : GOk n E S U) (hn : 1 ≤ n) :
    Calls Try.prog 16 #[.int .i64 n, ve, vs] w fun e w' => ∃ v X, e = .returned v ∧ IsMay n E S X ∧ LaysAt 0 w' v X ∧ Below w.heap.size w w' := by
  have HE := hid hE
  have HS := hid hS
  have HG := hid hg
  have hn2 := hg.n
  have hlt1 : ¬ (n : Int) < 1 := by omega
  have hlt2 : ¬ 100000 < (n : Int) := by omega
  have hmk := run_make_row' (P := Try.prog) 23 34 (.slice none 0 0) 24 Try.underlying23 infoRow42 rfl .i64 .i64 n (by omega) (by omega)
  clear hE hS hg
  go_enter Try.func16, Try.ntmps16
  go_wp2_with fail
  generalize hW : World.alloc _ _ = W
  have hv := show VAt w.heap.size W (.slice (some ⟨w.heap.size, 0, none⟩) n n) (List.replicate n ⟨none, 0, 0⟩) (List.replicate n []) by rw [← hW]; exact VAt.made w n hn2
  have HV := hid hv
  have HBW := hid (show Below w.heap.size w W by rw [← hW]; exact (Below.refl _ _).alloc (Nat.le_refl _) _)
  clear hW hv hmk
  go_loopg [7] (n * U.length + 1) (fun gk lv wr => ∃ (k g : Nat) (ss : List Slc), lv = .slice (some ⟨g, 0, none⟩) n n ∧ VAt w.heap.size wr (.slice (some ⟨g, 0, none⟩) n n) ss (mayIter n E S k) ∧ Below w.heap.size w wr ∧ n * U.length - totV (mayIter n E S k) < gk)
  case atStart => exact ⟨0, w.heap.size, _, rfl, HV.out, HBW.out, by omega⟩
  case round =>
    clear HV HBW
    obtain ⟨k, g, ss, rfl, hv, hbl, hgk⟩ := hrel
    obtain ⟨wo, hwo⟩ : ∃ wo, wo = wr := ⟨_, rfl⟩
    subst hwo
    have HBL := hid hbl
    have HGK := hid hgk
    have HL := hid (show LaysAt 0 wo (.slice (some ⟨g, 0, none⟩) n n) (mayIter n E S k) from hv.lays (by rw [mayIter_len]; omega))
    clear hv hbl hgk
    have HSAME := hid (Classical.em (mayIter n E S k = mayIter n E S (k + 1)))
    rcases HSAME.out with he | he
    all_goals
      first
        | (have hd : decide (mayIter n E S k = mayIter n E S (k + 1)) = true := decide_eq_true he)
        | (have hd : decide (mayIter n E S k = mayIter n E S (k + 1)) = false := decide_eq_false he)
      have HEQ := hid he
      have HD := hid hd
      clear he hd HSAME
      go_wp2_with (first
        | (go_at_call 19
           refine (rmaystep_calls lo1 lo2 0 ve vs _ n E S (mayIter n E S k) U wo (HE.out.below HBL.out) HG.out.e (HS.out.keep (Keep.below HBL.out)) HL.out (mayIter_len n E S k) hn2 (by have := HG.out.u; omega) HG.out.s HG.out.g (mayIter_inc n E S k) (mayIter_in HG.out k)).mono ?_
           rintro e w1 ⟨g1, s1, rfl, hv1, hb1⟩
           have HV1 := hid (show VAt w.heap.size w1 (.slice (some ⟨g1, 0, none⟩) n n) s1 (mayIter n E S (k + 1)) from ⟨hv1.len, hv1.own.mono HBL.out.size, hv1.row, hv1.ne⟩)
           have HB1 := hid (bvia HBL.out hb1)
           have HL1 := hid (HL.out.keep (Keep.below hb1))
           clear hv1 hb1)
        | (go_at_call 15
           refine (sameall_calls 0 0 _ _ (mayIter n E S k) (mayIter n E S (k + 1)) w1 HL1.out (HV1.out.lays (by rw [mayIter_len]; omega))).mono ?_
           rintro e w2 ⟨rfl, hb2⟩
           rw [HD.out]
           have HB2 := hid (bvia HB1.out hb2)
           have HV2 := hid (HV1.out.below hb2)
           have HL2 := hid (HL1.out.keep (Keep.below hb2))
           clear hb2))
    · go_ret
      exact ⟨_, mayIter n E S k, rfl, ⟨⟨k, rfl⟩, HEQ.out.symm⟩, HL2.out, HB2.out⟩
    · go_roundg (n * U.length - totV (mayIter n E S k))
      case measure => exact HGK.out
      case rel =>
        refine ⟨k + 1, g1, s1, rfl, HV2.out, HB2.out, ?_⟩
        have h1 := may_grows k HEQ.out
        have h2 := may_max HG.out (k + 1)
        omega

theorem repl_set {α : Type} [Inhabited α] (a b : α) (n k : Nat) (h : k < n) : (List.replicate k a ++ List.replicate (n - k) b).set k a = List.replicate (k + 1) a ++ List.replicate (n - (k + 1)) b := by
  rw [List.set_append_right _ _ (by simp)]
  rw [List.length_replicate, Nat.sub_self, show n - k = (n - (k + 1)) + 1 by omega, List.replicate_succ, List.set_cons_zero, List.replicate_succ', List.append_assoc]
  rfl

set_option maxRecDepth 100000 in
set_option maxHeartbeats 4000000 in
theorem rmust_calls (lo1 lo2 lo4 : Nat) (ve vs va : Value) (n : Nat) (E : List Edg) (S : List (List Int)) (all U : List Int) (w : World) (hE : EdgesAt lo1 w ve E) (hS : LaysAt lo2 w vs S) (ha : IntsAt lo4 w va all) (hg : GOk n E S U) (haU : ∀ r ∈ all, r ∈ U) (hal : all.length ≤ 10000) (hn : 1 ≤ n) :
    Calls Try.prog 18 #[.int .i64 n, ve, vs, va] w fun e w' => ∃ v X, e = .returned v ∧ IsMust n E S all X ∧ LaysAt 0 w' v X ∧ Below w.heap.size w w' := by
  have HE := hid hE
  have HS := hid hS
  have HG := hid hg
  have HA := hid ha
  have HAU := hid haU
  have hn2 := hg.n
  have hlt1 : ¬ (n : Int) < 1 := by omega
  have hlt2 : ¬ 100000 < (n : Int) := by omega
  have hmk := run_make_row' (P := Try.prog) 23 34 (.slice none 0 0) 24 Try.underlying23 infoRow42 rfl .i64 .i64 n (by omega) (by omega)
  clear hE hS hg ha haU
  go_enter Try.func18, Try.ntmps18
  go_wp2_with fail
  generalize hW : World.alloc _ _ = W
  have hv := show VAt w.heap.size W (.slice (some ⟨w.heap.size, 0, none⟩) n n) (List.replicate n ⟨none, 0, 0⟩) (List.replicate n []) by rw [← hW]; exact VAt.made w n hn2
  have HV := hid hv
  have HBW := hid (show Below w.heap.size w W by rw [← hW]; exact (Below.refl _ _).alloc (Nat.le_refl _) _)
  clear hW hv hmk
  go_loopw [10] (fun i wr => ∃ (k : Nat) (ss : List Slc), k ≤ n ∧ i = .int .i64 k ∧ VAt w.heap.size wr (.slice (some ⟨w.heap.size, 0, none⟩) n n) ss (List.replicate k (setL all) ++ List.replicate (n - k) []) ∧ Below w.heap.size w wr) (fun i _ => n - (intOf i).toNat)
  case atStart => exact ⟨0, _, Nat.zero_le _, rfl, HV.out, HBW.out⟩
  case round =>
    clear HV HBW
    obtain ⟨k, ss, hk, rfl, hv, hbl⟩ := hrel
    obtain ⟨wo, hwo⟩ : ∃ wo, wo = wr := ⟨_, rfl⟩
    subst hwo
    have HVO := hid hv
    have HBL := hid hbl
    have zg : w.heap.size < wo.heap.size := (hv.own.lt _ rfl).2
    have zf := hv.frozen k
    have HLN := hid (show (List.replicate k (setL all) ++ List.replicate (n - k) []).length = n by simp; omega)
    clear hv hbl
    by_cases hlt : k < n
    · have hlt3 : (k : Int) < n := Int.ofNat_lt.2 hlt
      go_wp2_with (
        go_at_call 20
        refine (rset_calls lo4 va all _ (HA.out.below HBL.out) (by omega)).mono ?_
        rintro e w3 ⟨v3, rfl, hi3, hb3⟩
        obtain ⟨a3, c3, _, _, rfl, _⟩ := IntsAt.open hi3
        have HI3 := hid hi3
        have HB3 := hid (bvia HBL.out hb3)
        have HV3 := hid (HVO.out.below hb3)
        have zg3 : w.heap.size < w3.heap.size := Nat.lt_of_lt_of_le zg hb3.size
        have zf3 := HV3.out.frozen k
        have d3 := HV3.out.cell k (by rw [HLN.out]; exact hlt)
        clear hi3 hb3)
      have hput := HV3.out.put k ⟨a3, (setL all).length, c3⟩ (setL all) (by rw [HLN.out]; exact hlt) HI3.out (fun h0 q hq => by have := (HI3.out.blk h0 q hq).1; omega)
      rw [repl_set _ _ _ _ hlt] at hput
      exact ⟨⟨k + 1, _, by omega, by go_num, hput, HB3.out.setCell (Nat.le_refl _) _⟩, by simp [intOf] <;> omega⟩
    · have HV3 := hid (show VAt w.heap.size wo (.slice (some ⟨w.heap.size, 0, none⟩) n n) ss (mustIter n E S all 0) by
        have e : k = n := by omega
        have h := HVO.out
        rw [e, Nat.sub_self, List.replicate_zero, List.append_nil] at h
        exact h)
      go_wp2_with fail
      clear HVO HLN zg zf hlt
      go_loopg [9] (totV (mustIter n E S all 0) + 1) (fun gk lv wr => ∃ (k g : Nat) (ss : List Slc), lv = .slice (some ⟨g, 0, none⟩) n n ∧ VAt w.heap.size wr (.slice (some ⟨g, 0, none⟩) n n) ss (mustIter n E S all k) ∧ Below w.heap.size w wr ∧ totV (mustIter n E S all k) < gk)
      case atStart => exact ⟨0, w.heap.size, _, rfl, HV3.out, HBL.out, by omega⟩
      case round =>
        clear HV3 HBL
        obtain ⟨j, g, ss, rfl, hv, hbl, hgk⟩ := hrel
        obtain ⟨wi, hwi⟩ : ∃ wi, wi = wr := ⟨_, rfl⟩
        subst hwi
        have HBL := hid hbl
        have HGK := hid hgk
        have HL := hid (show LaysAt 0 wi (.slice (some ⟨g, 0, none⟩) n n) (mustIter n E S all j) from hv.lays (by rw [mustIter_len]; omega))
        clear hv hbl hgk
        have HSAME := hid (Classical.em (mustIter n E S all j = mustIter n E S all (j + 1)))
        rcases HSAME.out with he | he
        all_goals
          first
            | (have hd : decide (mustIter n E S all j = mustIter n E S all (j + 1)) = true := decide_eq_true he)
            | (have hd : decide (mustIter n E S all j = mustIter n E S all (j + 1)) = false := decide_eq_false he)
          have HEQ := hid he
          have HD := hid hd
          clear he hd HSAME
          go_wp2_with (first
            | (go_at_call 23
               refine (rmuststep_calls lo1 lo2 0 lo4 ve vs va _ n E S (mustIter n E S all j) all U wi (HE.out.below HBL.out) HG.out.e (HS.out.keep (Keep.below HBL.out)) HL.out (HA.out.below HBL.out) hal (mustIter_len n E S all j) hn2 (by have := HG.out.u; omega) HAU.out HG.out.g (mustIter_inc n E S all j) (fun i r hr => HAU.out r (mustIter_in n E S all j i r hr))).mono ?_
               rintro e w1 ⟨g1, s1, rfl, hv1, hb1⟩
               have HV1 := hid (show VAt w.heap.size w1 (.slice (some ⟨g1, 0, none⟩) n n) s1 (mustIter n E S all (j + 1)) from ⟨hv1.len, hv1.own.mono HBL.out.size, hv1.row, hv1.ne⟩)
               have HB1 := hid (bvia HBL.out hb1)
               have HL1 := hid (HL.out.keep (Keep.below hb1))
               clear hv1 hb1)
            | (go_at_call 15
               refine (sameall_calls 0 0 _ _ (mustIter n E S all j) (mustIter n E S all (j + 1)) w1 HL1.out (HV1.out.lays (by rw [mustIter_len]; omega))).mono ?_
               rintro e w2 ⟨rfl, hb2⟩
               rw [HD.out]
               have HB2 := hid (bvia HB1.out hb2)
               have HV2 := hid (HV1.out.below hb2)
               have HL2 := hid (HL1.out.keep (Keep.below hb2))
               clear hb2))
        · go_ret
          exact ⟨_, mustIter n E S all j, rfl, ⟨⟨j, rfl⟩, HEQ.out.symm⟩, HL2.out, HB2.out⟩
        · go_roundg (totV (mustIter n E S all j))
          case measure => exact HGK.out
          case rel =>
            refine ⟨j + 1, g1, s1, rfl, HV2.out, HB2.out, ?_⟩
            exact must_shrinks j HEQ.out

end Go.Proofs.Ytnbffkcnhphdnaa
