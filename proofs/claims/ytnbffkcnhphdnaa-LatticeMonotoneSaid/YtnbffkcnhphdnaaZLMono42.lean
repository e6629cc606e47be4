/-
  The law LatticeMonotone, walked.
-/
import Derived.Test.YtnbffkcnhphdnaaZLLeast42
import Derived.Test.YtnbffkcnhphdnaaZLMust42
namespace Go.Proofs.Ytnbffkcnhphdnaa
set_option linter.unusedVariables false
set_option linter.unusedSimpArgs false
open Go.RowKit

theorem may_more {n : Nat} {E E' : List Edg} {S X X' : List (List Int)} (he : ∀ e ∈ E, e ∈ E') (h : IsMay n E S X) (h' : IsMay n E' S X') : SubV X X' := by
  refine h.least ?_
  intro i r hr
  rw [← h'.2]
  rw [mayStep_nth] at hr ⊢
  split
  · rename_i hi
    rw [if_pos hi] at hr
    unfold mayAt at *
    rw [mayFold_mem] at *
    exact hr.imp id fun ⟨e, h1, h2⟩ => ⟨e, he e h1, h2⟩
  · rename_i hi
    rw [if_neg hi] at hr
    cases hr
theorem must_more {n : Nat} {E E' : List Edg} {S X X' : List (List Int)} {all : List Int} (he : ∀ e ∈ E, e ∈ E') (h : IsMust n E S all X) (h' : IsMust n E' S all X') : SubV X' X := by
  refine h.greatest ?_
  intro i r hr
  rw [← h'.2] at hr
  rw [mustStep_nth] at hr ⊢
  split
  · rename_i hi
    rw [if_pos hi] at hr
    unfold mustAt at *
    rw [mustFold_mem] at *
    exact ⟨hr.1, fun e h1 h2 => hr.2 e (he e h1) h2⟩
  · rename_i hi
    rw [if_neg hi] at hr
    cases hr
theorem may_order {n : Nat} {E E' : List Edg} {S X X' : List (List Int)} (he : ∀ e, e ∈ E ↔ e ∈ E') (h : IsMay n E S X) (h' : IsMay n E' S X') : X = X' :=
  SubV.antisymm (by rw [h.len, h'.len]) h.inc h'.inc (may_more (fun e => (he e).1) h h') (may_more (fun e => (he e).2) h' h)
theorem must_order {n : Nat} {E E' : List Edg} {S X X' : List (List Int)} {all : List Int} (he : ∀ e, e ∈ E ↔ e ∈ E') (h : IsMust n E S all X) (h' : IsMust n E' S all X') : X = X' :=
  SubV.antisymm (by rw [h.len, h'.len]) h.inc h'.inc (must_more (fun e => (he e).2) h' h) (must_more (fun e => (he e).1) h h')

theorem nth_of_mem {α : Type} [Inhabited α] {l : List α} {x : α} (h : x ∈ l) : ∃ i, i < l.length ∧ nth l i = x := by
  obtain ⟨i, hi, e⟩ := List.getElem_of_mem h
  exact ⟨i, hi, by rw [nth_eq _ _ hi]; exact e⟩
/-- A small graph with one edge more, in any order. -/
theorem gokM_of {N : Nat} {E T : List Edg} {S : List (List Int)} {x : Edg} (all : List Int) (ha : all.length ≤ 8) (h : FewP N E S) (hT : T.length = E.length + 1) (hm : ∀ e ∈ T, e ∈ E ∨ e = x) (hk : x.kill.length ≤ 6) (hg : x.gen.length ≤ 6) : GOk N T S (allU T S all) ∧ (∀ r ∈ all, r ∈ allU T S all) := by
  obtain ⟨h1, h2, h3, h4, h5⟩ := h
  have h4' : ∀ i, i < T.length → (nth T i).kill.length ≤ 6 ∧ (nth T i).gen.length ≤ 6 := fun i hi => by
    rcases hm _ (nth_mem T i hi) with h | h
    · obtain ⟨j, hj, e⟩ := nth_of_mem h
      rw [← e]
      exact h4 j hj
    · rw [h]; exact ⟨hk, hg⟩
  have e1 := flat_le id 6 S fun i hi => h5 i hi
  have e2 := flat_le Edg.gen 6 T fun i hi => (h4' i hi).2
  refine ⟨⟨by omega, ⟨by omega, fun i hi => ⟨by have := (h4' i hi).1; omega, by have := (h4' i hi).2; omega⟩⟩, ?_, fun i hi => ⟨by have := h5 i hi; omega, fun r hr => ?_⟩, fun i hi r hr => ?_⟩, fun r hr => ?_⟩
  · unfold allU
    rw [List.length_append, List.length_append]
    omega
  · exact List.mem_append.2 (.inl (mem_flat id S i hi r hr))
  · exact List.mem_append.2 (.inr (List.mem_append.2 (.inl (mem_flat Edg.gen T i hi r hr))))
  · exact List.mem_append.2 (.inr (List.mem_append.2 (.inr hr)))
theorem SlE.len' {α : Type} [Inhabited α] {E : Enc α} {lo : Nat} {w : World} {a : Option Addr} {n c : Nat} {l : List α} (h : SlE E lo w (.slice a n c) l) : n = l.length := SlE.len (s := ⟨a, n, c⟩) h

theorem drop_revV {α : Type} [Inhabited α] (m : List α) (t : Nat) (h : t < m.length) : (m.drop t).reverse = (m.drop (t + 1)).reverse ++ [nth m t] := by
  rw [List.drop_eq_getElem_cons h, List.reverse_cons, nth_eq _ _ h]
theorem edges_of {lo : Nat} {w : World} {v : Value} {mm : List (Edg × Slc × Slc)} (h : SlE edgE lo w v mm) (hm : ∀ y ∈ mm, IntsAt lo w y.2.1.val y.1.kill ∧ IntsAt lo w y.2.2.val y.1.gen) : EdgesAt lo w v (mm.map Prod.fst) := ⟨mm, rfl, h, fun i hi => hm _ (nth_mem mm i hi)⟩

noncomputable def planLMo14 : Plan := mkPlan (regionOf Try.f7 14) [(0, .new), (2, .upd 0), (4, .new), (5, .upd 2)] [(0, 2), (2, 5)]
noncomputable def planLMo24 : Plan := mkPlan (regionOf Try.f7 24) [(8, .new), (19, .new)] []

set_option maxRecDepth 100000 in
set_option maxHeartbeats 8000000 in
theorem lmono_no (lo1 lo2 : Nat) (ve vs : Value) (N : Nat) (E : List Edg) (S : List (List Int)) (lo5 lo6 : Nat) (x : Edg) (K G : Slc) (lo4 : Nat) (va : Value) (all : List Int) (w : World) (hN : N < 256) (hE0 : EdgesAt lo1 w ve E) (hS0 : LaysAt lo2 w vs S) (hK0 : IntsAt lo5 w K.val x.kill) (hG0 : IntsAt lo5 w G.val x.gen) (ha0 : IntsAt lo4 w va all) (hcase : N = 0 ∨ 8 < all.length ∨ 6 < K.n ∨ 6 < G.n) :
    Calls Try.prog 7 #[.agg #[.int .u8 (N : Nat), ve, vs], .agg #[.int .i64 x.src, .int .i64 x.dst, .slice K.a K.n K.c, .slice G.a G.n G.c], va] w fun e w' => e = .returned (.bool true) ∧ Below w.heap.size w w' := by
  have HE := hid hE0
  have HS := hid hS0
  have HA := hid ha0
  have HK := hid hK0
  have HG := hid hG0
  have HKN := hid (SlE.len hK0)
  have HGN := hid (SlE.len hG0)
  obtain ⟨aa, ac, ab, ao, rfl, _, _, _, _, _, am, an⟩ := ha0.open
  clear hE0 hS0 ha0 hK0 hG0
  have hwN : IntKind.i64.wrap (N : Int) = (N : Int) := IntWalk.i64_in _ (by omega)
  have hcs : ((N : Int) == 0) = true ∨ (((N : Int) == 0) = false ∧ (8 : Int) < all.length) ∨ (((N : Int) == 0) = false ∧ ¬ (8 : Int) < all.length ∧ (6 : Int) < K.n) ∨ (((N : Int) == 0) = false ∧ ¬ (8 : Int) < all.length ∧ ¬ (6 : Int) < K.n ∧ (6 : Int) < G.n) := by
    simp only [beq_iff_eq, beq_eq_false_iff_ne]
    omega
  clear hcase
  rcases hcs with hn0 | ⟨hn0, hal⟩ | ⟨hn0, hal, hkl⟩ | ⟨hn0, hal, hkl, hgl⟩
  all_goals
    go_enter Try.func7, Try.ntmps7
    go_wp2_with fail
    generalize hW : World.alloc (World.alloc _ _) _ = W
    have hbW : Below w.heap.size w W := by rw [← hW]; exact ((Below.refl _ _).alloc (Nat.le_refl _) _).alloc (by simp) _
    have R1 := hid (show BoxAt W w.heap.size 25 [.int .u8 (N : Nat), ve, vs] ∧ BoxAt W (w.heap.size + 1) 47 [.int .i64 x.src, .int .i64 x.dst, .slice K.a K.n K.c, .slice G.a G.n G.c] by rw [← hW]; exact ⟨(BoxAt.new w _ _ _ _ rfl rfl).alloc _, BoxAt.new _ _ _ _ _ (by simp) rfl⟩)
    have HBW := hid hbW
    clear hW hbW
    refine (awake42_calls W).mono ?_
    rintro e w1 ⟨rfl, hb1⟩
    have hr := And.intro (R1.out.1.below hb1) (R1.out.2.below hb1)
    have HR1 := hid hr
    have c0 := hr.1.cell 0 _ rfl
    have c1 := hr.1.cell 1 _ rfl
    have c2 := hr.1.cell 2 _ rfl
    have s1 := hr.1.lt
    have d0 := hr.2.cell 0 _ rfl
    have d1 := hr.2.cell 1 _ rfl
    have d2 := hr.2.cell 2 _ rfl
    have d3 := hr.2.cell 3 _ rfl
    have s2 := hr.2.lt
    have HB1 := hid (bvia HBW.out hb1)
    clear hb1 hr R1
    go_wp2_with fail
    refine (few_calls lo1 lo2 ve vs N E S w1 (HE.out.below HB1.out) (HS.out.keep (Keep.below HB1.out)) hN).mono ?_
    rintro e w2 ⟨hq, hb2⟩
    have HB2 := hid (bvia HB1.out hb2)
    have hr := And.intro (HR1.out.1.below hb2) (HR1.out.2.below hb2)
    clear c0 c1 c2 s1 d0 d1 d2 d3 s2
    have c0 := hr.1.cell 0 _ rfl
    have c1 := hr.1.cell 1 _ rfl
    have c2 := hr.1.cell 2 _ rfl
    have s1 := hr.1.lt
    have d0 := hr.2.cell 0 _ rfl
    have d1 := hr.2.cell 1 _ rfl
    have d2 := hr.2.cell 2 _ rfl
    have d3 := hr.2.cell 3 _ rfl
    have s2 := hr.2.lt
    have HR2 := hid hr
    clear hb2 hr HR1
    rcases hq with rfl | ⟨rfl, hf⟩
    · clear c0 c1 c2 s1 d0 d1 d2 d3 s2
      go_wp2_with fail
      go_ret
      exact ⟨rfl, HB2.out⟩
    have HF := hid hf
    have HE2 := hid (HE.out.below HB2.out)
    have HS2 := hid (HS.out.keep (Keep.below HB2.out))
    have HA2 := hid (HA.out.below HB2.out)
    have HK2 := hid (HK.out.below HB2.out)
    have HG2 := hid (HG.out.below HB2.out)
    have HCONT := hid (show N ≤ 8 ∧ E.length ≤ 16 from ⟨hf.1, hf.2.1⟩)
    clear hf HE HS HA HK HG
    go_wp2_with fail
    go_ret
    exact ⟨rfl, HB2.out⟩

set_option maxRecDepth 100000 in
set_option maxHeartbeats 8000000 in
theorem lmono_yes (lo1 lo2 : Nat) (ve vs : Value) (N : Nat) (E : List Edg) (S : List (List Int)) (lo5 lo6 : Nat) (x : Edg) (K G : Slc) (lo4 : Nat) (va : Value) (all : List Int) (w : World) (hN : N < 256) (hE0 : EdgesAt lo1 w ve E) (hS0 : LaysAt lo2 w vs S) (hK0 : IntsAt lo5 w K.val x.kill) (hG0 : IntsAt lo5 w G.val x.gen) (ha0 : IntsAt lo4 w va all) (hp : 1 ≤ N) (hal8 : all.length ≤ 8) (hk6 : K.n ≤ 6) (hg6 : G.n ≤ 6) :
    Calls Try.prog 7 #[.agg #[.int .u8 (N : Nat), ve, vs], .agg #[.int .i64 x.src, .int .i64 x.dst, .slice K.a K.n K.c, .slice G.a G.n G.c], va] w fun e w' => e = .returned (.bool true) ∧ Below w.heap.size w w' := by
  have HE := hid hE0
  have HS := hid hS0
  have HA := hid ha0
  have HK := hid hK0
  have HG := hid hG0
  have HKN := hid (SlE.len hK0)
  have HGN := hid (SlE.len hG0)
  obtain ⟨aa, ac, ab, ao, rfl, _, _, _, _, _, am, an⟩ := ha0.open
  clear hE0 hS0 ha0 hK0 hG0
  have hwN : IntKind.i64.wrap (N : Int) = (N : Int) := IntWalk.i64_in _ (by omega)
  have hn0 : ((N : Int) == 0) = false := by simp; omega
  have hal : ¬ (8 : Int) < all.length := by omega
  have hkl : ¬ (6 : Int) < K.n := by omega
  have hgl : ¬ (6 : Int) < G.n := by omega
  have HAL := hid hal8
  have HXK := hid (show x.kill.length ≤ 6 ∧ x.gen.length ≤ 6 by rw [← HKN.out, ← HGN.out]; exact ⟨hk6, hg6⟩)
  clear hal8 hk6 hg6
  go_enter Try.func7, Try.ntmps7
  go_wp2_with fail
  generalize hW : World.alloc (World.alloc _ _) _ = W
  have hbW : Below w.heap.size w W := by rw [← hW]; exact ((Below.refl _ _).alloc (Nat.le_refl _) _).alloc (by simp) _
  have R1 := hid (show BoxAt W w.heap.size 25 [.int .u8 (N : Nat), ve, vs] ∧ BoxAt W (w.heap.size + 1) 47 [.int .i64 x.src, .int .i64 x.dst, .slice K.a K.n K.c, .slice G.a G.n G.c] by rw [← hW]; exact ⟨(BoxAt.new w _ _ _ _ rfl rfl).alloc _, BoxAt.new _ _ _ _ _ (by simp) rfl⟩)
  have HBW := hid hbW
  clear hW hbW
  refine (awake42_calls W).mono ?_
  rintro e w1 ⟨rfl, hb1⟩
  have hr := And.intro (R1.out.1.below hb1) (R1.out.2.below hb1)
  have HR1 := hid hr
  have c0 := hr.1.cell 0 _ rfl
  have c1 := hr.1.cell 1 _ rfl
  have c2 := hr.1.cell 2 _ rfl
  have s1 := hr.1.lt
  have d0 := hr.2.cell 0 _ rfl
  have d1 := hr.2.cell 1 _ rfl
  have d2 := hr.2.cell 2 _ rfl
  have d3 := hr.2.cell 3 _ rfl
  have s2 := hr.2.lt
  have HB1 := hid (bvia HBW.out hb1)
  clear hb1 hr R1
  go_wp2_with fail
  refine (few_calls lo1 lo2 ve vs N E S w1 (HE.out.below HB1.out) (HS.out.keep (Keep.below HB1.out)) hN).mono ?_
  rintro e w2 ⟨hq, hb2⟩
  have HB2 := hid (bvia HB1.out hb2)
  have hr := And.intro (HR1.out.1.below hb2) (HR1.out.2.below hb2)
  clear c0 c1 c2 s1 d0 d1 d2 d3 s2
  have c0 := hr.1.cell 0 _ rfl
  have c1 := hr.1.cell 1 _ rfl
  have c2 := hr.1.cell 2 _ rfl
  have s1 := hr.1.lt
  have d0 := hr.2.cell 0 _ rfl
  have d1 := hr.2.cell 1 _ rfl
  have d2 := hr.2.cell 2 _ rfl
  have d3 := hr.2.cell 3 _ rfl
  have s2 := hr.2.lt
  have HR2 := hid hr
  clear hb2 hr HR1
  rcases hq with rfl | ⟨rfl, hf⟩
  · clear c0 c1 c2 s1 d0 d1 d2 d3 s2
    go_wp2_with fail
    go_ret
    exact ⟨rfl, HB2.out⟩
  have HF := hid hf
  have HE2 := hid (HE.out.below HB2.out)
  have HS2 := hid (HS.out.keep (Keep.below HB2.out))
  have HA2 := hid (HA.out.below HB2.out)
  have HK2 := hid (HK.out.below HB2.out)
  have HG2 := hid (HG.out.below HB2.out)
  have HCONT := hid (show N ≤ 8 ∧ E.length ≤ 16 from ⟨hf.1, hf.2.1⟩)
  clear hf HE HS HA HK HG

  go_wp2_with (
    first
      | (go_at_call 14
         refine (own42_calls lo1 ve E _ HE2.out (by have := HCONT.out; omega)).mono ?_
         rintro e w3 ⟨v3, rfl, h3, hb3⟩
         obtain ⟨m, hm1, hm2, hm3⟩ := h3
         have HM := hid (And.intro hm1 (And.intro hm2 hm3))
         have HML := hid (show m.length ≤ 16 by have := congrArg List.length hm1; rw [List.length_map] at this; have := HCONT.out; omega)
         obtain ⟨ma, mc, mb, mo, rfl, hmn, hmp, hmc, _, _, _⟩ := id hm2
         have HMO := hid (And.intro hmp hmc)
         have hr := And.intro (HR2.out.1.below hb3) (HR2.out.2.below hb3)
         have HR3 := hid hr
         have HB23 := hid hb3
         have HB3 := hid (bvia HB2.out hb3)
         clear c0 c1 c2 s1 d0 d1 d2 d3 s2 hm1 hm2 hm3 hb3 hmn hmp hmc
         have c0 := hr.1.cell 0 _ rfl
         have c1 := hr.1.cell 1 _ rfl
         have c2 := hr.1.cell 2 _ rfl
         have s1 := hr.1.lt
         have d0 := hr.2.cell 0 _ rfl
         have d1 := hr.2.cell 1 _ rfl
         have d2 := hr.2.cell 2 _ rfl
         have d3 := hr.2.cell 3 _ rfl
         have s2 := hr.2.lt
         clear hr)
      | (at_builtin
         generalize hW4 : World.alloc (World.alloc w3 _) _ = W4 at *
         have hb4 : Below w3.heap.size w3 W4 := by rw [← hW4]; exact ((Below.refl _ _).alloc (Nat.le_refl _) _).alloc (by simp) _
         have HB34 := hid hb4
         have HB4 := hid (bvia HB3.out hb4)
         have HQ4 := hid (show BoxAt W4 w3.heap.size 48 [.int .i64 x.src, .int .i64 x.dst, .slice K.a K.n K.c, .slice G.a G.n G.c] by rw [← hW4]; exact (BoxAt.new w3 _ _ _ _ rfl rfl).alloc _)
         have hl4 : SlE edgE 0 W4 (.slice (some ⟨w3.heap.size + 1, 0, none⟩) 1 1) [((x, K, G) : Edg × Slc × Slc)] := by
           rw [← hW4]
           exact (OwnE.lit edgE (World.alloc w3 (Obj.cells #[.int .i64 x.src, .int .i64 x.dst, .slice K.a K.n K.c, .slice G.a G.n G.c] 48)) 0 48 [((x, K, G) : Edg × Slc × Slc)] #[.int .i64 x.src, .int .i64 x.dst, .slice K.a K.n K.c, .slice G.a G.n G.c] (w3.heap.size + 1) 1 (by simp) (Nat.zero_le _) rfl rfl (by simp)).sl (Nat.zero_le 0) (by simp)
         clear hW4 hb4
         go_loud (refine wpList_append_one edgE (o := ⟨some 62, _, _, _, _, _⟩) rfl (.tmp 59) (.tmp 61) 29 rfl W4.heap.size 0 48 _ 64 Try.underlying29 infoEdge42 rfl [] ((x, K, G) : Edg × Slc × Slc) (OwnE.nil _ _ _ _) hl4 (by simp) (by simp [maxLen]) (Nat.le_refl _) ?_)
         intro g5 cap5 w5 ho5 hg5 hl5 hb5
         have HO5 := hid ho5
         have HB5 := hid hb5
         clear hl4 ho5 hg5 hl5 hb5))

  go_loopw [10, 11] (fun lv i wr => ∃ (j : Nat), j ≤ m.length ∧ i = .int .i64 ((j : Int) - 1) ∧ OwnE edgE W4.heap.size 48 wr lv (((x, K, G) : Edg × Slc × Slc) :: (m.drop j).reverse) ∧ Below W4.heap.size W4 wr) (fun _ i _ => (intOf i + 1).toNat)
  case atStart => exact ⟨m.length, Nat.le_refl _, rfl, by rw [List.drop_length]; exact HO5.out, HB5.out⟩
  case round =>
    obtain ⟨j, hj, rfl, hown, hbl⟩ := hrel
    obtain ⟨wo, hwo⟩ : ∃ wo, wo = wr := ⟨_, rfl⟩
    subst hwo
    have HO := hid hown
    have HBL := hid hbl
    have HB3o := hid (bvia HB34.out hbl)
    have HBo := hid (bvia HB4.out hbl)
    have hsz := hbl.size
    have HJ := hid hj
    clear hown hbl HB5 HO5 hj
    rcases j with _ | t
    · rw [show (((0 : Nat) : Int) - 1) = -1 from rfl]
      have HFR := hid (show OwnE edgE W4.heap.size 48 wo u10 (((x, K, G) : Edg × Slc × Slc) :: m.reverse) by have := HO.out; rwa [List.drop_zero] at this)
      have HQ := hid (HQ4.out.below HBL.out)
      have q0 := HQ.out.cell 0 _ rfl
      have q1 := HQ.out.cell 1 _ rfl
      have q2 := HQ.out.cell 2 _ rfl
      have q3 := HQ.out.cell 3 _ rfl
      have zq := HQ.out.lt
      clear HO HJ
      go_wp2_with fail
      refine Plan.wp_facts (B := wo.heap.size) planLMo14 [(0, ownF edgE wo.heap.size 48 []), (2, ownF edgE wo.heap.size 48 m), (4, ownF edgE wo.heap.size 48 [((x, K, G) : Edg × Slc × Slc)]), (5, ownF edgE wo.heap.size 48 (m ++ [((x, K, G) : Edg × Slc × Slc)]))] (by kernel_rfl) rfl (by kernel_rfl) (by kernel_rfl) (Nat.le_refl _) ?_
      refine Plan.runs_lit edgE wo.heap.size 48 [] #[] 0 rfl rfl _ rfl rfl (fun w' => by go_simp) rfl rfl rfl (by simp) (Nat.le_refl _) (fun v77 => ?_)
      simp only [Act.put, List.setIfInBounds_toArray, List.set_cons_zero, List.set_cons_succ]
      repeat (first | (apply Plan.runs_skip rfl rfl; simp only [Act.put, List.setIfInBounds_toArray, List.set_cons_zero, List.set_cons_succ]) | (apply Plan.runs_det rfl rfl; (· intro F w' hb hf; obtain ⟨hcl, hfz⟩ := bcell hb; go_simp; rfl); simp only [Act.put, List.setIfInBounds_toArray, List.set_cons_zero, List.set_cons_succ]))
      refine Plan.runs_append edgE 0 _ _ 29 wo.heap.size 0 48 _ 64 [] m rfl rfl _ rfl rfl rfl Try.underlying29 infoEdge42 rfl rfl rfl rfl (by decide) rfl rfl (Nat.le_refl _) (Nat.le_refl _) (Nat.le_refl _) (by have := HML.out; simp; omega) (by have := HML.out; simp only [maxLen]; simp; omega) (fun F w' hb hf => ?_) (fun v79 => ?_)
      · exact (HM.out.2.1.below HB3o.out).below hb
      simp only [Act.put, List.setIfInBounds_toArray, List.set_cons_zero, List.set_cons_succ]
      repeat (first | (apply Plan.runs_skip rfl rfl; simp only [Act.put, List.setIfInBounds_toArray, List.set_cons_zero, List.set_cons_succ]) | (apply Plan.runs_det rfl rfl; (· intro F w' hb hf; obtain ⟨hcl, hfz⟩ := bcell hb; go_simp; rfl); simp only [Act.put, List.setIfInBounds_toArray, List.set_cons_zero, List.set_cons_succ]))
      refine Plan.runs_lit edgE wo.heap.size 48 [((x, K, G) : Edg × Slc × Slc)] #[.int .i64 x.src, .int .i64 x.dst, .slice K.a K.n K.c, .slice G.a G.n G.c] 1 rfl rfl _ rfl rfl (fun w' => by go_simp) rfl rfl rfl (by simp) (Nat.le_refl _) (fun v81 => ?_)
      simp only [Act.put, List.setIfInBounds_toArray, List.set_cons_zero, List.set_cons_succ]
      repeat (first | (apply Plan.runs_skip rfl rfl; simp only [Act.put, List.setIfInBounds_toArray, List.set_cons_zero, List.set_cons_succ]) | (apply Plan.runs_det rfl rfl; (· intro F w' hb hf; obtain ⟨hcl, hfz⟩ := bcell hb; go_simp; rfl); simp only [Act.put, List.setIfInBounds_toArray, List.set_cons_zero, List.set_cons_succ]))
      refine Plan.runs_append edgE 2 _ _ 29 wo.heap.size 0 48 _ 64 m [((x, K, G) : Edg × Slc × Slc)] rfl rfl _ rfl rfl rfl Try.underlying29 infoEdge42 rfl rfl rfl rfl (by decide) rfl rfl (Nat.le_refl _) (Nat.le_refl _) (Nat.le_refl _) (by have := HML.out; simp; omega) (by have := HML.out; simp only [maxLen]; simp; omega) (fun F w' hb hf => ?_) (fun v82 => ?_)
      · exact (Plan.facts_own hf 4 rfl (by kernel_rfl) rfl (.inl rfl)).sl (Nat.zero_le _) (by simp)
      simp only [Act.put, List.setIfInBounds_toArray, List.set_cons_zero, List.set_cons_succ]
      repeat (first | (apply Plan.runs_skip rfl rfl; simp only [Act.put, List.setIfInBounds_toArray, List.set_cons_zero, List.set_cons_succ]) | (apply Plan.runs_det rfl rfl; (· intro F w' hb hf; obtain ⟨hcl, hfz⟩ := bcell hb; go_simp; rfl); simp only [Act.put, List.setIfInBounds_toArray, List.set_cons_zero, List.set_cons_succ]))
      refine Plan.runs_nil (fun F w9 hb hf => ?_)
      have hbk := Plan.rest_own hf 5 rfl (by decide) rfl rfl
      have HBK := hid (hbk.sl (Nat.zero_le _) (by have := HML.out; simp; omega))
      have HB9 := hid (bvia HBo.out hb)
      have HB39 := hid (bvia HB3o.out hb)
      have HB29 := hid (bvia HB23.out HB39.out)
      have HINT := hid (show ∀ y ∈ ((x, K, G) : Edg × Slc × Slc) :: m, IntsAt 0 w9 y.2.1.val y.1.kill ∧ IntsAt 0 w9 y.2.2.val y.1.gen by
        intro y hy
        rcases List.mem_cons.1 hy with rfl | hy
        · exact ⟨(HK2.out.below HB29.out).mono (Nat.zero_le _), (HG2.out.below HB29.out).mono (Nat.zero_le _)⟩
        · obtain ⟨i, hi, e⟩ := nth_of_mem hy
          have := HM.out.2.2 i hi
          rw [e] at this
          exact ⟨this.1.below HB39.out, this.2.below HB39.out⟩)
      have HE1 := hid (show EdgesAt 0 w9 (.slice ma m.length mc) E from (show EdgesAt 0 w3 (.slice ma m.length mc) E from ⟨m, HM.out.1, HM.out.2.1, HM.out.2.2⟩).below HB39.out)
      have HEB := hid (show EdgesAt 0 w9 v82 (E ++ [x]) by
        have h := edges_of HBK.out (fun y hy => HINT.out y (by rcases List.mem_append.1 hy with h | h; exact List.mem_cons_of_mem _ h; rw [List.mem_singleton.1 h]; exact List.mem_cons_self))
        rw [List.map_append, HM.out.1] at h
        exact h)
      have HEF := hid (show EdgesAt 0 w9 u10 (x :: E.reverse) by
        have h := edges_of (lo := 0) (((HFR.out.sl (Nat.zero_le _) (by have := HML.out; simp; omega)).below hb)) (fun y hy => HINT.out y (by rcases List.mem_cons.1 hy with h | h; exact h ▸ List.mem_cons_self; exact List.mem_cons_of_mem _ (List.mem_reverse.1 h)))
        rw [List.map_cons, List.map_reverse, HM.out.1] at h
        exact h)
      have HR9 := hid (HR3.out.1.below HB39.out)
      have HS9 := hid (HS2.out.keep (Keep.below HB29.out))
      have HA9 := hid (HA2.out.below HB29.out)
      have GK0 := hid (HF.out.ok all HAL.out)
      have GKB := hid (gokM_of (T := E ++ [x]) all HAL.out HF.out (by simp) (fun e he => by simpa using he) HXK.out.1 HXK.out.2)
      have GKF := hid (gokM_of (T := x :: E.reverse) all HAL.out HF.out (by simp) (fun e he => by simpa [or_comm] using he) HXK.out.1 HXK.out.2)
      clear hbk hb hf q0 q1 q2 q3 zq HQ HFR HBK HINT HK2 HG2 HM HR3 HR2 HMO HS2 HA2 HE2 hsz HBL HB3o HBo c0 c1 c2 s1 d0 d1 d2 d3 s2
      have hnn : ((N : Int) == N) = true := by simp

      have c2 := HR9.out.cell 2 _ rfl
      have s1 := HR9.out.lt
      go_wp2_with fail
      refine (may_calls 0 lo2 _ vs N (E) S _ w9 HE1.out HS9.out GK0.out.1 hp).mono ?_

      rintro e w10 ⟨v10, XA, rfl, hX, hx, hb⟩
      have HIA := hid hX
      obtain ⟨aA, ccA, bA, oA, SA, rfl, _, _, _, _, _, _, _⟩ := hx.open
      have HLA := hid hX.len
      rw [hX.len] at hx
      have HXA10 := hid hx
      have HB10 := hid (bvia HB9.out hb)
      have HE1_10 := hid (HE1.out.below hb)
      have HEB_10 := hid (HEB.out.below hb)
      have HEF_10 := hid (HEF.out.below hb)
      have HS10 := hid (HS9.out.keep (Keep.below hb))
      have HA10 := hid (HA9.out.below hb)
      have HR10 := hid (HR9.out.below hb)
      clear hX hx hb c2 s1 HE1 HEB HEF HS9 HA9 HR9
      rw [HLA.out]

      have c2 := HR10.out.cell 2 _ rfl
      have s1 := HR10.out.lt
      go_wp2_with fail
      refine (may_calls 0 lo2 _ vs N (E ++ [x]) S _ w10 HEB_10.out HS10.out GKB.out.1 hp).mono ?_

      rintro e w11 ⟨v11, XB, rfl, hX, hx, hb⟩
      have HIB := hid hX
      obtain ⟨aB, ccB, bB, oB, SB, rfl, _, _, _, _, _, _, _⟩ := hx.open
      have HLB := hid hX.len
      rw [hX.len] at hx
      have HXB11 := hid hx
      have HB11 := hid (bvia HB10.out hb)
      have HE1_11 := hid (HE1_10.out.below hb)
      have HEB_11 := hid (HEB_10.out.below hb)
      have HEF_11 := hid (HEF_10.out.below hb)
      have HS11 := hid (HS10.out.keep (Keep.below hb))
      have HA11 := hid (HA10.out.below hb)
      have HR11 := hid (HR10.out.below hb)
      have HXA11 := hid (HXA10.out.keep (Keep.below hb))
      clear hX hx hb c2 s1 HE1_10 HEB_10 HEF_10 HS10 HA10 HR10 HXA10
      rw [HLB.out]

      have c2 := HR11.out.cell 2 _ rfl
      have s1 := HR11.out.lt
      go_wp2_with fail
      refine (must_calls 0 lo2 lo4 _ vs _ N (E) S all _ w11 HE1_11.out HS11.out HA11.out GK0.out.1 GK0.out.2 (by have := HAL.out; omega) hp).mono ?_

      rintro e w12 ⟨v12, XC, rfl, hX, hx, hb⟩
      have HIC := hid hX
      obtain ⟨aC, ccC, bC, oC, SC, rfl, _, _, _, _, _, _, _⟩ := hx.open
      have HLC := hid hX.len
      rw [hX.len] at hx
      have HXC12 := hid hx
      have HB12 := hid (bvia HB11.out hb)
      have HE1_12 := hid (HE1_11.out.below hb)
      have HEB_12 := hid (HEB_11.out.below hb)
      have HEF_12 := hid (HEF_11.out.below hb)
      have HS12 := hid (HS11.out.keep (Keep.below hb))
      have HA12 := hid (HA11.out.below hb)
      have HR12 := hid (HR11.out.below hb)
      have HXA12 := hid (HXA11.out.keep (Keep.below hb))
      have HXB12 := hid (HXB11.out.keep (Keep.below hb))
      clear hX hx hb c2 s1 HE1_11 HEB_11 HEF_11 HS11 HA11 HR11 HXA11 HXB11
      rw [HLC.out]

      have c2 := HR12.out.cell 2 _ rfl
      have s1 := HR12.out.lt
      go_wp2_with fail
      refine (must_calls 0 lo2 lo4 _ vs _ N (E ++ [x]) S all _ w12 HEB_12.out HS12.out HA12.out GKB.out.1 GKB.out.2 (by have := HAL.out; omega) hp).mono ?_

      rintro e w13 ⟨v13, XD, rfl, hX, hx, hb⟩
      have HID := hid hX
      obtain ⟨aD, ccD, bD, oD, SD, rfl, _, _, _, _, _, _, _⟩ := hx.open
      have HLD := hid hX.len
      rw [hX.len] at hx
      have HXD13 := hid hx
      have HB13 := hid (bvia HB12.out hb)
      have HE1_13 := hid (HE1_12.out.below hb)
      have HEB_13 := hid (HEB_12.out.below hb)
      have HEF_13 := hid (HEF_12.out.below hb)
      have HS13 := hid (HS12.out.keep (Keep.below hb))
      have HA13 := hid (HA12.out.below hb)
      have HR13 := hid (HR12.out.below hb)
      have HXA13 := hid (HXA12.out.keep (Keep.below hb))
      have HXB13 := hid (HXB12.out.keep (Keep.below hb))
      have HXC13 := hid (HXC12.out.keep (Keep.below hb))
      clear hX hx hb c2 s1 HE1_12 HEB_12 HEF_12 HS12 HA12 HR12 HXA12 HXB12 HXC12
      rw [HLD.out]

      have c2 := HR13.out.cell 2 _ rfl
      have s1 := HR13.out.lt
      go_wp2_with fail
      refine (may_calls 0 lo2 _ vs N (x :: E.reverse) S _ w13 HEF_13.out HS13.out GKF.out.1 hp).mono ?_

      rintro e w14 ⟨v14, XP, rfl, hX, hx, hb⟩
      have HIP := hid hX
      obtain ⟨aP, ccP, bP, oP, SP, rfl, _, _, _, _, _, _, _⟩ := hx.open
      have HLP := hid hX.len
      rw [hX.len] at hx
      have HXP14 := hid hx
      have HB14 := hid (bvia HB13.out hb)
      have HE1_14 := hid (HE1_13.out.below hb)
      have HEB_14 := hid (HEB_13.out.below hb)
      have HEF_14 := hid (HEF_13.out.below hb)
      have HS14 := hid (HS13.out.keep (Keep.below hb))
      have HA14 := hid (HA13.out.below hb)
      have HR14 := hid (HR13.out.below hb)
      have HXA14 := hid (HXA13.out.keep (Keep.below hb))
      have HXB14 := hid (HXB13.out.keep (Keep.below hb))
      have HXC14 := hid (HXC13.out.keep (Keep.below hb))
      have HXD14 := hid (HXD13.out.keep (Keep.below hb))
      clear hX hx hb c2 s1 HE1_13 HEB_13 HEF_13 HS13 HA13 HR13 HXA13 HXB13 HXC13 HXD13
      rw [HLP.out]

      go_wp2_with fail
      have hYX : XB = XP := may_order (fun e => by simp [or_comm]) HIB.out HIP.out
      refine (sameall_calls 0 0 _ _ XB XP w14 HXB14.out HXP14.out).mono ?_
      rintro e w15 ⟨rfl, hb⟩
      rw [show decide (XB = XP) = true from decide_eq_true hYX]
      have HB15 := hid (bvia HB14.out hb)
      have HE1_15 := hid (HE1_14.out.below hb)
      have HEB_15 := hid (HEB_14.out.below hb)
      have HEF_15 := hid (HEF_14.out.below hb)
      have HS15 := hid (HS14.out.keep (Keep.below hb))
      have HA15 := hid (HA14.out.below hb)
      have HR15 := hid (HR14.out.below hb)
      have HXA15 := hid (HXA14.out.keep (Keep.below hb))
      have HXB15 := hid (HXB14.out.keep (Keep.below hb))
      have HXC15 := hid (HXC14.out.keep (Keep.below hb))
      have HXD15 := hid (HXD14.out.keep (Keep.below hb))
      have HXP15 := hid (HXP14.out.keep (Keep.below hb))
      clear hYX hb HE1_14 HEB_14 HEF_14 HS14 HA14 HR14 HXA14 HXB14 HXC14 HXD14 HXP14

      have c2 := HR15.out.cell 2 _ rfl
      have s1 := HR15.out.lt
      go_wp2_with fail
      refine (must_calls 0 lo2 lo4 _ vs _ N (x :: E.reverse) S all _ w15 HEF_15.out HS15.out HA15.out GKF.out.1 GKF.out.2 (by have := HAL.out; omega) hp).mono ?_

      rintro e w16 ⟨v16, XQ, rfl, hX, hx, hb⟩
      have HIQ := hid hX
      obtain ⟨aQ, ccQ, bQ, oQ, SQ, rfl, _, _, _, _, _, _, _⟩ := hx.open
      have HLQ := hid hX.len
      rw [hX.len] at hx
      have HXQ16 := hid hx
      have HB16 := hid (bvia HB15.out hb)
      have HE1_16 := hid (HE1_15.out.below hb)
      have HEB_16 := hid (HEB_15.out.below hb)
      have HEF_16 := hid (HEF_15.out.below hb)
      have HS16 := hid (HS15.out.keep (Keep.below hb))
      have HA16 := hid (HA15.out.below hb)
      have HR16 := hid (HR15.out.below hb)
      have HXA16 := hid (HXA15.out.keep (Keep.below hb))
      have HXB16 := hid (HXB15.out.keep (Keep.below hb))
      have HXC16 := hid (HXC15.out.keep (Keep.below hb))
      have HXD16 := hid (HXD15.out.keep (Keep.below hb))
      have HXP16 := hid (HXP15.out.keep (Keep.below hb))
      clear hX hx hb c2 s1 HE1_15 HEB_15 HEF_15 HS15 HA15 HR15 HXA15 HXB15 HXC15 HXD15 HXP15
      rw [HLQ.out]

      go_wp2_with fail
      have hYX : XD = XQ := must_order (fun e => by simp [or_comm]) HID.out HIQ.out
      refine (sameall_calls 0 0 _ _ XD XQ w16 HXD16.out HXQ16.out).mono ?_
      rintro e w17 ⟨rfl, hb⟩
      rw [show decide (XD = XQ) = true from decide_eq_true hYX]
      have HB17 := hid (bvia HB16.out hb)
      have HE1_17 := hid (HE1_16.out.below hb)
      have HEB_17 := hid (HEB_16.out.below hb)
      have HEF_17 := hid (HEF_16.out.below hb)
      have HS17 := hid (HS16.out.keep (Keep.below hb))
      have HA17 := hid (HA16.out.below hb)
      have HR17 := hid (HR16.out.below hb)
      have HXA17 := hid (HXA16.out.keep (Keep.below hb))
      have HXB17 := hid (HXB16.out.keep (Keep.below hb))
      have HXC17 := hid (HXC16.out.keep (Keep.below hb))
      have HXD17 := hid (HXD16.out.keep (Keep.below hb))
      have HXP17 := hid (HXP16.out.keep (Keep.below hb))
      have HXQ17 := hid (HXQ16.out.keep (Keep.below hb))
      clear hYX hb HE1_16 HEB_16 HEF_16 HS16 HA16 HR16 HXA16 HXB16 HXC16 HXD16 HXP16 HXQ16

      go_wp2_with fail
      have HSAB := hid (may_more (fun e he => List.mem_append.2 (.inl he)) HIA.out HIB.out)
      have HSDC := hid (must_more (fun e he => List.mem_append.2 (.inl he)) HIC.out HID.out)
      have HLEA := hid (show ∀ i, (nth XA i).length ≤ 100000 from fun i => Nat.le_trans (inc_sub_len (HIA.out.inc i) (by
        obtain ⟨⟨k, e⟩, _⟩ := HIA.out
        rw [e]
        exact fun r hr => mayIter_in GK0.out.1 k i r hr)) (by have := GK0.out.1.u; omega))
      have HLED := hid (show ∀ i, (nth XD i).length ≤ 100000 from fun i => Nat.le_trans (inc_sub_len (HID.out.inc i) (by
        obtain ⟨⟨k, e⟩, _⟩ := HID.out
        rw [e]
        exact fun r hr => mustIter_in N _ S all k i r hr)) (by have := HAL.out; omega))
      go_loopw [17] (fun i wr => ∃ k : Nat, k ≤ N ∧ i = .int .i64 k ∧ Below w17.heap.size w17 wr) (fun i _ => N - (intOf i).toNat)
      case atStart => exact ⟨0, Nat.zero_le _, rfl, Below.refl _ _⟩
      case round =>
        obtain ⟨j, hj, rfl, hbl2⟩ := hrel
        obtain ⟨wi, hwi⟩ : ∃ wi, wi = wr := ⟨_, rfl⟩
        subst hwi
        have HBI := hid hbl2
        have HBI2 := hid (bvia HB17.out hbl2)
        clear hbl2
        by_cases hjn : j < N
        · have hjn2 : (j : Int) < N := Int.ofNat_lt.2 hjn
          obtain ⟨yA, zA, bbA, ooA, TA, ex2, x1, x2, x3, x4, _, _, _⟩ := HXA17.out.open
          obtain ⟨rfl, hxn, rfl⟩ := Value.slice.inj ex2
          clear hxn
          rw [HLA.out] at x1 x2 x3 x4
          have e2 := x1 (by omega)
          have zzA := x4 (by omega)
          subst e2
          have dxA := (HBI.out.cell (p := ⟨bbA, _, none⟩) zzA).trans (x2 j hjn)
          have HRA := hid ((x3 j hjn).below HBI.out)
          have ziA : bbA < wi.heap.size := Nat.lt_of_lt_of_le zzA HBI.out.size
          clear x1 x2 x3 x4 ex2 zzA

          obtain ⟨yB, zB, bbB, ooB, TB, ex2, x1, x2, x3, x4, _, _, _⟩ := HXB17.out.open
          obtain ⟨rfl, hxn, rfl⟩ := Value.slice.inj ex2
          clear hxn
          rw [HLB.out] at x1 x2 x3 x4
          have e2 := x1 (by omega)
          have zzB := x4 (by omega)
          subst e2
          have dxB := (HBI.out.cell (p := ⟨bbB, _, none⟩) zzB).trans (x2 j hjn)
          have HRB := hid ((x3 j hjn).below HBI.out)
          have ziB : bbB < wi.heap.size := Nat.lt_of_lt_of_le zzB HBI.out.size
          clear x1 x2 x3 x4 ex2 zzB

          obtain ⟨yC, zC, bbC, ooC, TC, ex2, x1, x2, x3, x4, _, _, _⟩ := HXC17.out.open
          obtain ⟨rfl, hxn, rfl⟩ := Value.slice.inj ex2
          clear hxn
          rw [HLC.out] at x1 x2 x3 x4
          have e2 := x1 (by omega)
          have zzC := x4 (by omega)
          subst e2
          have dxC := (HBI.out.cell (p := ⟨bbC, _, none⟩) zzC).trans (x2 j hjn)
          have HRC := hid ((x3 j hjn).below HBI.out)
          have ziC : bbC < wi.heap.size := Nat.lt_of_lt_of_le zzC HBI.out.size
          clear x1 x2 x3 x4 ex2 zzC

          obtain ⟨yD, zD, bbD, ooD, TD, ex2, x1, x2, x3, x4, _, _, _⟩ := HXD17.out.open
          obtain ⟨rfl, hxn, rfl⟩ := Value.slice.inj ex2
          clear hxn
          rw [HLD.out] at x1 x2 x3 x4
          have e2 := x1 (by omega)
          have zzD := x4 (by omega)
          subst e2
          have dxD := (HBI.out.cell (p := ⟨bbD, _, none⟩) zzD).trans (x2 j hjn)
          have HRD := hid ((x3 j hjn).below HBI.out)
          have ziD : bbD < wi.heap.size := Nat.lt_of_lt_of_le zzD HBI.out.size
          clear x1 x2 x3 x4 ex2 zzD
          have HSB1 := hid (show subB (nth XA j) (nth XB j) = true from (subB_iff _ _).2 (HSAB.out j))
          have HSB2 := hid (show subB (nth XD j) (nth XC j) = true from (subB_iff _ _).2 (HSDC.out j))
          go_wp2_with fail
          refine Plan.wp_chain planLMo24 wi.heap.size (by kernel_rfl) rfl (by kernel_rfl) (by kernel_rfl) ?_
          repeat (first | (apply Plan.chain_skip rfl rfl; simp only [Act.put, List.setIfInBounds_toArray, List.set_cons_zero, List.set_cons_succ]) | (apply Plan.chain_det rfl rfl; (· intro w' hb; obtain ⟨hcl, hfz⟩ := bcellB hb; go_simp; rfl); simp only [Act.put, List.setIfInBounds_toArray, List.set_cons_zero, List.set_cons_succ]))
          refine Plan.chain_call 22 #[.slice (TA j).a (nth XA j).length (TA j).c, .slice (TB j).a (nth XB j).length (TB j).c] (fun v w' => v = .bool true ∧ Below wi.heap.size wi w') rfl rfl rfl (by go_simp) ?_ (fun v w' h => h.2) (fun v20 w20 h => ?_)
          · have hd := (Below.refl wi.heap.size wi).drew
            refine (rsubset_calls 0 0 _ _ (nth XA j) (nth XB j) wi.drew (HRA.out.below hd) (HRB.out.below hd) (HLEA.out j)).mono ?_
            rintro e w' ⟨rfl, hb⟩
            rw [HSB1.out]
            exact ⟨_, rfl, rfl, bvia hd hb⟩
          obtain ⟨rfl, hb20⟩ := h
          have HB20 := hid hb20
          clear hb20
          repeat (first | (apply Plan.chain_skip rfl rfl; simp only [Act.put, List.setIfInBounds_toArray, List.set_cons_zero, List.set_cons_succ]) | (apply Plan.chain_det rfl rfl; (· intro w' hb; obtain ⟨hcl, hfz⟩ := bcellB hb; go_simp; rfl); simp only [Act.put, List.setIfInBounds_toArray, List.set_cons_zero, List.set_cons_succ]))
          refine Plan.chain_call 22 #[.slice (TD j).a (nth XD j).length (TD j).c, .slice (TC j).a (nth XC j).length (TC j).c] (fun v w' => v = .bool true ∧ Below wi.heap.size wi w') rfl rfl rfl (by go_simp) ?_ (fun v w' h => h.2) (fun v21 w21 h => ?_)
          · refine (rsubset_calls 0 0 _ _ (nth XD j) (nth XC j) w20 (HRD.out.below HB20.out) (HRC.out.below HB20.out) (HLED.out j)).mono ?_
            rintro e w' ⟨rfl, hb⟩
            rw [HSB2.out]
            exact ⟨_, rfl, rfl, bvia HB20.out hb⟩
          obtain ⟨rfl, hb21⟩ := h
          have HB21 := hid (bvia HBI.out hb21)
          clear hb21
          repeat (first | (apply Plan.chain_skip rfl rfl; simp only [Act.put, List.setIfInBounds_toArray, List.set_cons_zero, List.set_cons_succ]) | (apply Plan.chain_det rfl rfl; (· intro w' hb; obtain ⟨hcl, hfz⟩ := bcellB hb; go_simp; rfl); simp only [Act.put, List.setIfInBounds_toArray, List.set_cons_zero, List.set_cons_succ]))
          refine Plan.chain_nil ?_
          go_wp2_with fail
          exact ⟨⟨j + 1, by omega, by go_num, HB21.out⟩, by simp [intOf] <;> omega⟩
        · have hjn2 : ¬ (j : Int) < N := by omega
          go_wp2_with fail
          go_ret
          exact ⟨rfl, HBI2.out⟩
    · have hjm : t < m.length := HJ.out
      have hjm2 : (t : Int) < m.length := Int.ofNat_lt.2 hjm
      have hge : (0 : Int) ≤ (t : Int) := by omega
      rw [show (((t + 1 : Nat) : Int) - 1) = (t : Int) by omega]
      have hwt : IntKind.i64.wrap ((t : Int) - 1) = (t : Int) - 1 := IntWalk.i64_in _ (by have := HML.out; omega)
      obtain ⟨hp0, hc0⟩ := HMO.out
      have e1 := (hp0 (by omega)).1
      have hb0 : mb < w3.heap.size := World.block_lt_of_cell? _ _ (hc0 0 0 (by omega) (by decide))
      subst e1
      have hcc : ∀ k, k < 4 → wo.cell? ⟨mb, mo + t * 4 + k, none⟩ = some (nth (edgE.enc (nth m t)) k) := fun k hk => (HB3o.out.cell (p := ⟨mb, _, none⟩) hb0).trans (hc0 t k hjm hk)
      obtain ⟨y, hy⟩ : ∃ y, nth m t = y := ⟨_, rfl⟩
      rw [hy] at hcc
      have HY := hid hy
      have g0 : wo.cell? ⟨mb, mo + t * 4, none⟩ = some (.int .i64 y.1.src) := hcc 0 (by decide)
      have g1 : wo.cell? ⟨mb, mo + t * 4 + 1, none⟩ = some (.int .i64 y.1.dst) := hcc 1 (by decide)
      have g2 : wo.cell? ⟨mb, mo + t * 4 + 2, none⟩ = some (.slice y.2.1.a y.2.1.n y.2.1.c) := hcc 2 (by decide)
      have g3 : wo.cell? ⟨mb, mo + t * 4 + 3, none⟩ = some (.slice y.2.2.a y.2.2.n y.2.2.c) := hcc 3 (by decide)
      clear hp0 hc0 hcc hy c0 c1 c2 s1 d0 d1 d2 d3 s2
      go_wp2_with (
        at_builtin
        go_loud (refine wpList_append_one edgE (o := ⟨some 76, _, _, _, _, _⟩) rfl (.tmp 70) (.tmp 75) 29 rfl W4.heap.size wo.heap.size 48 _ 64 Try.underlying29 infoEdge42 rfl (((x, K, G) : Edg × Slc × Slc) :: (m.drop (t + 1)).reverse) y (HO.out.alloc _) ((OwnE.lit edgE wo wo.heap.size 48 [y] _ wo.heap.size 1 rfl (Nat.le_refl _) rfl rfl (by simp)).sl (Nat.le_refl _) (by simp)) (by have := HML.out; simp; omega) (by have := HML.out; simp only [maxLen]; simp; omega) (by simp; omega) ?_)
        intro g7 cap7 w7 ho7 hg7 hl7 hb7
        have HO7 := hid ho7
        have HB7 := hid hb7
        clear ho7 hg7 hl7 hb7)
      refine ⟨⟨t, by omega, by go_num, ?_, (HBL.out.alloc hsz _).trans HB7.out⟩, by simp [intOf]⟩
      have h9 := HO7.out
      rw [List.cons_append, ← HY.out, ← drop_revV m t hjm, List.length_cons, List.length_reverse, List.length_drop] at h9
      exact h9

theorem lmono_calls (lo1 lo2 : Nat) (ve vs : Value) (N : Nat) (E : List Edg) (S : List (List Int)) (lo5 lo6 : Nat) (x : Edg) (K G : Slc) (lo4 : Nat) (va : Value) (all : List Int) (w : World) (hN : N < 256) (hE0 : EdgesAt lo1 w ve E) (hS0 : LaysAt lo2 w vs S) (hK0 : IntsAt lo5 w K.val x.kill) (hG0 : IntsAt lo5 w G.val x.gen) (ha0 : IntsAt lo4 w va all) :
    Calls Try.prog 7 #[.agg #[.int .u8 (N : Nat), ve, vs], .agg #[.int .i64 x.src, .int .i64 x.dst, .slice K.a K.n K.c, .slice G.a G.n G.c], va] w fun e w' => e = .returned (.bool true) ∧ Below w.heap.size w w' := by
  by_cases h : N = 0 ∨ 8 < all.length ∨ 6 < K.n ∨ 6 < G.n
  · exact lmono_no lo1 lo2 ve vs N E S lo5 lo6 x K G lo4 va all w hN hE0 hS0 hK0 hG0 ha0 h
  · exact lmono_yes lo1 lo2 ve vs N E S lo5 lo6 x K G lo4 va all w hN hE0 hS0 hK0 hG0 ha0 (by omega) (by omega) (by omega) (by omega)

end Go.Proofs.Ytnbffkcnhphdnaa
