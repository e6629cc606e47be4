/-
  law42's own, few and joined, walked.
-/
import Derived.Test.YtnbffkcnhphdnaaZAwk42
namespace Go.Proofs.Ytnbffkcnhphdnaa
set_option linter.unusedVariables false
set_option linter.unusedSimpArgs false
open Go.RowKit

theorem take_succV {α : Type} [Inhabited α] (l : List α) (k : Nat) (h : k < l.length) : l.take (k + 1) = l.take k ++ [nth l k] := by
  rw [List.take_add_one, nth_eq _ _ h, List.getElem?_eq_getElem h]
  rfl
theorem infoEdge42 : (Try.prog.info? 48).map (fun i => (i.zero, i.size, i.bytes)) = some (some (.agg #[.int .i64 0, .int .i64 0, .slice none 0 0, .slice none 0 0]), 4, 64) := by kernel_rfl
noncomputable def planOwn5 : Plan := mkPlan (regionOf Try.f14 5) [(22, .new), (23, .new)] []

set_option maxRecDepth 100000 in
set_option maxHeartbeats 8000000 in
theorem own42_calls (lo : Nat) (v : Value) (E : List Edg) (w : World) (hE : EdgesAt lo w v E) (hn : E.length ≤ 1000) :
    Calls Try.prog 14 #[v] w fun e w' => ∃ v', e = .returned v' ∧ EdgesAt 0 w' v' E ∧ Below w.heap.size w w' := by
  obtain ⟨m, rfl, hsl, hrow⟩ := hE
  have hnm : m.length ≤ 1000 := by simpa using hn
  have HSL := hid hsl
  have HROW := hid hrow
  obtain ⟨a, c, b, o, rfl, hnil, hp, hc, h1, h2, h3⟩ := hsl
  have HP := hid (And.intro hp hc)
  clear hrow hp hc hnil hn
  go_enter Try.func14, Try.ntmps14
  go_wp2_with fail
  go_loopw [3, 4] (fun lv i wr => ∃ (k : Nat), k ≤ m.length ∧ i = .int .i64 k ∧ OwnE edgE w.heap.size 48 wr lv (m.take k) ∧ Below w.heap.size w wr) (fun _ i _ => m.length - (intOf i).toNat)
  case atStart => exact ⟨0, Nat.zero_le _, rfl, OwnE.nil _ _ _ _, Below.refl _ _⟩
  case round =>
    obtain ⟨k, hk, rfl, hown, hbl⟩ := hrel
    obtain ⟨wo, hwo⟩ : ∃ wo, wo = wr := ⟨_, rfl⟩
    subst hwo
    have HO := hid hown
    have HBL := hid hbl
    have hsz := hbl.size
    clear hown hbl
    by_cases hlt : k < m.length
    · have hlt2 : (k : Int) < m.length := Int.ofNat_lt.2 hlt
      obtain ⟨hp, hc⟩ := HP.out
      have e1 := (hp (by omega)).1
      have hb0 : b < w.heap.size := World.block_lt_of_cell? _ _ (hc 0 0 (by omega) (by decide))
      subst e1
      have hcc : ∀ j, j < 4 → wo.cell? ⟨b, o + k * 4 + j, none⟩ = some (nth (edgE.enc (nth m k)) j) := fun j hj => (HBL.out.cell (p := ⟨b, _, none⟩) hb0).trans (hc k j hlt hj)
      obtain ⟨x, hx⟩ : ∃ x, nth m k = x := ⟨_, rfl⟩
      rw [hx] at hcc
      have HX := hid hx
      have c0 : wo.cell? ⟨b, o + k * 4, none⟩ = some (.int .i64 x.1.src) := hcc 0 (by decide)
      have c1 : wo.cell? ⟨b, o + k * 4 + 1, none⟩ = some (.int .i64 x.1.dst) := hcc 1 (by decide)
      have c2 : wo.cell? ⟨b, o + k * 4 + 2, none⟩ = some (.slice x.2.1.a x.2.1.n x.2.1.c) := hcc 2 (by decide)
      have c3 : wo.cell? ⟨b, o + k * 4 + 3, none⟩ = some (.slice x.2.2.a x.2.2.n x.2.2.c) := hcc 3 (by decide)
      clear hp hc hcc hx
      go_wp2_with fail
      refine Plan.wp_chain planOwn5 w.heap.size (by kernel_rfl) rfl (by kernel_rfl) (by kernel_rfl) ?_
      repeat (first | (apply Plan.chain_skip rfl rfl; simp only [Act.put, List.setIfInBounds_toArray, List.set_cons_zero, List.set_cons_succ]) | (apply Plan.chain_det rfl rfl; (· intro w' hb; obtain ⟨hcl, hfz⟩ := bcellB hb; go_simp; rfl); simp only [Act.put, List.setIfInBounds_toArray, List.set_cons_zero, List.set_cons_succ]))
      refine Plan.chain_lit edgE w.heap.size 48 [x] #[.int .i64 x.1.src, .int .i64 x.1.dst, .slice x.2.1.a x.2.1.n x.2.1.c, .slice x.2.2.a x.2.2.n x.2.2.c] 1 rfl rfl rfl (by go_simp) rfl rfl (by simp) hsz hsz (Below.refl _ _).drew (fun ho5 hb5 => ?_)
      simp only [Act.put, List.setIfInBounds_toArray, List.set_cons_zero, List.set_cons_succ]
      have HO5 := hid ho5
      have HB5 := hid hb5
      clear ho5 hb5
      repeat (first | (apply Plan.chain_skip rfl rfl; simp only [Act.put, List.setIfInBounds_toArray, List.set_cons_zero, List.set_cons_succ]) | (apply Plan.chain_det rfl rfl; (· intro w' hb; obtain ⟨hcl, hfz⟩ := bcellB hb; go_simp; rfl); simp only [Act.put, List.setIfInBounds_toArray, List.set_cons_zero, List.set_cons_succ]))
      refine Plan.chain_append edgE (.tmp 11) (.tmp 33) 29 w.heap.size 0 48 _ 64 (m.take k) [x] rfl rfl rfl rfl Try.underlying29 infoEdge42 rfl (HO.out.drew.alloc _) (HO5.out.sl (Nat.zero_le _) (by simp)) (by simp; omega) (by simp only [maxLen]; simp; omega) (by simp; omega) (Nat.le_refl _) HB5.out (fun x7 m7 w7 ho7 hg7 hb7 => ?_)
      simp only [Act.put, List.setIfInBounds_toArray, List.set_cons_zero, List.set_cons_succ]
      have HO7 := hid ho7
      have HB7 := hid hb7
      clear ho7 hb7 hg7
      repeat (first | (apply Plan.chain_skip rfl rfl; simp only [Act.put, List.setIfInBounds_toArray, List.set_cons_zero, List.set_cons_succ]) | (apply Plan.chain_det rfl rfl; (· intro w' hb; obtain ⟨hcl, hfz⟩ := bcellB hb; go_simp; rfl); simp only [Act.put, List.setIfInBounds_toArray, List.set_cons_zero, List.set_cons_succ]))
      refine Plan.chain_nil ?_
      go_wp2_with fail
      refine ⟨⟨k + 1, by omega, by go_num, ?_, HBL.out.trans HB7.out⟩, by simp [intOf] <;> omega⟩
      have h9 := HO7.out
      rw [← HX.out, ← take_succV _ _ hlt, List.length_take, Nat.min_eq_left (by omega)] at h9
      exact h9
    · have hk2 : k = m.length := by omega
      have hof : OwnE edgE w.heap.size 48 wo u3 m := by
        have := HO.out
        rw [hk2, List.take_length] at this
        exact this
      have HOF := hid hof
      clear hof
      go_wp2_with fail
      go_ret
      exact ⟨_, rfl, ⟨m, rfl, HOF.out.sl (Nat.zero_le _) (by omega), fun i hi => ⟨((HROW.out i hi).1.below HBL.out).mono (Nat.zero_le _), ((HROW.out i hi).2.below HBL.out).mono (Nat.zero_le _)⟩⟩, HBL.out⟩

def FewP (N : Nat) (E : List Edg) (S : List (List Int)) : Prop := N ≤ 8 ∧ E.length ≤ 16 ∧ S.length ≤ 10 ∧ (∀ i, i < E.length → (nth E i).kill.length ≤ 6 ∧ (nth E i).gen.length ≤ 6) ∧ ∀ i, i < S.length → (nth S i).length ≤ 6
def FewQ (N : Nat) (E : List Edg) (S : List (List Int)) (e : Ending) : Prop := e = .returned (.bool false) ∨ (e = .returned (.bool true) ∧ FewP N E S)

set_option maxRecDepth 100000 in
set_option maxHeartbeats 8000000 in
theorem few_calls (lo1 lo2 : Nat) (ve vs : Value) (N : Nat) (E : List Edg) (S : List (List Int)) (w : World) (hE : EdgesAt lo1 w ve E) (hS : LaysAt lo2 w vs S) (hN : N < 256) :
    Calls Try.prog 12 #[.agg #[.int .u8 (N : Nat), ve, vs]] w fun e w' => FewQ N E S e ∧ Below w.heap.size w w' := by
  obtain ⟨ea, ec, eb, eo, K, G, rfl, p1, _, _, p2, p3, _, _, p4, _, _, p5, p6⟩ := hE.open
  obtain ⟨sa, sc, sb, so, SS, rfl, s1, s2, _, s4, _, m2, n2⟩ := hS.open
  have HEO := hid (And.intro p1 (And.intro p2 (And.intro p3 p4)))
  have HSO := hid (And.intro s1 (And.intro s2 s4))
  clear hE hS p1 p2 p3 p4 s1 s2 s4
  have hbA : Below w.heap.size w (w.alloc (.cells #[.int .u8 (N : Nat), .slice ea E.length ec, .slice sa S.length sc] 25)) := (Below.refl _ _).alloc (Nat.le_refl _) _
  have HBA := hid hbA
  clear hbA
  by_cases g1 : 8 < N
  · have g1' : (8 : Int) < N := by omega
    go_enter Try.func12, Try.ntmps12
    go_wp2_with fail
    go_ret
    exact ⟨.inl rfl, HBA.out⟩
  have g1' : ¬ (8 : Int) < N := by omega
  by_cases g2 : 16 < E.length
  · have g2' : (16 : Int) < E.length := by omega
    go_enter Try.func12, Try.ntmps12
    go_wp2_with fail
    go_ret
    exact ⟨.inl rfl, HBA.out⟩
  have g2' : ¬ (16 : Int) < E.length := by omega
  by_cases g3 : 10 < S.length
  · have g3' : (10 : Int) < S.length := by omega
    go_enter Try.func12, Try.ntmps12
    go_wp2_with fail
    go_ret
    exact ⟨.inl rfl, HBA.out⟩
  have g3' : ¬ (10 : Int) < S.length := by omega
  go_enter Try.func12, Try.ntmps12
  go_wp2_with fail
  generalize hW : World.alloc _ _ = W
  have hbW : Below w.heap.size w W := by rw [← hW]; exact (Below.refl _ _).alloc (Nat.le_refl _) _
  have R1 := show BoxAt W w.heap.size 25 [.int .u8 (N : Nat), .slice ea E.length ec, .slice sa S.length sc] by rw [← hW]; exact BoxAt.new _ _ _ _ _ rfl rfl
  have c0 := R1.cell 0 _ rfl
  have c1 := R1.cell 1 _ rfl
  have c2 := R1.cell 2 _ rfl
  have z1 := R1.lt
  have HBW := hid hbW
  clear hW hbW R1
  go_loopw [3] (fun i wr => ∃ (k : Nat), k ≤ E.length ∧ i = .int .i64 k ∧ wr = W ∧ ∀ j, j < k → (nth E j).kill.length ≤ 6 ∧ (nth E j).gen.length ≤ 6) (fun i _ => E.length - (intOf i).toNat)
  case atStart => exact ⟨0, Nat.zero_le _, rfl, rfl, fun j hj => absurd hj (Nat.not_lt_zero _)⟩
  case round =>
    obtain ⟨k, hk, rfl, hwr, hsm⟩ := hrel
    subst hwr
    have HSM := hid hsm
    clear hsm
    by_cases hlt : k < E.length
    · have hlt2 : (k : Int) < E.length := Int.ofNat_lt.2 hlt
      obtain ⟨p1, p2, p3, p4⟩ := HEO.out
      have e1 := p1 (by omega)
      have ze := p4 (by omega)
      subst e1
      have d2 := (HBW.out.cell (p := ⟨eb, _, none⟩) ze).trans (p2 k hlt)
      have d3 := (HBW.out.cell (p := ⟨eb, _, none⟩) ze).trans (p3 k hlt)
      clear p1 p2 p3 p4
      by_cases q1 : 6 < (nth E k).kill.length
      · have q1' : (6 : Int) < (nth E k).kill.length := by omega
        go_wp2_with fail
        go_ret
        exact ⟨.inl rfl, HBW.out⟩
      have q1' : ¬ (6 : Int) < (nth E k).kill.length := by omega
      by_cases q2 : 6 < (nth E k).gen.length
      · have q2' : (6 : Int) < (nth E k).gen.length := by omega
        go_wp2_with fail
        go_ret
        exact ⟨.inl rfl, HBW.out⟩
      have q2' : ¬ (6 : Int) < (nth E k).gen.length := by omega
      go_wp2_with fail
      refine ⟨⟨k + 1, by omega, by go_num, trivial, fun j hj => ?_⟩, by simp [intOf] <;> omega⟩
      rcases Nat.lt_or_ge j k with hj2 | hj2
      · exact HSM.out j hj2
      · obtain rfl : j = k := by omega
        exact ⟨by omega, by omega⟩
    · have HE6 := hid (show ∀ j, j < E.length → (nth E j).kill.length ≤ 6 ∧ (nth E j).gen.length ≤ 6 from fun j hj => HSM.out j (by omega))
      clear HSM
      go_wp2_with fail
      obtain ⟨W2, hW2⟩ : ∃ W2, W2 = wr := ⟨_, rfl⟩
      subst hW2
      clear hk hlt
      go_loopw [4] (fun i wr => ∃ (k : Nat), k ≤ S.length ∧ i = .int .i64 k ∧ wr = W2 ∧ ∀ j, j < k → (nth S j).length ≤ 6) (fun i _ => S.length - (intOf i).toNat)
      case atStart => exact ⟨0, Nat.zero_le _, rfl, rfl, fun j hj => absurd hj (Nat.not_lt_zero _)⟩
      case round =>
        obtain ⟨j0, hk, rfl, hwr, hsm⟩ := hrel
        subst hwr
        have HSM := hid hsm
        clear hsm
        by_cases hlt : j0 < S.length
        · have hlt2 : (j0 : Int) < S.length := Int.ofNat_lt.2 hlt
          obtain ⟨s1, s2, s4⟩ := HSO.out
          have e1 := s1 (by omega)
          have zs := s4 (by omega)
          subst e1
          have d2 := (HBW.out.cell (p := ⟨sb, _, none⟩) zs).trans (s2 j0 hlt)
          clear s1 s2 s4
          by_cases q1 : 6 < (nth S j0).length
          · have q1' : (6 : Int) < (nth S j0).length := by omega
            go_wp2_with fail
            go_ret
            exact ⟨.inl rfl, HBW.out⟩
          have q1' : ¬ (6 : Int) < (nth S j0).length := by omega
          go_wp2_with fail
          refine ⟨⟨j0 + 1, by omega, by go_num, trivial, fun j hj => ?_⟩, by simp [intOf] <;> omega⟩
          rcases Nat.lt_or_ge j j0 with hj2 | hj2
          · exact HSM.out j hj2
          · obtain rfl : j = j0 := by omega
            omega
        · have HF := hid (show FewP N E S from ⟨by omega, by omega, by omega, HE6.out, fun j hj => HSM.out j (by omega)⟩)
          go_wp2_with fail
          go_ret
          exact ⟨.inr ⟨rfl, HF.out⟩, HBW.out⟩

end Go.Proofs.Ytnbffkcnhphdnaa
