/-
  The linker's layout, walked: the place of a layout among those there are.
-/
import Derived.Laws.EntriesVeiled
import Derived.Test.YtealeofgfgbheaaZLkF
import Derived.Test.YtealeofgfgbheaaZLkH
import Derived.Test.YtealeofgfgbheaaZEqC
namespace Go.Proofs.Ytealeofgfgbheaa
set_option linter.unusedVariables false
set_option linter.unusedSimpArgs false
open Go.RowKit

theorem eqI12_calls (lo1 lo2 : Nat) (va vb : Value) (l r : List Int) (w : World) (ha : IntsAt lo1 w va l) (hb : IntsAt lo2 w vb r) :
    Calls Try.prog 52 #[va, vb] w fun e w' => e = .returned (.bool (decide (l = r))) ∧ Below w.heap.size w w' := by
  obtain ⟨a1, c1, b1, o1, rfl, p1, q1, k1, _, _, m1, n1⟩ := ha.open
  obtain ⟨a2, c2, b2, o2, rfl, p2, q2, k2, _, _, m2, n2⟩ := hb.open
  by_cases hl : l.length = r.length
  · by_cases h0 : l.length = 0
    · obtain rfl : l = [] := List.eq_nil_of_length_eq_zero h0
      obtain rfl : r = [] := List.eq_nil_of_length_eq_zero (by omega)
      refine (Try.slices_Equal_int_empty a1 a2 c1 0 c2 w (by omega)).mono ?_
      rintro e w' ⟨rfl, rfl⟩
      exact ⟨by simp, Below.refl _ _⟩
    · have e1 := p1 (by omega)
      have e2 := p2 (by omega)
      subst e1 e2
      have g : ∀ (L : List Int) j, j < L.length → nth L j = L.getD j 0 := fun L j hj => by rw [nth_eq _ _ hj]; simp [hj]
      refine (Try.slices_Equal_int b1 o1 l.length c1 b2 o2 r.length c2 l r w (Nat.le_refl _) (Nat.le_refl _) (by omega) (by omega) (fun j hj => by rw [← g l j hj]; exact q1 j hj) (fun j hj => by rw [← g r j hj]; exact q2 j hj)).mono ?_
      rintro e w' ⟨rfl, q, rfl⟩
      refine ⟨?_, below_drewN (Below.refl _ _) _⟩
      rw [List.take_length, List.take_length]
      by_cases h : l = r
      · simp [h]
      · simp [h]
  · refine (Try.slices_Equal_int_lens a1 a2 l.length c1 r.length c2 w hl).mono ?_
    rintro e w' ⟨rfl, rfl⟩
    exact ⟨by rw [decide_eq_false (fun he => hl (by rw [he]))], Below.refl _ _⟩

set_option maxRecDepth 100000 in
set_option maxHeartbeats 4000000 in
theorem layB_calls (lo1 lo2 bc : Nat) (va vb : Value) (l r : List Int) (w : World) (ha : IntsAt lo1 w va l) (hb : IntsAt lo2 w vb r) (hx : BoxAt w bc 45 [vb]) :
    Calls Try.prog 51 #[va, .pointer (some ⟨bc, 0, none⟩)] w fun e w' => e = .returned (.bool (decide (l = r))) ∧ Below w.heap.size w w' := by
  have h0 := hx.cell 0 _ rfl
  have h1 := hx.lt
  have HA := hid ha
  have HB := hid hb
  obtain ⟨_, _, _, _, rfl, -⟩ := ha.open
  obtain ⟨_, _, _, _, rfl, -⟩ := hb.open
  clear ha hb hx
  go_enter Try.func51, Try.ntmps51
  go_wp2_with fail
  refine (eqI12_calls _ _ _ _ l r _ HA.out HB.out).mono ?_
  rintro e w' ⟨rfl, hbw⟩
  go_wp2_with fail
  go_ret
  exact ⟨rfl, hbw⟩

theorem fnd_upto {α : Type} [DecidableEq α] [Inhabited α] : ∀ (l : List α) (x : α) (k : Nat), k < l.length → (∀ j, j < k → nth l j ≠ x) → nth l k = x → fnd l x = some (k : Int)
  | [], _, _, h, _, _ => by simp at h
  | y :: l, x, 0, _, _, h => by
    have : y = x := h
    simp [fnd, this]
  | y :: l, x, k + 1, h, h1, h2 => by
    have e : ¬ y = x := h1 0 (by omega)
    have ih := fnd_upto l x k (by simpa using h) (fun j hj => h1 (j + 1) (by omega)) h2
    rw [fnd, if_neg e, ih]
    simp
theorem fnd_never {α : Type} [DecidableEq α] [Inhabited α] (l : List α) (x : α) (h : ∀ j, j < l.length → nth l j ≠ x) : fnd l x = none := by
  rw [fnd_none]
  intro hm
  obtain ⟨i, hi, he⟩ := List.getElem_of_mem hm
  exact h i hi (by rw [nth_eq _ _ hi]; exact he)

set_option maxRecDepth 100000 in
set_option maxHeartbeats 4000000 in
theorem indexL_calls (lo lo2 bc : Nat) (v vb : Value) (Y : List (List Int)) (r : List Int) (w : World) (h : LaysAt lo w v Y) (hb : IntsAt lo2 w vb r) (hx : BoxAt w bc 45 [vb]) :
    Calls Try.prog 50 #[v, .func (Fn.func 51) #[] #[.pointer (some ⟨bc, 0, none⟩)]] w fun e w' => e = .returned (.int .i64 ((fnd Y r).getD (-1))) ∧ Below w.heap.size w w' := by
  obtain ⟨a1, c1, b1, o1, S, rfl, p1, q1, r1, k1, m1, n1, n2⟩ := h.open
  have HB := hid hb
  have HX := hid hx
  have HR := hid r1
  clear h hb hx r1
  go_enter Try.func50, Try.ntmps50
  go_wp2_with fail
  go_loopw [8] (fun i wr => ∃ k : Nat, k ≤ Y.length ∧ i = .int .i64 k ∧ (∀ j, j < k → nth Y j ≠ r) ∧ Below w.heap.size w wr) (fun i _ => Y.length - (intOf i).toNat)
  case atStart => exact ⟨0, Nat.zero_le _, rfl, fun j hj => by omega, Below.refl _ _⟩
  case round =>
    obtain ⟨k, hk, rfl, hall, hbw⟩ := hrel
    obtain ⟨wo, hwo⟩ : ∃ wo, wo = wr := ⟨_, rfl⟩
    subst hwo
    have HALL := hid hall
    have HBW := hid hbw
    by_cases hlt : k < Y.length
    · have e1 := p1 (by omega)
      subst e1
      have gl := k1 (by omega)
      have d1 := (hbw.cell (p := ⟨b1, _, none⟩) gl).trans (q1 k hlt)
      have d2 : b1 < wo.heap.size := Nat.lt_of_lt_of_le gl hbw.size
      have hlt2 : (k : Int) < Y.length := by omega
      clear p1 q1 k1 hall hbw
      go_wp2_with fail
      refine (layB_calls lo lo2 bc _ vb (nth Y k) r _ ((HR.out k hlt).below HBW.out) (HB.out.below HBW.out) (HX.out.below HBW.out)).mono ?_
      rintro e w1 ⟨rfl, hb1⟩
      have HB1 := hid (HBW.out.trans (hb1.mono HBW.out.size))
      clear hb1
      by_cases hx : nth Y k = r
      · have HE := hid hx
        rw [decide_eq_true hx]
        clear hx
        go_wp2_with fail
        go_ret
        refine ⟨?_, HB1.out⟩
        rw [fnd_upto Y r k hlt HALL.out HE.out]
        rfl
      · have HE := hid hx
        rw [decide_eq_false hx]
        clear hx
        go_wp2_with fail
        go_roundw
        case rel =>
          refine ⟨k + 1, by omega, by go_num, fun j hj => ?_, HB1.out⟩
          rcases Nat.lt_or_ge j k with h1 | h1
          · exact HALL.out j h1
          · rw [show j = k by omega]; exact HE.out
        case measure => simp [intOf]; omega
    · clear p1 q1 k1 hall hbw
      go_wp2_with fail
      go_ret
      refine ⟨?_, HBW.out⟩
      rw [fnd_never Y r (fun j hj => HALL.out j (by omega))]
      rfl

end Go.Proofs.Ytealeofgfgbheaa

/-
  The linker's layout, walked.
-/
namespace Go.Proofs.Ytealeofgfgbheaa
set_option linter.unusedVariables false
set_option linter.unusedSimpArgs false
open Go.RowKit

def addY (Y : List (List Int)) (r : List Int) : List (List Int) := if r ∈ Y then Y else Y ++ [r]
theorem LkSt.snocY {lo : Nat} {w0 wr w' : World} {bK bF bG cF cG : Nat} {vq vg vl v2 : Value} {D : List Fun} {ss : List Slc} {G : List Glob} {Y : List (List Int)} {rs : List Slc} {m : Int} {r : List Int} {s : Slc}
    (h : LkSt lo w0 wr bK bF bG cF cG vq vg vl D ss G Y rs m) (hg : wr.grownBy w' vl.ownBlock) (hrow : OwnE rowE w0.heap.size 45 w' v2 (rs ++ [s])) (hs : OwnE intE w0.heap.size 3 wr s.val r) :
    LkSt lo w0 (w'.setCell ⟨bK, 2, none⟩ v2) bK bF bG cF cG vq vg v2 D ss G (Y ++ [r]) (rs ++ [s]) m := by
  have hO : Only vl.ownBlock wr w' := Only.grown hg
  have hS : Only (some bK) w' (w'.setCell ⟨bK, 2, none⟩ v2) := Only.store _ _ _ _
  have hlow : Below w0.heap.size wr w' := Below.grownE (Below.refl _ _) h.lays.row hg h.q.low.size (Nat.le_refl _)
  have hq := h.q.only hO hlow (h.q.row.neRow h.lays.row (by decide)) (fun _ _ hc => hc.neRow h.lays.row (by decide))
  have hx : BoxAt w' bK _ _ := h.box.only hO (h.box.neRow h.lays.row (by decide))
  have g2 := h.globs.only hO (h.globs.neRow h.lays.row (by decide))
  have l2 : OwnLays w0.heap.size w' v2 (Y ++ [r]) (rs ++ [s]) := h.lays.snoc hrow (fun j hj => (h.lays.each j hj).only hO ((h.lays.each j hj).neRow h.lays.row (by decide))) (hs.only hO (hs.neRow h.lays.row (by decide)))
  have f2 : MapN strK w' bF cF _ := h.mF.grown hg (h.mF.neRow h.lays.row)
  have m2 : MapN strK w' bG cG _ := h.mG.grown hg (h.mG.neRow h.lays.row)
  exact ⟨hq.onlyBox hS ((Below.refl w0.heap.size w').setCell (p := ⟨bK, 2, none⟩) h.hK _) hx (by decide) (by decide), g2.only hS (g2.neBox hx (by decide)), l2.onlyBox hS hx (by decide) (by decide), hx.set 2 v2, f2.setCell (by intro e; exact (hx.neMapN f2) (by rw [e])) _, m2.setCell (by intro e; exact (hx.neMapN m2) (by rw [e])) _, h.cF, h.cG, h.ne, h.hK, h.hF, h.hG⟩

noncomputable def planLy4 : Plan := mkPlan (regionOf Try.f33 4) [(7, .new), (8, .new), (9, .new), (13, .fin)] []

set_option maxRecDepth 100000 in
set_option maxHeartbeats 8000000 in
theorem layout_calls (lo lr : Nat) (w0 w : World) (bK bF bG cF cG : Nat) (ya : Option Addr) (yc : Nat) (vq vg va : Value) (D : List Fun) (ss : List Slc) (G : List Glob) (Y : List (List Int)) (rs : List Slc) (m : Int) (r : List Int)
    (h : LkSt lo w0 w bK bF bG cF cG vq vg (.slice ya Y.length yc) D ss G Y rs m) (hr : IntsAt lr w va r) (hY : Y.length ≤ 10000) (hYr : ∀ c ∈ Y, c.length ≤ 1000000) (hrl : r.length ≤ 1000000) :
    Calls Try.prog 33 #[.pointer (some ⟨bK, 0, none⟩), va] w fun e w' => ∃ n : Int, e = .returned (.int .i64 n) ∧ fnd (addY Y r) r = some n ∧ (r ∈ Y → Below w.heap.size w w') ∧ ∃ ya' yc' rs', LkSt lo w0 w' bK bF bG cF cG vq vg (.slice ya' (addY Y r).length yc') D ss G (addY Y r) rs' m := by
  have H := hid h
  have HR := hid hr
  have HYR := hid hYr
  obtain ⟨ra, rc, _, _, rfl, -⟩ := hr.open
  clear h hr hYr
  go_enter Try.func33, Try.ntmps33
  have k2 := H.out.box.cell 2 _ rfl
  have kz := H.out.box.lt
  go_wp2_with fail
  generalize hW1 : World.alloc _ _ = W1
  have hb1 : Below w.heap.size w W1 := by rw [← hW1]; exact (Below.refl _ _).alloc (Nat.le_refl _) _
  have R1 := hid (show BoxAt W1 w.heap.size 45 [.slice ra r.length rc] by rw [← hW1]; exact BoxAt.new _ _ _ _ _ rfl rfl)
  have HB1 := hid hb1
  clear hW1 hb1 k2 kz
  have hzl : ∀ c ∈ Y, c.length ≤ 140737488355328 := fun c hc => by have := HYR.out c hc; omega
  refine (indexL_calls 0 lr w.heap.size _ _ Y r W1 ((H.out.fresh HB1.out).lays.at (Nat.zero_le _) (by omega) hzl) (HR.out.below HB1.out) R1.out).mono ?_
  rintro e W2 ⟨rfl, hb2⟩
  have HB2 := hid (HB1.out.trans (hb2.mono HB1.out.size))
  have R2 := hid (R1.out.below hb2)
  have H2 := hid (H.out.fresh HB2.out)
  clear hb2 R1 HB1 hzl
  by_cases hin : r ∈ Y
  · obtain ⟨i, hi, hfi, -⟩ := fnd_some Y r hin
    rw [hfi]
    have HFI := hid hfi
    have HIN := hid hin
    clear hfi hin
    have hge : ¬ ((i : Int) < 0) := by omega
    go_wp2_with fail
    go_ret
    have e : addY Y r = Y := by unfold addY; rw [if_pos HIN.out]
    exact ⟨_, rfl, by rw [e]; exact HFI.out, fun _ => HB2.out, _, _, rs, by rw [e]; exact H2.out⟩
  · rw [(fnd_none Y r).2 hin]
    have HIN := hid hin
    have HAD := hid (show addY Y r = Y ++ [r] by unfold addY; rw [if_neg hin])
    clear hin
    have k2 := H2.out.box.cell 2 _ rfl
    have kz := H2.out.box.lt
    go_wp2_with fail
    have HG := hid (show ∀ w', (BoxAt w' bK tLk [vq, vg, .slice ya Y.length yc, .int .i64 m, .map (some bF), .map (some bG)] ∧ BoxAt w' w.heap.size 45 [.slice ra r.length rc]) → w'.cell? ⟨bK, 2, none⟩ = some (.slice ya Y.length yc) ∧ (w'.cell? ⟨w.heap.size, 0, none⟩ = some (.slice ra r.length rc) ∧ w'.cell? ⟨w.heap.size, 0, none⟩ = some (.slice ra r.length rc) ∧ bK < w'.heap.size ∧ w.heap.size < w'.heap.size) from fun w' hw => ⟨hw.1.cell 2 _ rfl, hw.2.cell 0 _ rfl, hw.2.cell 0 _ rfl, hw.1.lt, hw.2.lt⟩)
    refine Plan.wp_chainG planLy4 (fun w' => BoxAt w' bK tLk [vq, vg, .slice ya Y.length yc, .int .i64 m, .map (some bF), .map (some bG)] ∧ BoxAt w' w.heap.size 45 [.slice ra r.length rc]) ⟨H2.out.box.drew, R2.out.drew⟩ (by kernel_rfl) rfl (by kernel_rfl) (by kernel_rfl) ?_
    repeat (first | (apply Plan.chain_skip rfl rfl; simp only [Act.put, List.setIfInBounds_toArray, List.set_cons_zero, List.set_cons_succ]) | (apply Plan.chain_det rfl rfl; (· intro w' hb; obtain ⟨hcl, hG0, hG1, hG2, hG3⟩ := HG.out w' hb; go_simp; rfl); simp only [Act.put, List.setIfInBounds_toArray, List.set_cons_zero, List.set_cons_succ]))
    refine Plan.chain_call 53 #[.slice ra r.length rc] (fun v w' => ∃ na nc, v = .slice na r.length nc ∧ OwnE intE w0.heap.size 3 w' v r ∧ Below W2.heap.size W2 w') rfl rfl rfl (by go_simp) ?_ (fun v w' h => ?_) (fun v3 w3 h => ?_)
    · refine (clnInt_calls lr _ r W2.drew ((HR.out.below HB2.out).below (Below.refl _ _).drew) hrl).mono ?_
      rintro e w' ⟨v, rfl, ho, hb⟩
      obtain ⟨na, nc, rfl⟩ := ho.anySlice
      exact ⟨_, rfl, na, nc, rfl, ho.mono H2.out.q.low.size, (Below.refl _ _).drew.trans hb⟩
    · obtain ⟨_, _, _, _, hb⟩ := h
      exact ⟨H2.out.box.below hb, R2.out.below hb⟩
    obtain ⟨na, nc, rfl, ho3, hb3⟩ := h
    simp only [Act.put, List.setIfInBounds_toArray, List.set_cons_zero, List.set_cons_succ]
    have HO3 := hid ho3
    have HB3 := hid hb3
    clear ho3 hb3
    repeat (first | (apply Plan.chain_skip rfl rfl; simp only [Act.put, List.setIfInBounds_toArray, List.set_cons_zero, List.set_cons_succ]) | (apply Plan.chain_det rfl rfl; (· intro w' hb; obtain ⟨hcl, hG0, hG1, hG2, hG3⟩ := HG.out w' hb; go_simp; rfl); simp only [Act.put, List.setIfInBounds_toArray, List.set_cons_zero, List.set_cons_succ]))
    have HA3 := hid (show Below w3.heap.size w3 (w3.alloc (.cells #[.slice na r.length nc] 45)) from (Below.refl _ _).alloc (Nat.le_refl _) _)
    have HS3 := hid ((H2.out.fresh HB3.out).fresh HA3.out)
    have R3 := hid ((R2.out.below HB3.out).below HA3.out)
    have hz3 : w0.heap.size ≤ w3.heap.size := Nat.le_trans H2.out.q.low.size HB3.out.size
    have hry : rs.length = Y.length := H2.out.lays.len
    refine Plan.chain_run (.slice (some ⟨w3.heap.size, 0, none⟩) 1 1) (w3.alloc (.cells #[.slice na r.length nc] 45)) rfl rfl rfl (by go_simp) ⟨HS3.out.box, R3.out⟩ ?_
    simp only [Act.put, List.setIfInBounds_toArray, List.set_cons_zero, List.set_cons_succ]
    refine Plan.chain_appG rowE (.tmp 26) (.tmp 29) 24 w0.heap.size w0.heap.size 45 _ 24 rs [(⟨na, r.length, nc⟩ : Slc)] rfl rfl rfl rfl Try.underlying24 infoRow12 rfl HS3.out.lays.row (OwnE.sl (OwnE.lit rowE w3 w0.heap.size 45 [(⟨na, r.length, nc⟩ : Slc)] _ w3.heap.size 1 rfl hz3 rfl rfl (by simp)) (Nat.le_refl _) (by simp)) (by rw [hry]; simp; omega) (by rw [hry]; simp only [maxLen]; simp; omega) (by simp; omega) (fun g5 cap5 w5 ho5 hg5 => ?_)
    have hz5 : (rs ++ [(⟨na, r.length, nc⟩ : Slc)]).length = Y.length + 1 := by rw [List.length_append, hry]; rfl
    rw [hz5] at ho5 ⊢
    have hk5 := HS3.out.box.only (Only.grown hg5) (HS3.out.box.neRow HS3.out.lays.row (by decide))
    have hf5 := R3.out.only (Only.grown hg5) (fun e => by have := H.out.lays.row.lt _ e.symm; omega)
    have HS5 := hid (HS3.out.snocY (r := r) (s := ⟨na, r.length, nc⟩) (v2 := .slice g5 (Y.length + 1) cap5) hg5 ho5 (HO3.out.alloc _))
    refine ⟨⟨hk5, hf5⟩, ?_⟩
    simp only [Act.put, List.setIfInBounds_toArray, List.set_cons_zero, List.set_cons_succ]
    have q0 := hk5.cell 2 _ rfl
    have qf := hk5.frozen 2
    have qz := hk5.lt
    clear hk5 hf5 ho5 hg5 hz5 hz3
    repeat (first | (apply Plan.chain_skip rfl rfl; simp only [Act.put, List.setIfInBounds_toArray, List.set_cons_zero, List.set_cons_succ]) | (apply Plan.chain_det rfl rfl; (· intro w' hb; obtain ⟨hcl, hG0, hG1, hG2, hG3⟩ := HG.out w' hb; go_simp; rfl); simp only [Act.put, List.setIfInBounds_toArray, List.set_cons_zero, List.set_cons_succ]))
    refine Plan.chain_fin rfl rfl ?_
    unfold Oper.wp
    go_simp
    go_wp2_with fail
    go_ret
    refine ⟨_, rfl, ?_, fun h => absurd h HIN.out, g5, cap5, rs ++ [⟨na, r.length, nc⟩], ?_⟩
    · rw [HAD.out]
      have := fnd_snoc Y r HIN.out r
      rw [if_pos rfl] at this
      exact this.symm
    · rw [HAD.out, List.length_append]
      exact HS5.out

end Go.Proofs.Ytealeofgfgbheaa

/-
  The linker's numbering (the closure of relocate), walked.
-/
namespace Go.Proofs.Ytealeofgfgbheaa
set_option linter.unusedVariables false
set_option linter.unusedSimpArgs false
open Go.RowKit

/-- The number of an operand behind the linking. -/
def numR (NF NG : List ByteArray) (Y : List (List Int)) (P : Prg) (op n : Int) : Int :=
  if op = 18 then (fnd NG (nth P.globals n.toNat).name).getD 0 else if op = 21 then (fnd Y (nth P.layouts n.toNat)).getD 0 else (fnd NF (nth P.funcs n.toNat).name).getD 0
/-- An operand is in its range. -/
def RngI (P : Prg) (op n : Int) : Prop := 0 ≤ n ∧ (op = 18 → n < P.globals.length) ∧ (op = 21 → n < P.layouts.length) ∧ (op ≠ 18 → op ≠ 21 → n < P.funcs.length)

noncomputable def planNr3 : Plan := mkPlan (regionOf Try.f54 3) [] []
noncomputable def planNr5 : Plan := mkPlan (regionOf Try.f54 5) [(6, .new)] []
noncomputable def planNr6 : Plan := mkPlan (regionOf Try.f54 6) [] []

set_option maxRecDepth 100000 in
set_option maxHeartbeats 8000000 in
theorem number_calls (lo : Nat) (w0 w : World) (bK bF bG cF cG bk bp : Nat) (ya : Option Addr) (yc : Nat) (vq vg uf ug ul : Value) (D : List Fun) (ss : List Slc) (G : List Glob) (Y : List (List Int)) (rs : List Slc) (m : Int) (P : Prg) (op n : Int)
    (h : LkSt lo w0 w bK bF bG cF cG vq vg (.slice ya Y.length yc) D ss G Y rs m) (hP : ProgAt lo w0 uf ug ul P) (hW : PrgWf P) (hk : BoxAt w bk 51 [.pointer (some ⟨bK, 0, none⟩)]) (hp : BoxAt w bp 26 [uf, ug, ul, .int .i64 P.main])
    (hr : RngI P op n) (hY : Y.length ≤ 10000) (hYr : ∀ c ∈ Y, c.length ≤ 1000000) (hPY : ∀ c ∈ P.layouts, c ∈ Y) :
    Calls Try.prog 54 #[.int .i64 op, .int .i64 n, .pointer (some ⟨bk, 0, none⟩), .pointer (some ⟨bp, 0, none⟩)] w fun e w' => e = .returned (.int .i64 (numR (D.map fun f => f.name) (G.map fun g => g.name) Y P op n)) ∧ Below w.heap.size w w' := by
  have H := hid h
  have HK := hid hk
  have HP := hid hp
  obtain ⟨h0, hg, hl, hf⟩ := hr
  obtain ⟨i, rfl⟩ : ∃ i : Nat, n = i := ⟨n.toNat, by omega⟩
  obtain ⟨fa, fc, fb, fo, FS, rfl, fp, f0, f1, f2, f3, fcode, fbl, -, -, -⟩ := hP.funcs.open
  obtain ⟨pa, pc, pb, po, rfl, pp, p0, p1, pbl, -, -, -⟩ := hP.globs.open
  obtain ⟨la, lc, lb, lo', LS, rfl, lp, l0, li, lbl, -, -, -⟩ := hP.lays.open
  have hi3 : ¬ ((i : Int) < 0) := by omega
  have hlow := h.q.low
  clear h hk hp
  have kA := HK.out.cell 0 _ rfl
  have kz := HK.out.lt
  have pA := HP.out.cell 0 _ rfl
  have pB := HP.out.cell 1 _ rfl
  have pC := HP.out.cell 2 _ rfl
  have pz := HP.out.lt
  have bF' := H.out.box.cell 4 _ rfl
  have bG' := H.out.box.cell 5 _ rfl
  have bz := H.out.box.lt
  by_cases h18 : op = 18
  · have hi := hg h18
    have hiN : i < P.globals.length := by omega
    obtain rfl := pp (by omega)
    have gl := Nat.lt_of_lt_of_le (pbl (by omega)) hlow.size
    have y0 := (hlow.cell (p := ⟨pb, _, none⟩) (pbl (by omega))).trans (p0 i hiN)
    have HGD := hid (show strK.good (nth P.globals i).name from (hW.glob _ (nth_mem P.globals i hiN)).1)
    have e1 : (op == 18) = true := by simp [h18]
    have HN := hid (show numR (D.map fun f => f.name) (G.map fun g => g.name) Y P op i = (fnd (G.map fun g => g.name) (nth P.globals i).name).getD 0 by unfold numR; rw [if_pos h18, Int.toNat_natCast])
    clear h18 hg hl hf fp f0 f1 f2 f3 fcode fbl pp p0 p1 pbl lp l0 li lbl hlow hP hW hYr hPY
    go_enter Try.func54, Try.ntmps54
    go_wp2_with fail
    refine Plan.wp_chain planNr3 w.heap.size (by kernel_rfl) rfl (by kernel_rfl) (by kernel_rfl) ?_
    repeat (first | (apply Plan.chain_skip rfl rfl; simp only [Act.put, List.setIfInBounds_toArray, List.set_cons_zero, List.set_cons_succ]) | (apply Plan.chain_det rfl rfl; (· intro w' hb; obtain ⟨hcl, hfz⟩ := bcellB hb; go_simp; rfl); simp only [Act.put, List.setIfInBounds_toArray, List.set_cons_zero, List.set_cons_succ]))
    refine Plan.chain_det (v := .int .i64 ((fnd (G.map fun g => g.name) (nth P.globals i).name).getD 0)) rfl rfl (fun w' hb => ?_) ?_
    · have hlk := (H.out.mG.below hb).look 52 Try.underlying52 (nth P.globals i).name HGD.out
      have hlk' : (Instr.lookup 52 (.map (some bG)) (.string (nth P.globals i).name) false).run Try.prog w' = .ok (.int .i64 ((fnd (G.map fun g => g.name) (nth P.globals i).name).getD 0)) w' := hlk
      clear hlk
      go_simp
    simp only [Act.put, List.setIfInBounds_toArray, List.set_cons_zero, List.set_cons_succ]
    repeat (first | (apply Plan.chain_skip rfl rfl; simp only [Act.put, List.setIfInBounds_toArray, List.set_cons_zero, List.set_cons_succ]) | (apply Plan.chain_det rfl rfl; (· intro w' hb; obtain ⟨hcl, hfz⟩ := bcellB hb; go_simp; rfl); simp only [Act.put, List.setIfInBounds_toArray, List.set_cons_zero, List.set_cons_succ]))
    refine Plan.chain_nil ?_
    go_wp2_with fail
    go_ret
    exact ⟨by rw [HN.out]; rfl, (Below.refl _ _).drew⟩
  · by_cases h21 : op = 21
    · have hi := hl h21
      have hiN : i < P.layouts.length := by omega
      obtain rfl := lp (by omega)
      have gl := Nat.lt_of_lt_of_le (lbl (by omega)) hlow.size
      have y0 := (hlow.cell (p := ⟨lb, _, none⟩) (lbl (by omega))).trans (l0 i hiN)
      have HLI := hid ((li i hiN).below hlow)
      have e1 : (op == 18) = false := by simp [h18]
      have e2 : (op == 21) = true := by simp [h21]
      have hin := hPY _ (nth_mem P.layouts i hiN)
      have HAY := hid (show addY Y (nth P.layouts i) = Y by unfold addY; rw [if_pos hin])
      have HIN := hid hin
      have HYR := hid hYr
      have hcl := hYr _ hin
      have HN := hid (show numR (D.map fun f => f.name) (G.map fun g => g.name) Y P op i = (fnd Y (nth P.layouts i)).getD 0 by unfold numR; rw [if_neg h18, if_pos h21, Int.toNat_natCast])
      clear h18 h21 hg hl hf fp f0 f1 f2 f3 fcode fbl pp p0 p1 pbl lp l0 li lbl hlow hP hW hYr hPY hin
      go_enter Try.func54, Try.ntmps54
      go_wp2_with fail
      refine Plan.wp_chain planNr5 w.heap.size (by kernel_rfl) rfl (by kernel_rfl) (by kernel_rfl) ?_
      repeat (first | (apply Plan.chain_skip rfl rfl; simp only [Act.put, List.setIfInBounds_toArray, List.set_cons_zero, List.set_cons_succ]) | (apply Plan.chain_det rfl rfl; (· intro w' hb; obtain ⟨hcl, hfz⟩ := bcellB hb; go_simp; rfl); simp only [Act.put, List.setIfInBounds_toArray, List.set_cons_zero, List.set_cons_succ]))
      refine Plan.chain_call 33 #[.pointer (some ⟨bK, 0, none⟩), .slice (LS i).a (nth P.layouts i).length (LS i).c] (fun v w' => v = .int .i64 ((fnd Y (nth P.layouts i)).getD 0) ∧ Below w.heap.size w w') rfl rfl rfl (by go_simp) ?_ (fun v w' h => ?_) (fun v3 w3 h => ?_)
      · refine (layout_calls lo lo w0 w.drew bK bF bG cF cG ya yc _ _ _ D ss G Y rs m (nth P.layouts i) (H.out.fresh (Below.refl _ _).drew) (HLI.out.below (Below.refl _ _).drew) hY HYR.out hcl).mono ?_
        rintro e w' ⟨v, rfl, hv, hb, -⟩
        rw [HAY.out] at hv
        exact ⟨_, rfl, by rw [hv]; rfl, (Below.refl _ _).drew.trans (hb HIN.out)⟩
      · exact h.2
      obtain ⟨rfl, hb3⟩ := h
      simp only [Act.put, List.setIfInBounds_toArray, List.set_cons_zero, List.set_cons_succ]
      repeat (first | (apply Plan.chain_skip rfl rfl; simp only [Act.put, List.setIfInBounds_toArray, List.set_cons_zero, List.set_cons_succ]) | (apply Plan.chain_det rfl rfl; (· intro w' hb; obtain ⟨hcl, hfz⟩ := bcellB hb; go_simp; rfl); simp only [Act.put, List.setIfInBounds_toArray, List.set_cons_zero, List.set_cons_succ]))
      refine Plan.chain_nil ?_
      go_wp2_with fail
      go_ret
      exact ⟨by rw [HN.out]; rfl, hb3⟩
    · have hi := hf h18 h21
      have hiN : i < P.funcs.length := by omega
      obtain rfl := fp (by omega)
      have gl := Nat.lt_of_lt_of_le (fbl (by omega)) hlow.size
      have y0 := (hlow.cell (p := ⟨fb, _, none⟩) (fbl (by omega))).trans (f0 i hiN)
      have HGD := hid (show strK.good (nth P.funcs i).name from (hW.func _ (nth_mem P.funcs i hiN)).name)
      have e1 : (op == 18) = false := by simp [h18]
      have e2 : (op == 21) = false := by simp [h21]
      have HN := hid (show numR (D.map fun f => f.name) (G.map fun g => g.name) Y P op i = (fnd (D.map fun f => f.name) (nth P.funcs i).name).getD 0 by unfold numR; rw [if_neg h18, if_neg h21, Int.toNat_natCast])
      clear h18 h21 hg hl hf fp f0 f1 f2 f3 fcode fbl pp p0 p1 pbl lp l0 li lbl hlow hP hW hYr hPY
      go_enter Try.func54, Try.ntmps54
      go_wp2_with fail
      refine Plan.wp_chain planNr6 w.heap.size (by kernel_rfl) rfl (by kernel_rfl) (by kernel_rfl) ?_
      repeat (first | (apply Plan.chain_skip rfl rfl; simp only [Act.put, List.setIfInBounds_toArray, List.set_cons_zero, List.set_cons_succ]) | (apply Plan.chain_det rfl rfl; (· intro w' hb; obtain ⟨hcl, hfz⟩ := bcellB hb; go_simp; rfl); simp only [Act.put, List.setIfInBounds_toArray, List.set_cons_zero, List.set_cons_succ]))
      refine Plan.chain_det (v := .int .i64 ((fnd (D.map fun f => f.name) (nth P.funcs i).name).getD 0)) rfl rfl (fun w' hb => ?_) ?_
      · have hlk := (H.out.mF.below hb).look 52 Try.underlying52 (nth P.funcs i).name HGD.out
        have hlk' : (Instr.lookup 52 (.map (some bF)) (.string (nth P.funcs i).name) false).run Try.prog w' = .ok (.int .i64 ((fnd (D.map fun f => f.name) (nth P.funcs i).name).getD 0)) w' := hlk
        clear hlk
        go_simp
      simp only [Act.put, List.setIfInBounds_toArray, List.set_cons_zero, List.set_cons_succ]
      repeat (first | (apply Plan.chain_skip rfl rfl; simp only [Act.put, List.setIfInBounds_toArray, List.set_cons_zero, List.set_cons_succ]) | (apply Plan.chain_det rfl rfl; (· intro w' hb; obtain ⟨hcl, hfz⟩ := bcellB hb; go_simp; rfl); simp only [Act.put, List.setIfInBounds_toArray, List.set_cons_zero, List.set_cons_succ]))
      refine Plan.chain_nil ?_
      go_wp2_with fail
      go_ret
      exact ⟨by rw [HN.out]; rfl, (Below.refl _ _).drew⟩

end Go.Proofs.Ytealeofgfgbheaa
