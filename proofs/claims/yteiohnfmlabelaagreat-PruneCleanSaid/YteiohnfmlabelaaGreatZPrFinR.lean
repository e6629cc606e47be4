/-
  Final targets, walked: package prune's and the reference's.
-/
import Derived.Test.YteiohnfmlabelaaGreatZPrClone
import Derived.Test.YteiohnfmlabelaaGreatZPrB
namespace Go.Proofs.YteiohnfmlabelaaGreat
set_option linter.unusedVariables false
set_option linter.unusedSimpArgs false
open Go.RowKit

noncomputable def jmpB (op : Int) : Bool := decide (jumps op)
set_option maxHeartbeats 1000000 in
theorem pjumps_calls (op : Int) (w : World) : Calls Tryz.prog 41 #[.int .i64 op] w fun e w' => e = .returned (.bool (jmpB op)) ∧ w' = w := by
  by_cases h1 : op = 16
  · have e : jmpB op = true := decide_eq_true (.inl h1)
    rw [e]
    subst h1
    go_enter Tryz.func41, Tryz.ntmps41
    go_wp2_with fail
    go_ret
    exact ⟨rfl, rfl⟩
  · by_cases h2 : op = 17
    · have e : jmpB op = true := decide_eq_true (.inr (.inl h2))
      rw [e]
      subst h2
      go_enter Tryz.func41, Tryz.ntmps41
      go_wp2_with fail
      go_ret
      exact ⟨rfl, rfl⟩
    · have b1 : (op == 16) = false := by simp [h1]
      have b2 : (op == 17) = false := by simp [h2]
      have e : (op == 45) = jmpB op := by
        unfold jmpB jumps
        by_cases h3 : op = 45
        · simp [h3]
        · simp [h1, h2, h3]
      have HE := hid e
      clear h1 h2 e
      go_enter Tryz.func41, Tryz.ntmps41
      go_wp2_with fail
      go_ret
      exact ⟨congrArg (fun b => Ending.returned (.bool b)) HE.out, rfl⟩
theorem fin_step {c : List Ins} {pc a : Int} {k : Nat} (hk : k < c.length + 1) (h : finL c pc = finGo c pc (c.length + 1 - k) a) : ((nth c a.toNat).op ≠ 16 → finL c pc = a) ∧ ((nth c a.toNat).op = 16 → finL c pc = finGo c pc (c.length + 1 - (k + 1)) (nth c a.toNat).c) := by
  rw [show c.length + 1 - k = (c.length + 1 - (k + 1)) + 1 by omega] at h
  unfold finGo at h
  exact ⟨fun hn => by rw [if_neg hn] at h; exact h, fun hp => by rw [if_pos hp] at h; exact h⟩

set_option maxRecDepth 100000 in
set_option maxHeartbeats 2000000 in
theorem pfinal_calls (lo : Nat) (vc : Value) (nm : ByteArray) (pa re : Int) (c : List Ins) (pc : Int) (w : World) (hc : CodeAt lo w vc c) (ht : Tgs c) (hp : Tg c pc) (hl : c.length ≤ 1000) :
    Calls Tryz.prog 42 #[.agg #[.string nm, .int .i64 pa, .int .i64 re, vc], .int .i64 pc] w fun e w' => e = .returned (.int .i64 (finL c pc)) ∧ Below w.heap.size w w' := by
  have HT := hid ht
  have HP := hid hp
  obtain ⟨ca, cc, cb, co, rfl, p1, p2, p3, p4, p5, p6, p7, p8, p9, p10⟩ := hc.open
  have HQ := hid (And.intro p1 (And.intro p2 (And.intro p5 p7)))
  clear hc ht hp p1 p2 p3 p4 p5 p6 p7
  go_enter Tryz.func42, Tryz.ntmps42
  go_wp2_with fail
  generalize hW : World.alloc w _ = W
  have hbx : BoxAt W w.heap.size 33 [.string nm, .int .i64 pa, .int .i64 re, .slice ca c.length cc] := by rw [← hW]; exact BoxAt.new w _ _ _ _ rfl rfl
  have hbw : Below w.heap.size w W := by rw [← hW]; exact (Below.refl _ _).alloc (Nat.le_refl _) _
  have HBW := hid hbw
  have q3 := hbx.cell 3 _ rfl
  have qz := hbx.lt
  clear hW hbx hbw
  go_loopw [5, 11] (fun av i wr => ∃ (k : Nat) (a : Int), k ≤ c.length + 1 ∧ i = .int .i64 k ∧ av = .int .i64 a ∧ Tg c a ∧ finL c pc = finGo c pc (c.length + 1 - k) a ∧ wr = W) (fun _ i _ => c.length + 1 - (intOf i).toNat)
  case atStart => exact ⟨0, pc, Nat.zero_le _, rfl, rfl, HP.out, rfl, rfl⟩
  case round =>
    obtain ⟨k, a, hk, rfl, rfl, hta, hfin, rfl⟩ := hrel
    have HTA := hid hta
    have HF := hid hfin
    clear hta hfin
    by_cases hlt : k < c.length + 1
    · have hlt2 : (k : Int) < (c.length : Int) + 1 := by omega
      have hlt3 : (k : Int) ≤ (c.length : Int) := by omega
      obtain ⟨n, hn⟩ := Int.eq_ofNat_of_zero_le HTA.out.1
      subst hn
      have hnl : n < c.length := by have := HTA.out.2.1; omega
      have hnl2 : (n : Int) < c.length := Int.ofNat_lt.2 hnl
      obtain ⟨p1, p2, p5, p7⟩ := HQ.out
      have e1 := p1 (by omega)
      subst e1
      have zc := p7 (by omega)
      have zc2 : cb < wr.heap.size := Nat.lt_of_lt_of_le zc HBW.out.size
      have y0 := (HBW.out.cell (p := ⟨cb, _, none⟩) zc).trans (p2 n hnl)
      have y3 := (HBW.out.cell (p := ⟨cb, _, none⟩) zc).trans (p5 n hnl)
      have HS := hid (fin_step hlt HF.out)
      rw [Int.toNat_natCast] at HS
      have HJ := hid (HT.out n hnl)
      clear p1 p2 p5 p7
      by_cases h16 : (nth c n).op = 16
      · have hb : ((nth c n).op != 16) = false := by simp [h16]
        have H16 := hid h16
        clear h16
        go_wp2_with fail
        exact ⟨⟨k + 1, (nth c n).c, by omega, by go_num, rfl, HJ.out (.inl H16.out), HS.out.2 H16.out, by trivial⟩, by simp [intOf] <;> omega⟩
      · have hb : ((nth c n).op != 16) = true := by simp [h16]
        have HE := hid (HS.out.1 h16)
        clear h16
        go_wp2_with fail
        go_ret
        exact ⟨ret_int HE.out.symm, HBW.out⟩
    · have hlt2 : ¬ (k : Int) < (c.length : Int) + 1 := by omega
      have hlt3 : ¬ (k : Int) ≤ (c.length : Int) := by omega
      have HE := hid (show finL c pc = pc by
        have h := HF.out
        rw [show c.length + 1 - k = 0 by omega] at h
        exact h)
      clear hlt
      go_wp2_with fail
      go_ret
      exact ⟨ret_int HE.out.symm, HBW.out⟩

end Go.Proofs.YteiohnfmlabelaaGreat

/-
  Final targets, walked: the reference's.
-/
namespace Go.Proofs.YteiohnfmlabelaaGreat
set_option linter.unusedVariables false
set_option linter.unusedSimpArgs false
open Go.RowKit

set_option maxHeartbeats 1000000 in
theorem rjumps_calls (op : Int) (w : World) : Calls Tryz.prog 46 #[.int .i64 op] w fun e w' => e = .returned (.bool (jmpB op)) ∧ w' = w := by
  by_cases h1 : op = 16
  · have e : jmpB op = true := decide_eq_true (.inl h1)
    rw [e]
    subst h1
    go_enter Tryz.func46, Tryz.ntmps46
    go_wp2_with fail
    go_ret
    exact ⟨rfl, rfl⟩
  · by_cases h2 : op = 17
    · have e : jmpB op = true := decide_eq_true (.inr (.inl h2))
      rw [e]
      subst h2
      go_enter Tryz.func46, Tryz.ntmps46
      go_wp2_with fail
      go_ret
      exact ⟨rfl, rfl⟩
    · have b1 : (op == 16) = false := by simp [h1]
      have b2 : (op == 17) = false := by simp [h2]
      have e : (op == 45) = jmpB op := by
        unfold jmpB jumps
        by_cases h3 : op = 45
        · simp [h3]
        · simp [h1, h2, h3]
      have HE := hid e
      clear h1 h2 e
      go_enter Tryz.func46, Tryz.ntmps46
      go_wp2_with fail
      go_ret
      exact ⟨congrArg (fun b => Ending.returned (.bool b)) HE.out, rfl⟩

set_option maxRecDepth 100000 in
set_option maxHeartbeats 2000000 in
theorem rfinal_calls (lo : Nat) (vc : Value) (nm : ByteArray) (pa re : Int) (c : List Ins) (pc : Int) (w : World) (hc : CodeAt lo w vc c) (ht : Tgs c) (hp : Tg c pc) (hl : c.length ≤ 1000) :
    Calls Tryz.prog 47 #[.agg #[.string nm, .int .i64 pa, .int .i64 re, vc], .int .i64 pc] w fun e w' => e = .returned (.int .i64 (finL c pc)) ∧ Below w.heap.size w w' := by
  have HT := hid ht
  have HP := hid hp
  obtain ⟨ca, cc, cb, co, rfl, p1, p2, p3, p4, p5, p6, p7, p8, p9, p10⟩ := hc.open
  have HQ := hid (And.intro p1 (And.intro p2 (And.intro p5 p7)))
  clear hc ht hp p1 p2 p3 p4 p5 p6 p7
  go_enter Tryz.func47, Tryz.ntmps47
  go_wp2_with fail
  generalize hW : World.alloc w _ = W
  have hbx : BoxAt W w.heap.size 33 [.string nm, .int .i64 pa, .int .i64 re, .slice ca c.length cc] := by rw [← hW]; exact BoxAt.new w _ _ _ _ rfl rfl
  have hbw : Below w.heap.size w W := by rw [← hW]; exact (Below.refl _ _).alloc (Nat.le_refl _) _
  have HBW := hid hbw
  have q3 := hbx.cell 3 _ rfl
  have qz := hbx.lt
  clear hW hbx hbw
  go_loopw [5, 6] (fun av i wr => ∃ (k : Nat) (a : Int), k ≤ c.length + 1 ∧ i = .int .i64 k ∧ av = .int .i64 a ∧ Tg c a ∧ finL c pc = finGo c pc (c.length + 1 - k) a ∧ wr = W) (fun _ i _ => c.length + 1 - (intOf i).toNat)
  case atStart => exact ⟨0, pc, Nat.zero_le _, rfl, rfl, HP.out, rfl, rfl⟩
  case round =>
    obtain ⟨k, a, hk, rfl, rfl, hta, hfin, rfl⟩ := hrel
    have HTA := hid hta
    have HF := hid hfin
    clear hta hfin
    by_cases hlt : k < c.length + 1
    · have hlt2 : (k : Int) < (c.length : Int) + 1 := by omega
      have hlt3 : (k : Int) ≤ (c.length : Int) := by omega
      obtain ⟨n, hn⟩ := Int.eq_ofNat_of_zero_le HTA.out.1
      subst hn
      have hnl : n < c.length := by have := HTA.out.2.1; omega
      have hnl2 : (n : Int) < c.length := Int.ofNat_lt.2 hnl
      obtain ⟨p1, p2, p5, p7⟩ := HQ.out
      have e1 := p1 (by omega)
      subst e1
      have zc := p7 (by omega)
      have zc2 : cb < wr.heap.size := Nat.lt_of_lt_of_le zc HBW.out.size
      have y0 := (HBW.out.cell (p := ⟨cb, _, none⟩) zc).trans (p2 n hnl)
      have y3 := (HBW.out.cell (p := ⟨cb, _, none⟩) zc).trans (p5 n hnl)
      have HS := hid (fin_step hlt HF.out)
      rw [Int.toNat_natCast] at HS
      have HJ := hid (HT.out n hnl)
      clear p1 p2 p5 p7
      by_cases h16 : (nth c n).op = 16
      · have hb : ((nth c n).op != 16) = false := by simp [h16]
        have H16 := hid h16
        clear h16
        go_wp2_with fail
        exact ⟨⟨k + 1, (nth c n).c, by omega, by go_num, rfl, HJ.out (.inl H16.out), HS.out.2 H16.out, by trivial⟩, by simp [intOf] <;> omega⟩
      · have hb : ((nth c n).op != 16) = true := by simp [h16]
        have HE := hid (HS.out.1 h16)
        clear h16
        go_wp2_with fail
        go_ret
        exact ⟨ret_int HE.out.symm, HBW.out⟩
    · have hlt2 : ¬ (k : Int) < (c.length : Int) + 1 := by omega
      have hlt3 : ¬ (k : Int) ≤ (c.length : Int) := by omega
      have HE := hid (show finL c pc = pc by
        have h := HF.out
        rw [show c.length + 1 - k = 0 by omega] at h
        exact h)
      clear hlt
      go_wp2_with fail
      go_ret
      exact ⟨ret_int HE.out.symm, HBW.out⟩

end Go.Proofs.YteiohnfmlabelaaGreat
