/-
  The reader's counts and texts, walked.
-/
import Derived.Laws.BytesArg
import Derived.Test.YtkfpacklpelefaaZRdBad
namespace Go.Proofs.Ytkfpacklpelefaa
set_option linter.unusedVariables false
set_option linter.unusedSimpArgs false
open Go.RowKit

theorem RdAt.len {b : Nat} {w : World} {l : List UInt8} (h : RdAt b w l) : l.length ≤ 140737488355328 := by
  obtain ⟨a, c, _, hby, _⟩ := h
  obtain ⟨_, _, _, _, _, _, _, _, _, _, _, h⟩ := hby.open
  exact h
theorem RdAt.cell {b : Nat} {w : World} {l : List UInt8} (h : RdAt b w l) : ∃ a c, w.cell? ⟨b, 0, none⟩ = some (.slice a l.length c) ∧ b < w.heap.size := by
  obtain ⟨a, c, hb, _⟩ := h
  exact ⟨a, c, hb.cell 0 _ rfl, hb.lt⟩

set_option maxRecDepth 100000 in
set_option maxHeartbeats 4000000 in
theorem orcount_ok (b : Nat) (l r : List UInt8) (n : Nat) (w : World) (h : RdAt b w l) (hr : rdC l = some (n, r)) :
    Calls Try.prog 43 #[.pointer (some ⟨b, 0, none⟩)] w fun e w' => e = .returned (.int .i64 (n : Nat)) ∧ RdAt b w' r ∧ KT b [64] w w' := by
  have H := hid h
  unfold rdC at hr
  cases hn : rdN l with
  | none => rw [hn] at hr; cases hr
  | some q =>
    obtain ⟨m, s⟩ := q
    rw [hn] at hr
    dsimp only at hr
    split at hr
    · cases hr
    · rename_i hc
      simp only [Option.some.injEq, Prod.mk.injEq] at hr
      obtain ⟨rfl, rfl⟩ := hr
      have HN := hid hn
      have hm : ((m.toNat : Nat) : Int) = m := Int.toNat_of_nonneg (by omega)
      have h1 : ¬ m < 0 := by omega
      have h2 : ¬ (s.length : Int) < m := by omega
      have HM := hid hm
      clear h hn hc hm
      go_enter Try.func43, Try.ntmps43
      go_wp2_with fail
      refine (ornum_ok b l s m w H.out HN.out).mono ?_
      rintro e w1 ⟨rfl, hrd, hk⟩
      have HRD := hid hrd
      have HK := hid hk
      obtain ⟨a, c, c0, z0⟩ := hrd.cell
      clear hrd hk
      go_wp2_with fail
      go_ret
      exact ⟨ret_int HM.out.symm, HRD.out, HK.out⟩

set_option maxRecDepth 100000 in
set_option maxHeartbeats 4000000 in
theorem orcount_bad (b : Nat) (l : List UInt8) (w : World) (h : RdAt b w l) (hr : rdC l = none) :
    Calls Try.prog 43 #[.pointer (some ⟨b, 0, none⟩)] w fun e w' => e = .panicked malP ∧ KT b [64] w w' := by
  have H := hid h
  have hbw : b ≤ w.heap.size := by obtain ⟨_, _, _, z⟩ := h.cell; omega
  unfold rdC at hr
  cases hn : rdN l with
  | none =>
    have HN := hid hn
    clear h hn hr
    go_enter Try.func43, Try.ntmps43
    go_wp2_with fail
    refine (ornum_bad b l w H.out HN.out).mono ?_
    rintro e w1 ⟨rfl, rfl⟩
    exact ⟨rfl, rfl, KT.refl _ _ _⟩
  | some q =>
    obtain ⟨m, s⟩ := q
    rw [hn] at hr
    dsimp only at hr
    split at hr
    · rename_i hc
      have HN := hid hn
      have hc2 : m < 0 ∨ (¬ m < 0 ∧ (s.length : Int) < m) := by omega
      clear h hn hc hr
      rcases hc2 with h1 | ⟨h1, h2⟩
      all_goals
        go_enter Try.func43, Try.ntmps43
        go_wp2_with fail
        refine (ornum_ok b l s m w H.out HN.out).mono ?_
        rintro e w1 ⟨rfl, hrd, hk⟩
        have HK := hid hk
        obtain ⟨a, c, c0, z0⟩ := hrd.cell
        clear hrd hk
        go_wp2_with fail
        exact ⟨rfl, rfl, HK.out⟩
    · cases hr

end Go.Proofs.Ytkfpacklpelefaa

/-
  The reader's texts, walked.
-/
namespace Go.Proofs.Ytkfpacklpelefaa
set_option linter.unusedVariables false
set_option linter.unusedSimpArgs false
open Go.RowKit

theorem strOf (l : List UInt8) : strOfNums (l.map fun x => (x.toNat : Int)) = ⟨l.toArray⟩ := by
  unfold strOfNums
  congr 1
  rw [List.map_map]
  congr 1
  conv => rhs; rw [← List.map_id l]
  refine List.map_congr_left fun x _ => ?_
  simp

set_option maxRecDepth 100000 in
set_option maxHeartbeats 4000000 in
theorem ortext_ok (b : Nat) (l r : List UInt8) (s : ByteArray) (w : World) (h : RdAt b w l) (hr : rdT l = some (s, r)) :
    Calls Try.prog 44 #[.pointer (some ⟨b, 0, none⟩)] w fun e w' => e = .returned (.string s) ∧ RdAt b w' r ∧ KT b [64] w w' := by
  have H := hid h
  unfold rdT at hr
  cases hc : rdC l with
  | none => rw [hc] at hr; cases hr
  | some q =>
    obtain ⟨n, t⟩ := q
    rw [hc] at hr
    simp only [Option.some.injEq, Prod.mk.injEq] at hr
    obtain ⟨rfl, rfl⟩ := hr
    have hnt : n ≤ t.length := (rdC_of hc).2.1
    have HC := hid hc
    clear h hc
    go_enter Try.func44, Try.ntmps44
    go_wp2_with fail
    refine (orcount_ok b l t n w H.out HC.out).mono ?_
    rintro e w1 ⟨rfl, ⟨a, c, hbox, hby, hlow, hform⟩, hk⟩
    have HBOX := hid hbox
    have HBY := hid hby
    have HLOW := hid hlow
    have HK := hid hk
    have c0 := hbox.cell 0 _ rfl
    have z0 := hbox.lt
    have f0 := hbox.frozen 0
    have hntI : (n : Int) ≤ t.length := Int.ofNat_le.2 hnt
    obtain ⟨a', c', bb, bo, he, p1, p2, p3, _, p5, p6, p7⟩ := hby.open
    obtain ⟨rfl, _, rfl⟩ := Value.slice.inj he
    have hnc : n ≤ c := by omega
    have hncI : (n : Int) ≤ c := Int.ofNat_le.2 hnc
    clear hbox hby hlow hk he
    rcases hform with rfl | ⟨b0, o0, rfl⟩
    · skip
      have ht0 : t.length = 0 := by
        rcases Nat.eq_zero_or_pos t.length with h | h
        · exact h
        · have := p1 h; cases this
      have hn0 : n = 0 := by omega
      have ht : t = [] := List.eq_nil_of_length_eq_zero ht0
      subst hn0 ht
      have hc0 : c = 0 := by obtain ⟨_, _, _, _, e2, e3, _⟩ := HBY.out; obtain ⟨rfl, _, rfl⟩ := Value.slice.inj e2; exact e3 rfl
      subst hc0
      have hcv := fun (l c : Nat) => Go.run_convert_bytes_nil (P := Try.prog) w1 22 5 Try.underlying22 Try.underlying5 l c 9 Try.underlying9
      clear p1 p2 p3
      go_wp2_with fail
      go_ret
      refine ⟨rfl, ⟨none, 0, HBOX.out.set 0 _, SlE.nil _ _ _, fun h => by simp at h, .inl rfl⟩, HK.out.trans (KT.store HBOX.out (by simp) (Nat.le_refl _) 0 _)⟩
    · have hcells : ∀ i, i < n → w1.cell? ⟨b0, o0 + i, none⟩ = some (.int .u8 (((t.take n).map fun x => (x.toNat : Int)).getD i 0)) := fun i hi => by
        have h1 := p1 (by omega)
        simp only [Option.some.injEq, Addr.mk.injEq] at h1
        obtain ⟨rfl, rfl, _⟩ := h1
        rw [p2 i (by omega)]
        have h2 : i < t.length := by omega
        simp [List.getD, hi, h2, nth_eq _ _ h2]
      have hcv := fun (c : Nat) => Go.run_convert_bytes_arg (P := Try.prog) w1 22 5 Try.underlying22 Try.underlying5 b0 o0 n c ((t.take n).map fun x => (x.toNat : Int)) (by simp; omega) hcells 9 Try.underlying9
      rw [strOf] at hcv
      have HDR := hid (bytes_drop HBY.out n hnt)
      have hdl : (t.drop n).length = t.length - n := by simp
      have HDL := hid hdl
      have hend : ∀ (a2 : Option Addr) (c2 : Nat), BytesAt 0 w1 (.slice a2 (t.length - n) c2) (t.drop n) → (0 < t.length - n → ∀ q, (Value.slice a2 (t.length - n) c2).ownBlock = some q → q < b) → (a2 = none ∨ ∃ bb bo, a2 = some ⟨bb, bo, none⟩) → RdAt b (w1.setCell ⟨b, 0, none⟩ (.slice a2 (t.length - n) c2)) (t.drop n) ∧ KT b [64] w (w1.setCell ⟨b, 0, none⟩ (.slice a2 (t.length - n) c2)) := fun a2 c2 hb hq hform => by
        rw [← HDL.out] at hb hq ⊢
        refine ⟨⟨a2, c2, HBOX.out.set 0 _, SlE.agree hb fun h0 q hk => ?_, hq, hform⟩, HK.out.trans (KT.store HBOX.out (by simp) (Nat.le_refl _) 0 _)⟩
        exact Below.heap_setCell _ _ _ _ (by have := hq h0 q hk; show q ≠ b; omega)
      have HEND := hid hend
      have HP5 := hid p5
      clear p1 p2 p3 hcells hdl hend
      go_wp2_with fail
      all_goals
        go_ret
      all_goals
        refine ⟨rfl, ?_⟩
      · refine HEND.out _ _ (bytes_gone HBY.out n (by omega) 0 (Nat.zero_le _) (fun h => by cases h)) (fun h0 q hq => by omega) (.inr ⟨_, _, rfl⟩)
      · refine HEND.out _ _ HDR.out (fun h0 q hq => ?_) (.inr ⟨_, _, rfl⟩)
        have e : b0 = q := by simpa [Value.ownBlock] using hq
        exact HLOW.out (by omega) q (by rw [← e]; rfl)

set_option maxRecDepth 100000 in
set_option maxHeartbeats 4000000 in
theorem ortext_bad (b : Nat) (l : List UInt8) (w : World) (h : RdAt b w l) (hr : rdT l = none) :
    Calls Try.prog 44 #[.pointer (some ⟨b, 0, none⟩)] w fun e w' => e = .panicked malP ∧ KT b [64] w w' := by
  have H := hid h
  unfold rdT at hr
  cases hc : rdC l with
  | some q => rw [hc] at hr; cases hr
  | none =>
    have HC := hid hc
    clear h hc hr
    go_enter Try.func44, Try.ntmps44
    go_wp2_with fail
    refine (orcount_bad b l w H.out HC.out).mono ?_
    rintro e w1 ⟨rfl, hk⟩
    exact ⟨rfl, rfl, hk⟩

end Go.Proofs.Ytkfpacklpelefaa
