/-
  The reference's reader: counts and texts.
-/
import Derived.Test.YtkfpacklpelefaaZRRd
namespace Go.Proofs.Ytkfpacklpelefaa
set_option linter.unusedVariables false
set_option linter.unusedSimpArgs false
open Go.RowKit

theorem RR.drewN {b : Nat} {w : World} {l : List UInt8} {st : St10} (h : RR b w l st) (n : Nat) : RR b (w.drewN n) l st := h.kt rfl (bdraw (Below.refl _ _) n |>.mono (by have := h.lt; omega))
theorem KT.drewN {base : Nat} (S : List TypeId) (w : World) (n : Nat) (hb : base ≤ w.heap.size) : KT base S w (w.drewN n) := KT.below S (bdraw (Below.refl _ _) n) hb
theorem RRb.drewN {b : Nat} {w : World} {l : List UInt8} {n : Nat} {bad : Bool} (h : RRb b w l n bad) (k : Nat) : RRb b (w.drewN k) l n bad := h.kt rfl (bdraw (Below.refl _ _) k |>.mono (by have := h.lt; omega))

abbrev KR (b : Nat) (w w' : World) : Prop := KT b [81] w w'
theorem rrnum_calls (b : Nat) (l : List UInt8) (st : St10) (w : World) (h : RR b w l st) :
    Calls Try.prog 56 #[.pointer (some ⟨b, 0, none⟩)] w fun e w' => ∃ m st', e = .returned (.int .i64 m) ∧ Stp rdN st m st' ∧ RR b w' l st' ∧ KR b w w' ∧ (st' = none → m = 0) := by
  obtain ⟨n, h1, h2⟩ := h
  cases st with
  | none =>
    refine (rrnum_bad b l n w h1).mono ?_
    rintro e w' ⟨rfl, h3, h4⟩
    exact ⟨0, none, rfl, .none, ⟨n, h3, fun r h => by cases h⟩, h4, fun _ => rfl⟩
  | some r =>
    have hr := h2 r rfl
    refine (rrnum_step b l n w h1).mono ?_
    rintro e w' ⟨h3, h4⟩
    rw [hr] at h3
    rcases h3 with ⟨m, n', s, h5, rfl, h6, h7⟩ | ⟨h5, rfl, n', h6⟩
    · exact ⟨m, some s, rfl, .ok h5, ⟨n', h6, fun t ht => by cases ht; exact h7⟩, h4, fun h => by cases h⟩
    · exact ⟨0, none, rfl, .bad h5, ⟨n', h6, fun t ht => by cases ht⟩, h4, fun _ => rfl⟩

theorem RRb.cells {b : Nat} {w : World} {l : List UInt8} {n : Nat} {bad : Bool} (h : RRb b w l n bad) : ∃ bb bo c, w.cell? ⟨b, 0, none⟩ = some (.slice (some ⟨bb, bo, none⟩) l.length c) ∧ w.cell? ⟨b, 1, none⟩ = some (.int .i64 (n : Nat)) ∧ w.cell? ⟨b, 2, none⟩ = some (.bool bad) ∧ b < w.heap.size ∧ (∀ k, w.frozen? ⟨b, k, none⟩ = false) ∧ n ≤ l.length ∧ l.length ≤ 1000000000 ∧ l.length ≤ c ∧ bb < b ∧ (∀ i, i < l.length → w.cell? ⟨bb, bo + i, none⟩ = some (.int .u8 ((nth l i).toNat : Nat))) ∧ c ≤ maxLen ∧ BytesAt 0 w (.slice (some ⟨bb, bo, none⟩) l.length c) l := by
  obtain ⟨bb, bo, c, hbox, hby, hbb, hn, h4, h9⟩ := h
  obtain ⟨a', c', bb', bo', he, p1, p2, p3, _, p5, p6, p7⟩ := hby.open
  obtain ⟨e1, _, rfl⟩ := Value.slice.inj he
  have e2 := p1 (by omega)
  rw [← e1] at e2
  simp only [Option.some.injEq, Addr.mk.injEq] at e2
  obtain ⟨rfl, rfl, _⟩ := e2
  exact ⟨bb, bo, c, hbox.cell 0 _ rfl, hbox.cell 1 _ rfl, hbox.cell 2 _ rfl, hbox.lt, hbox.frozen, hn, h9, p5, hbb, p2, p6, hby⟩

/-- What a count gives. -/
def RCntQ (b : Nat) (l : List UInt8) (st : St10) (w : World) (e : Ending) (w' : World) : Prop := ∃ (m : Nat) (st' : St10), e = .returned (.int .i64 (m : Nat)) ∧ Stp rdC st m st' ∧ RR b w' l st' ∧ KR b w w' ∧ m ≤ l.length

set_option maxRecDepth 100000 in
set_option maxHeartbeats 4000000 in
theorem rrcount_calls (b : Nat) (l : List UInt8) (st : St10) (w : World) (h : RR b w l st) :
    Calls Try.prog 54 #[.pointer (some ⟨b, 0, none⟩)] w fun e w' => RCntQ b l st w e w' := by
  have H := hid h
  clear h
  go_enter Try.func54, Try.ntmps54
  go_wp2_with fail
  refine (rrnum_calls b l st w H.out).mono ?_
  rintro e w1 ⟨m, st1, rfl, hs, ⟨n1, hr1, hr2⟩, hk, h0⟩
  have HS := hid hs
  have HK := hid hk
  have HR := hid hr1
  obtain ⟨bb, bo, c, c0, c1, c2, z0, fz, hn, h9, p5, hbb, _, _, _⟩ := hr1.cells
  have f2 := fz 2
  clear hs hk hr1 fz
  have HBAD := hid (show Stp rdC st 0 none → ∀ nq, RCntQ b l st w (.returned (.int .i64 0)) ((w1.drewN nq).setCell ⟨b, 2, none⟩ (.bool true)) from fun hst nq => by
    have hd := HR.out.drewN nq
    refine ⟨0, none, rfl, hst, ⟨n1, hd.setBad, fun r h => by cases h⟩, (HK.out.trans (KT.drewN _ w1 nq (by have := HR.out.lt; omega))).trans (hd.store 2 _), Nat.zero_le _⟩)
  cases st1 with
  | none =>
    obtain rfl := h0 rfl
    have hgn : ¬ ((l.length : Int) - (n1 : Int) < 0) := by omega
    have hg : decide ((l.length : Int) - (n1 : Int) < 0) = false := decide_eq_false hgn
    have HE := hid (show Stp rdC st 0 none by
      cases st with
      | none => exact .none
      | some r =>
        refine .bad ?_
        unfold rdC
        rw [HS.out.none_of])
    go_wp2_with fail
    go_quiet (fail)
    go_wp2_with fail
    go_ret
    exact ⟨0, none, rfl, HE.out, ⟨n1, HR.out.drewN nq, fun r h => by cases h⟩, HK.out.trans (KT.drewN _ w1 nq (by have := HR.out.lt; omega)), Nat.zero_le _⟩
  | some s =>
    have hsl : s.length = l.length - n1 := by rw [← hr2 s rfl]; simp
    have HSL := hid (hr2 s rfl)
    clear hr2 h0
    by_cases hneg : m < 0
    · have hg : decide (m < 0) = true := decide_eq_true hneg
      have HE := hid (show Stp rdC st 0 none by
        cases st with
        | none => cases HS.out.of_none
        | some r =>
          refine .bad ?_
          unfold rdC
          rw [HS.out.some_of]
          dsimp only
          rw [if_pos (.inl hneg)])
      go_wp2_with fail
      go_quiet (fail)
      go_wp2_with fail
      go_ret
      exact HBAD.out HE.out nq
    have hgn : decide (m < 0) = false := decide_eq_false hneg
    by_cases hbig : (s.length : Int) < m
    · have hg2 : decide ((l.length : Int) - (n1 : Int) < m) = true := decide_eq_true (by omega)
      have HE := hid (show Stp rdC st 0 none by
        cases st with
        | none => cases HS.out.of_none
        | some r =>
          refine .bad ?_
          unfold rdC
          rw [HS.out.some_of]
          dsimp only
          rw [if_pos (.inr hbig)])
      clear hneg hbig
      go_wp2_with fail
      go_quiet (fail)
      go_wp2_with fail
      go_ret
      exact HBAD.out HE.out nq
    · have hg2 : decide ((l.length : Int) - (n1 : Int) < m) = false := decide_eq_false (by omega)
      have HE := hid (show Stp rdC st m.toNat (some s) by
        cases st with
        | none => cases HS.out.of_none
        | some r =>
          refine .ok ?_
          unfold rdC
          rw [HS.out.some_of]
          dsimp only
          rw [if_neg (by omega)])
      have HM := hid (show ((m.toNat : Nat) : Int) = m ∧ m.toNat ≤ l.length from ⟨Int.toNat_of_nonneg (by omega), by omega⟩)
      clear hneg hbig
      go_wp2_with fail
      go_quiet (fail)
      go_wp2_with fail
      go_ret
      refine ⟨m.toNat, some s, ret_int HM.out.1.symm, HE.out, ⟨n1, HR.out.drewN nq, fun r h => ?_⟩, HK.out.trans (KT.drewN _ w1 nq (by have := HR.out.lt; omega)), HM.out.2⟩
      cases h
      exact HSL.out

theorem ret_str {a b : ByteArray} (h : a = b) : Ending.returned (.string a) = .returned (.string b) := by rw [h]
/-- What a text gives. -/
def RTxtQ (b : Nat) (l : List UInt8) (st : St10) (w : World) (e : Ending) (w' : World) : Prop := ∃ (m : ByteArray) (st' : St10), e = .returned (.string m) ∧ Stp rdT st m st' ∧ RR b w' l st' ∧ KR b w w'

set_option maxRecDepth 100000 in
set_option maxHeartbeats 4000000 in
theorem rrtext_calls (b : Nat) (l : List UInt8) (st : St10) (w : World) (h : RR b w l st) :
    Calls Try.prog 55 #[.pointer (some ⟨b, 0, none⟩)] w fun e w' => RTxtQ b l st w e w' := by
  have H := hid h
  clear h
  go_enter Try.func55, Try.ntmps55
  go_wp2_with fail
  refine (rrcount_calls b l st w H.out).mono ?_
  rintro e w1 ⟨m, st1, rfl, hs, ⟨n1, hr1, hr2⟩, hk, hml⟩
  have HS := hid hs
  have HK := hid hk
  have HR := hid hr1
  obtain ⟨bb, bo, c, c0, c1, c2, z0, fz, hn, h9, p5, hbb, hcl, p6, hby⟩ := hr1.cells
  have f1 := fz 1
  have HCL := hid hcl
  clear hs hk hr1 fz hcl hby
  cases st1 with
  | none =>
    have HE := hid (show Stp rdT st ⟨#[]⟩ none by
      cases st with
      | none => exact .none
      | some r =>
        refine .bad ?_
        unfold rdT
        rw [HS.out.none_of])
    have t1 : (none : St10).isNone = true := rfl
    rw [t1] at c2
    go_wp2_with fail
    go_ret
    exact ⟨⟨#[]⟩, none, rfl, HE.out, ⟨n1, HR.out, fun r h => by cases h⟩, HK.out⟩
  | some s =>
    have hsl : s.length = l.length - n1 := by rw [← hr2 s rfl]; simp
    have hms : m ≤ s.length := by
      cases st with
      | none => cases HS.out.of_none
      | some r => exact (rdC_of HS.out.some_of).2.1
    have HE := hid (show Stp rdT st ⟨(s.take m).toArray⟩ (some (s.drop m)) by
      cases st with
      | none => cases HS.out.of_none
      | some r =>
        refine .ok ?_
        unfold rdT
        rw [HS.out.some_of])
    have t1 : (some s : St10).isNone = false := rfl
    rw [t1] at c2
    obtain ⟨q, hq⟩ : ∃ q, n1 + m = q := ⟨_, rfl⟩
    have HQ := hid hq
    have hql : q ≤ l.length := by omega
    have hqi : ((n1 : Int) + (m : Int)) = (q : Int) := by omega
    have hqi2 : ((q : Int) - (m : Int)) = (n1 : Int) := by omega
    have hsd := hr2 s rfl
    have hcells : ∀ i, i < m → ((w1.setCell ⟨b, 1, none⟩ (.int .i64 (q : Nat)))).cell? ⟨bb, bo + n1 + i, none⟩ = some (.int .u8 (((s.take m).map fun x : UInt8 => (x.toNat : Int)).getD i 0)) := fun i hi => by
      have hbel : Below b w1 (w1.setCell ⟨b, 1, none⟩ (.int .i64 (q : Nat))) := (Below.refl b w1).setCell (Nat.le_refl _) _
      rw [hbel.cell (p := ⟨bb, bo + n1 + i, none⟩) hbb]
      rw [Nat.add_assoc, HCL.out (n1 + i) (by omega), ← hsd]
      have h2 : n1 + i < l.length := by omega
      simp [List.getD, hi, h2, nth_eq _ _ h2]
    have hcv := fun (nq c : Nat) => Go.run_convert_bytes_arg (P := Try.prog) ((w1.setCell ⟨b, 1, none⟩ (.int .i64 (q : Nat))).drewN nq) 22 5 Try.underlying22 Try.underlying5 bb (bo + n1) m c ((s.take m).map fun x : UInt8 => (x.toNat : Int)) (by simp; omega) (fun i hi => hcells i hi) 9 Try.underlying9
    rw [strOf] at hcv
    have hcp : q ≤ c := by omega
    have hnq : n1 ≤ q := by omega
    have hqm : q - n1 = m := by omega
    have HEND := hid (show ∀ nq, RR b ((w1.setCell ⟨b, 1, none⟩ (.int .i64 (q : Nat))).drewN nq) l (some (s.drop m)) ∧ KR b w ((w1.setCell ⟨b, 1, none⟩ (.int .i64 (q : Nat))).drewN nq) from fun nq => by
      have h1 := HR.out.setAt q hql
      refine ⟨⟨q, h1.drewN nq, fun r h => ?_⟩, (HK.out.trans (HR.out.store 1 _)).trans (KT.drewN _ _ nq (by have := h1.lt; omega))⟩
      cases h
      rw [← HQ.out, ← hsd, List.drop_drop])
    clear hcells hr2 hsl hsd hms hq
    have HT := hid hqm
    by_cases hz : c - n1 = 0
    · have hm0 : m = 0 := by omega
      have hq1 : q = n1 := by omega
      have hcn : c ≤ n1 := by omega
      obtain rfl := hm0
      obtain rfl := hq1
      have hcv0 := fun (nq c : Nat) => Go.run_convert_bytes_arg (P := Try.prog) ((w1.setCell ⟨b, 1, none⟩ (.int .i64 (q : Nat))).drewN nq) 22 5 Try.underlying22 Try.underlying5 bb bo 0 c [] rfl (fun i hi => by omega) 9 Try.underlying9
      rw [show strOfNums [] = (⟨#[]⟩ : ByteArray) from rfl] at hcv0
      have HES := hid (show (⟨(s.take 0).toArray⟩ : ByteArray) = ⟨#[]⟩ from rfl)
      clear hcv
      go_wp2_with fail
      go_quiet (fail)
      go_wp2_with fail
      go_ret
      exact ⟨⟨(s.take 0).toArray⟩, _, ret_str HES.out.symm, HE.out, HEND.out nq⟩
    · have hzb : (c - n1 == 0) = false := by simp; omega
      have hzb2 : decide (c - n1 = 0) = false := by simp; omega
      have hcn : ¬ c ≤ n1 := by omega
      have hcn2 : n1 < c := by omega
      have hcnI : ¬ ((c : Int) ≤ (n1 : Int)) := by omega
      go_wp2_with fail
      go_quiet (fail)
      go_wp2_with fail
      go_ret
      exact ⟨_, _, rfl, HE.out, HEND.out nq⟩

end Go.Proofs.Ytkfpacklpelefaa
