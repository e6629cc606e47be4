/-
  Package object's Decode, walked: all cases.
-/
import Derived.Test.YtkfpacklpelefaaZPlain10
import Derived.Test.YtkfpacklpelefaaZODecR
import Derived.Test.YtkfpacklpelefaaZOEnc
import Derived.Test.YtkfpacklpelefaaZRBytes
import Derived.Test.YtkfpacklpelefaaZRDec
import Derived.Test.YtkfpacklpelefaaZREqual2
namespace Go.Proofs.Ytkfpacklpelefaa
set_option linter.unusedVariables false
set_option linter.unusedSimpArgs false
open Go.RowKit

theorem odecode_calls (lo : Nat) (v : Value) (l : List UInt8) (w : World) (h : BytesAt lo w v l) (hl : l.length ≤ 1000000000) :
    Calls Try.prog 19 #[v] w fun e w' => DecQ w l e w' := by
  by_cases h8 : l.length < 8
  · exact odec_short lo v l w h h8
  by_cases hm : l.take 4 = magicL
  · by_cases hq : sumOf (l.take (l.length - 4)) = l.drop (l.length - 4)
    · exact odec_run lo v l w h h8 hm hl hq
    · exact odec_sum lo v l w h h8 hm hq
  · exact odec_magic lo v l w h h8 hm

end Go.Proofs.Ytkfpacklpelefaa

/-
  The law's own functions: same, tiny; the reference's Encode.
-/
namespace Go.Proofs.Ytkfpacklpelefaa
set_option linter.unusedVariables false
set_option linter.unusedSimpArgs false
open Go.RowKit

/-- Bytes as a string. -/
theorem conv_any (lo : Nat) (v : Value) (l : List UInt8) (w : World) (h : BytesAt lo w v l) : (convert 22 9 v).run Try.prog w = .ok (.string ⟨l.toArray⟩) w := by
  obtain ⟨a, c, b, o, rfl, p1, q1, k1, _, _, m1, n1⟩ := h.open
  cases a with
  | none =>
    have : l = [] := by
      rcases Nat.eq_zero_or_pos l.length with h | h
      · exact List.eq_nil_of_length_eq_zero h
      · have := p1 h; cases this
    subst this
    exact Go.run_convert_bytes_nil (P := Try.prog) w 22 5 Try.underlying22 Try.underlying5 _ c 9 Try.underlying9
  | some a =>
    refine Go.run_convert_bytes_back (P := Try.prog) w 22 9 5 a c l Try.underlying22 Try.underlying5 Try.underlying9 fun j hj => ?_
    have e := p1 (by omega)
    cases e
    rw [show (⟨b, o, none⟩ : Addr).add j = ⟨b, o + j, none⟩ by unfold Addr.add; split <;> simp_all, q1 j hj, nth_eq _ _ hj]
theorem str_eq (l r : List UInt8) : ((⟨l.toArray⟩ : ByteArray) = ⟨r.toArray⟩) ↔ l = r := by
  constructor
  · intro h
    have := congrArg ByteArray.data h
    simpa using this
  · rintro rfl; rfl
theorem tl_eq (l : List UInt8) : (⟨l.toArray⟩ : ByteArray).toList = l := by rw [ByteArray.toList_eq]

set_option maxRecDepth 100000 in
set_option maxHeartbeats 2000000 in
theorem same_calls (lo1 lo2 : Nat) (v1 v2 : Value) (l r : List UInt8) (w : World) (h1 : BytesAt lo1 w v1 l) (h2 : BytesAt lo2 w v2 r) :
    Calls Try.prog 16 #[v1, v2] w fun e w' => e = .returned (.bool (eqC l r)) ∧ Below w.heap.size w w' := by
  have k1 := conv_any lo1 v1 l w h1
  have k2 := conv_any lo2 v2 r w h2
  obtain ⟨a1, c1, b1, o1, rfl, _⟩ := h1.open
  obtain ⟨a2, c2, b2, o2, rfl, _⟩ := h2.open
  clear h1 h2
  obtain ⟨s1, hs1⟩ : ∃ s : ByteArray, (⟨l.toArray⟩ : ByteArray) = s := ⟨_, rfl⟩
  obtain ⟨s2, hs2⟩ : ∃ s : ByteArray, (⟨r.toArray⟩ : ByteArray) = s := ⟨_, rfl⟩
  rw [hs1] at k1
  rw [hs2] at k2
  have HE := hid (show (s1.toList = s2.toList) ↔ l = r by rw [← hs1, ← hs2, tl_eq, tl_eq])
  clear hs1 hs2
  go_enter Try.func16, Try.ntmps16
  go_wp2_with fail
  go_ret
  refine ⟨?_, Below.refl _ _⟩
  have e : (s1.toList == s2.toList) = eqC l r := by
    by_cases h : l = r
    · rw [eqC_true h, beq_iff_eq.2 (HE.out.2 h)]
    · rw [eqC_false h, beq_eq_false_iff_ne.2 fun e => h (HE.out.1 e)]
  exact congrArg (fun b => Ending.returned (.bool b)) e

def tinyP : Prg := ⟨[⟨⟨#[109, 97, 105, 110]⟩, 0, 0, [⟨30, -1, 0, 0, 0⟩]⟩], [], [], 0⟩
theorem tiny_valid : validB tinyP = true := by decide +kernel
theorem no_valid : validB noPrg = false := by decide +kernel
theorem nil_at (lo : Nat) (w : World) : ProgAt lo w (.slice none 0 0) (.slice none 0 0) (.slice none 0 0) noPrg :=
  ⟨⟨[], rfl, SlE.nil _ _ _, fun i hi => by simp [noPrg] at hi⟩, SlE.nil _ _ _, ⟨[], rfl, SlE.nil _ _ _, fun i hi => by simp [noPrg] at hi⟩⟩

set_option maxRecDepth 100000 in
set_option maxHeartbeats 2000000 in
theorem tiny_calls (w : World) : Calls Try.prog 23 #[] w fun e w' => ∃ vf, e = .returned (.agg #[vf, .slice none 0 0, .slice none 0 0, .int .i64 0]) ∧ ProgAt w.heap.size w' vf (.slice none 0 0) (.slice none 0 0) tinyP ∧ Below w.heap.size w w' := by
  go_enter Try.func23, Try.ntmps23
  go_wp2_with fail
  generalize hW : World.alloc (World.alloc (World.alloc w _) _) _ = W
  have hbx : BoxAt W w.heap.size 31 [.slice (some ⟨w.heap.size + 1 + 1, 0, none⟩) 1 1, .slice none 0 0, .slice none 0 0, .int .i64 0] := by
    rw [← hW]
    exact ((BoxAt.new w _ _ _ _ rfl rfl).alloc _).alloc _
  have hcode : CodeAt w.heap.size W (.slice (some ⟨w.heap.size + 1, 0, none⟩) 1 1) [⟨30, -1, 0, 0, 0⟩] := by
    rw [← hW]
    exact ((OwnE.lit insE _ w.heap.size 57 [⟨30, -1, 0, 0, 0⟩] _ (w.heap.size + 1) 1 (by simp) (by simp) rfl rfl (by simp)).alloc _).sl (Nat.le_refl _) (by simp)
  have hfun : SlE funE w.heap.size W (.slice (some ⟨w.heap.size + 1 + 1, 0, none⟩) 1 1) [(⟨⟨#[109, 97, 105, 110]⟩, 0, 0, [⟨30, -1, 0, 0, 0⟩]⟩, ⟨some ⟨w.heap.size + 1, 0, none⟩, 1, 1⟩)] := by
    rw [← hW]
    exact (OwnE.lit funE _ w.heap.size 55 [(⟨⟨#[109, 97, 105, 110]⟩, 0, 0, [⟨30, -1, 0, 0, 0⟩]⟩, ⟨some ⟨w.heap.size + 1, 0, none⟩, 1, 1⟩)] _ (w.heap.size + 1 + 1) 1 (by simp) (by omega) rfl rfl (by simp)).sl (Nat.le_refl _) (by simp)
  have hbW : Below w.heap.size w W := by rw [← hW]; exact (((Below.refl _ _).alloc (Nat.le_refl _) _).alloc (by simp) _).alloc (by simp; omega) _
  refine bodyPost_ret (v := .agg #[.slice (some ⟨w.heap.size + 1 + 1, 0, none⟩) 1 1, .slice none 0 0, .slice none 0 0, .int .i64 0]) ?_ rfl ⟨_, rfl, ?_, hbW⟩
  · exact results_cell_row (P := Try.prog) rfl _ _ w.heap.size 31 #[.slice (some ⟨w.heap.size + 1 + 1, 0, none⟩) 1 1, .slice none 0 0, .slice none 0 0, .int .i64 0] (0, 0) _ rfl hbx Try.underlying31 rfl rfl
  · exact ⟨⟨[⟨some ⟨w.heap.size + 1, 0, none⟩, 1, 1⟩], rfl, hfun, fun i hi => by
      have : i = 0 := by have := hi; simp [tinyP] at this; omega
      subst this
      exact hcode⟩, SlE.nil _ _ _, ⟨[], rfl, SlE.nil _ _ _, fun i hi => by simp [tinyP] at hi⟩⟩

/-- What an Encode gives. -/
def EncQ (w : World) (p : Prg) (e : Ending) (w' : World) : Prop := ∃ v', e = .returned (.tuple #[v', .int .i64 (if validB p then 0 else 1)]) ∧ OwnE byteE w.heap.size 5 w' v' (if validB p then fileL p else []) ∧ Below w.heap.size w w'
theorem enc_no {w w' : World} {p : Prg} (hv : validB p = false) (h : Below w.heap.size w w') : EncQ w p (.returned (.tuple #[.slice none 0 0, .int .i64 1])) w' := by
  unfold EncQ
  rw [hv]
  exact ⟨_, rfl, OwnE.nil _ _ _ _, h⟩
theorem enc_yes {w w' : World} {p : Prg} {v' : Value} (hv : validB p = true) (ho : OwnE byteE w.heap.size 5 w' v' (fileL p)) (h : Below w.heap.size w w') : EncQ w p (.returned (.tuple #[v', .int .i64 0])) w' := by
  unfold EncQ
  rw [hv]
  exact ⟨_, rfl, ho, h⟩
theorem oencode_calls (lo : Nat) (vf vg vl : Value) (p : Prg) (w : World) (hp : ProgAt lo w vf vg vl p) (hwf : PrgWf p) (hsz : (bodyL p).length ≤ 100000000000) :
    Calls Try.prog 14 #[.agg #[vf, vg, vl, .int .i64 p.main]] w fun e w' => EncQ w p e w' := by
  cases hv : validB p with
  | false =>
    refine (oencode_no lo vf vg vl p w hp hv).mono ?_
    rintro e w' ⟨rfl, h⟩
    exact enc_no hv h
  | true =>
    refine (oencode_yes lo vf vg vl p w hp hwf hsz hv).mono ?_
    rintro e w' ⟨v', rfl, ho, h⟩
    exact enc_yes hv ho h

set_option maxRecDepth 100000 in
set_option maxHeartbeats 2000000 in
theorem rencode_calls (lo : Nat) (vf vg vl : Value) (p : Prg) (w : World) (hp : ProgAt lo w vf vg vl p) (hwf : PrgWf p) (hsz : (bodyL p).length ≤ 100000000000) :
    Calls Try.prog 15 #[.agg #[vf, vg, vl, .int .i64 p.main]] w fun e w' => EncQ w p e w' := by
  have HP := hid hp
  have HWF := hid hwf
  have HSZ := hid hsz
  obtain ⟨fa, fc, fb, fo, FS, rfl, _⟩ := hp.funcs.open
  obtain ⟨ga, gc, gb, go, rfl, _⟩ := hp.globs.open
  obtain ⟨la, lc, lb, lo', LS, rfl, _⟩ := hp.lays.open
  clear hp hwf hsz
  have HNO := hid (fun (w' : World) => @enc_no w w' p)
  have HYES := hid (fun (w' : World) (v' : Value) => @enc_yes w w' p v')
  go_enter Try.func15, Try.ntmps15
  go_wp2_with fail
  generalize hW : World.alloc w _ = W
  have hbx : BoxAt W w.heap.size 31 [.slice fa p.funcs.length fc, .slice ga p.globals.length gc, .slice la p.layouts.length lc, .int .i64 p.main] := by rw [← hW]; exact BoxAt.new w _ _ _ _ rfl rfl
  have HBX := hid hbx
  have HBW := hid (show Below w.heap.size w W by rw [← hW]; exact (Below.refl _ _).alloc (Nat.le_refl _) _)
  clear hW hbx
  refine (valid_calls lo _ _ _ p W (HP.out.below HBW.out)).mono ?_
  rintro e w1 ⟨rfl, hb1⟩
  have hx1 := HBX.out.below hb1
  have HB1 := hid (bvia HBW.out hb1)
  have q0 := hx1.cell 0 _ rfl
  have q1 := hx1.cell 1 _ rfl
  have q2 := hx1.cell 2 _ rfl
  have q3 := hx1.cell 3 _ rfl
  have qz := hx1.lt
  clear hb1 hx1
  rcases hv : validB p with _ | _
  · have HV := hid hv
    clear hv
    go_wp2_with fail
    go_ret2
    exact HNO.out _ HV.out HB1.out
  · have HV := hid hv
    clear hv
    go_wp2_with fail
    refine (rbytes_calls lo _ _ _ p w1 (HP.out.below HB1.out) HWF.out HSZ.out).mono ?_
    rintro e w2 ⟨v2, rfl, ho, hb2⟩
    have HO := hid ho
    have HB2 := hid (bvia HB1.out hb2)
    have HZ := hid HB1.out.size
    clear ho hb2
    go_wp2_with fail
    go_ret2
    exact HYES.out _ _ HV.out (HO.out.mono HZ.out) HB2.out

end Go.Proofs.Ytkfpacklpelefaa
