/-
  The function that Decode defers.
-/
import Derived.Defers
import Derived.Recover
import Derived.Laws.BytesArg
import Derived.Laws.IdiomStrings
import Derived.Test.YtkfpacklpelefaaZCValid2
import Derived.Test.YtkfpacklpelefaaZRdPrg
import Derived.Test.YtkfpacklpelefaaZEnc10
namespace Go.Proofs.Ytkfpacklpelefaa
set_option linter.unusedVariables false
set_option linter.unusedSimpArgs false
open Go.RowKit

set_option maxHeartbeats 1000000 in
theorem catch_idle (p q : Addr) (w : World) :
    CallsD Try.prog 28 #[.pointer (some p), .pointer (some q)] .returning w fun e u' w' => e = .returned (.tuple #[]) ∧ u' = .returning ∧ w' = w := by
  refine callsD_of_wpS Try.func28 rfl fun c₀ cs hu => ?_
  apply wpS_seq
  apply wpS_region
  simp [wpOpsS, go_sem, recoverD, hu, Try.ntmps28, Exit.thenS]
  refine wpS_of_wp ?_
  show Code.wp _ _ _ { tmps := #[.pointer (some p), .pointer (some q), .nilIface, undef, undef, .nilIface, undef, undef, undef, undef, undef, undef, undef, undef, undef, undef, undef], defers := [] } w
  go_wp2_with fail
  refine ⟨rfl, .returning, ?_, .tuple #[], ?_, rfl, rfl, rfl⟩
  · cases c₀
    simp_all
  · simp [results, Try.results28]

set_option maxRecDepth 100000 in
set_option maxHeartbeats 1000000 in
theorem catch_malformed (base b1 b2 : Nat) (vs : List Value) (x : Value) (w : World) (h1 : BoxAt w b1 31 vs) (h2 : BoxAt w b2 32 [x]) (hl : vs.length = 4) (h12 : b1 < b2) (hb1 : base ≤ b1) (hb2 : base ≤ b2) :
    CallsD Try.prog 28 #[.pointer (some ⟨b1, 0, none⟩), .pointer (some ⟨b2, 0, none⟩)] (.panicking malP) w fun e u' w' => e = .returned (.tuple #[]) ∧ settle u' = .returning ∧ BoxAt w' b1 31 [.slice none 0 0, .slice none 0 0, .slice none 0 0, .int .i64 0] ∧ BoxAt w' b2 32 [.int .i64 8] ∧ Below base w w' := by
  refine callsD_of_wpS Try.func28 rfl fun c₀ cs hu => ?_
  obtain ⟨v0, v1, v2, v3, rfl⟩ : ∃ v0 v1 v2 v3, vs = [v0, v1, v2, v3] := by
    match vs, hl with
    | [v0, v1, v2, v3], _ => exact ⟨v0, v1, v2, v3, rfl⟩
  have f0 := h1.frozen 0
  have f1 := h1.frozen 1
  have f2 := h1.frozen 2
  have f3 := h1.frozen 3
  have c0 := h1.cell 0 _ rfl
  have c1 := h1.cell 1 _ rfl
  have c2 := h1.cell 2 _ rfl
  have c3 := h1.cell 3 _ rfl
  have g0 := h2.frozen 0
  have d0 := h2.cell 0 _ rfl
  have H1 := hid h1
  have H2 := hid h2
  have z1 := h1.lt
  have z2 := h2.lt
  have hne1 : ¬ b1 = b2 := by omega
  have hne2 : ¬ b2 = b1 := by omega
  clear h1 h2
  apply wpS_seq
  apply wpS_region
  simp [wpOpsS, go_sem, recoverD, hu, malP, Try.ntmps28, Exit.thenS]
  refine wpS_of_wp ?_
  have hta : ∀ w : World, (Instr.typeAssert (.iface 61 (.agg #[])) 20 61 true).run Try.prog w = .ok (.tuple #[.agg #[], .bool true]) w := fun _ => rfl
  show Code.wp _ _ _ { tmps := #[.pointer (some ⟨b1, 0, none⟩), .pointer (some ⟨b2, 0, none⟩), .iface 61 (.agg #[]), undef, undef, .iface 61 (.agg #[]), undef, undef, undef, undef, undef, undef, undef, undef, undef, undef, undef], defers := [] } w
  go_wp2_with fail
  refine ⟨rfl, .panicking [{ v := .iface 61 (.agg #[]), recovered := true }], rfl, .tuple #[], ?_, rfl, rfl, ?_, ?_, ?_⟩
  · simp [results, Try.results28]
  · have h1 := (((H1.out.set 0 (.slice none 0 0)).set 1 (.slice none 0 0)).set 2 (.slice none 0 0)).set 3 (.int .i64 0)
    have h2 := h1.other ⟨b2, 0, none⟩ (.int .i64 8) hne1
    exact h2.alloc (.cells #[] 61)
  · have h1 := H2.out.other ⟨b1, 0, none⟩ (.slice none 0 0) hne2
    have h2 := h1.other ⟨b1, 1, none⟩ (.slice none 0 0) hne2
    have h3 := h2.other ⟨b1, 2, none⟩ (.slice none 0 0) hne2
    have h4 := h3.other ⟨b1, 3, none⟩ (.int .i64 0) hne2
    have h5 := h4.set 0 (.int .i64 8)
    exact h5.alloc (.cells #[] 61)
  · exact ((((((Below.refl base w).setCell hb1 _).setCell hb1 _).setCell hb1 _).setCell hb1 _).setCell hb2 _).alloc (by simp [World.setCell]; omega) _

end Go.Proofs.Ytkfpacklpelefaa

/-
  Package object's Decode, walked.
-/
namespace Go.Proofs.Ytkfpacklpelefaa
set_option linter.unusedVariables false
set_option linter.unusedSimpArgs false
open Go.RowKit

/-- What Decode gives. -/
def noPrg : Prg := ⟨[], [], [], 0⟩
def sumOf (l : List UInt8) : List UInt8 := sumBytes (sumB l)
def decS (l : List UInt8) : Prg × Int :=
  if l.length < 8 then (noPrg, 8)
  else if l.take 4 ≠ magicL then (noPrg, 8)
  else if sumOf (l.take (l.length - 4)) ≠ l.drop (l.length - 4) then (noPrg, 9)
  else match rdPrg ((l.take (l.length - 4)).drop 4) with
    | some (p, []) => if validB p then (p, 0) else (noPrg, 1)
    | _ => (noPrg, 8)

def DecQ (w : World) (l : List UInt8) (e : Ending) (w' : World) : Prop := ∃ vf vg vl, e = .returned (.tuple #[.agg #[vf, vg, vl, .int .i64 (decS l).1.main], .int .i64 (decS l).2]) ∧ OwnPrg w.heap.size w' vf vg vl (decS l).1 ∧ Below w.heap.size w w'

theorem dec_none {w w' : World} {l : List UInt8} {r : Int} (h : decS l = (noPrg, r)) (hb : Below w.heap.size w w') : DecQ w l (.returned (.tuple #[.agg #[.slice none 0 0, .slice none 0 0, .slice none 0 0, .int .i64 0], .int .i64 r])) w' := by
  refine ⟨.slice none 0 0, .slice none 0 0, .slice none 0 0, by rw [h]; rfl, ?_, hb⟩
  rw [h]
  exact ⟨⟨[], OwnFuns.nil _ _⟩, OwnE.nil _ _ _ _, ⟨[], OwnLays.nil _ _⟩⟩
set_option maxRecDepth 100000 in
theorem dec_results (tmps : Array Value) (W : World) (b1 b2 : Nat) (vf vg vl : Value) (m r : Int) (h2 : tmps.getD 2 undef = .pointer (some ⟨b1, 0, none⟩)) (h3 : tmps.getD 3 undef = .pointer (some ⟨b2, 0, none⟩)) (hb1 : BoxAt W b1 31 [vf, vg, vl, .int .i64 m]) (hb2 : BoxAt W b2 32 [.int .i64 r]) :
    (results Try.f19 tmps).run Try.prog W = .ok (.tuple #[.agg #[vf, vg, vl, .int .i64 m], .int .i64 r]) W := by
  have c0 := hb1.cell 0 _ rfl
  have c1 := hb1.cell 1 _ rfl
  have c2 := hb1.cell 2 _ rfl
  have c3 := hb1.cell 3 _ rfl
  have e2 := hb2.cell 0 _ rfl
  have h2' : tmps[2]?.getD undef = .pointer (some ⟨b1, 0, none⟩) := by simpa using h2
  have h3' : tmps[3]?.getD undef = .pointer (some ⟨b2, 0, none⟩) := by simpa using h3
  simp [results, Try.results19, h2', h3', asAddr, go_sem, c0, c1, c2, c3, e2]

set_option maxRecDepth 100000 in
set_option maxHeartbeats 2000000 in
theorem odec_short (lo : Nat) (v : Value) (l : List UInt8) (w : World) (h : BytesAt lo w v l) (hs : l.length < 8) :
    Calls Try.prog 19 #[v] w fun e w' => DecQ w l e w' := by
  have hmf : ∀ (fn : Fn) (first cap : Array Value) (w : World), (Instr.makeFunc fn first cap).run Try.prog w = .ok (.func fn first cap) w := fun _ _ _ _ => rfl
  obtain ⟨a, c, b, o, rfl, p1, q1, k1, _, _, m1, n1⟩ := h.open
  have hs2 : (l.length : Int) < 8 := by omega
  have HD := hid (show decS l = (noPrg, 8) by unfold decS; rw [if_pos hs])
  clear h p1 q1 k1
  go_enter_defers Try.func19, Try.ntmps19
  go_wp2_with fail
  refine ⟨_, dec_results _ _ w.heap.size (w.heap.size + 1) (.slice none 0 0) (.slice none 0 0) (.slice none 0 0) 0 8 rfl rfl ((BoxAt.new _ _ _ _ _ rfl rfl).alloc _) (BoxAt.new _ _ _ _ _ (by simp) rfl), ?_⟩
  refine dec_none HD.out ?_
  exact ((Below.refl _ _).alloc (Nat.le_refl _) _).alloc (by simp) _

/-- What is known of the two boxes' world. -/
theorem dec_conv (w W : World) (b o c : Nat) (l : List UInt8) (h8 : ¬ l.length < 8) (hB : Below w.heap.size w W) (hb : b < w.heap.size) (p1 : ∀ i, i < l.length → w.cell? ⟨b, o + i, none⟩ = some (.int .u8 ((nth l i).toNat : Nat))) :
    (convert 22 9 (.slice (some ⟨b, o, none⟩) 4 c)).run Try.prog W = .ok (.string ⟨(l.take 4).toArray⟩) W := by
  have h4 : (l.take 4).length = 4 := by rw [List.length_take]; omega
  have h := Go.run_convert_bytes_back (P := Try.prog) W 22 9 5 ⟨b, o, none⟩ c (l.take 4) Try.underlying22 Try.underlying5 Try.underlying9 (fun j hj => by
    have hj4 : j < 4 := by omega
    rw [show (⟨b, o, none⟩ : Addr).add j = ⟨b, o + j, none⟩ by unfold Addr.add; split <;> simp_all, hB.cell (p := ⟨b, o + j, none⟩) hb, p1 j (by omega)]
    have e : nth l j = (l.take 4)[j] := by
      unfold nth
      rw [List.getElem_take, List.getD_eq_getElem?_getD, List.getElem?_eq_getElem (by omega)]
      rfl
    rw [e])
  rw [h4] at h
  exact h

set_option maxRecDepth 100000 in
set_option maxHeartbeats 2000000 in
theorem odec_magic (lo : Nat) (v : Value) (l : List UInt8) (w : World) (h : BytesAt lo w v l) (h8 : ¬ l.length < 8) (hm : l.take 4 ≠ magicL) :
    Calls Try.prog 19 #[v] w fun e w' => DecQ w l e w' := by
  have hmf : ∀ (fn : Fn) (first cap : Array Value) (w : World), (Instr.makeFunc fn first cap).run Try.prog w = .ok (.func fn first cap) w := fun _ _ _ _ => rfl
  obtain ⟨a, c, b, o, rfl, p1, q1, k1, _, m0, m1, n1⟩ := h.open
  obtain rfl := p1 (by omega)
  have hs2 : ¬ (l.length : Int) < 8 := by omega
  have HD := hid (show decS l = (noPrg, 8) by unfold decS; rw [if_neg h8, if_pos hm])
  have hcv := dec_conv w ((w.alloc (.cells #[.slice none 0 0, .slice none 0 0, .slice none 0 0, .int .i64 0] 31)).alloc (.cells #[.int .i64 0] 32)) b o c l h8 (((Below.refl _ _).alloc (Nat.le_refl _) _).alloc (by simp) _) (k1 (by omega)) q1
  obtain ⟨s4, hs4⟩ : ∃ s : ByteArray, (⟨(l.take 4).toArray⟩ : ByteArray) = s := ⟨_, rfl⟩
  rw [hs4] at hcv
  have hne : ¬ s4.toList = [105, 108, 118, 49] := fun e => hm (by
    rw [← hs4, ByteArray.toList_eq] at e
    simpa [magicL] using e)
  have hnb : (!s4.toList == [105, 108, 118, 49]) = true := by simp [hne]
  have hc4 : 4 ≤ c := by omega
  clear h p1 q1 k1 hs4 hm hne
  go_enter_defers Try.func19, Try.ntmps19
  go_wp2_with fail
  refine ⟨_, dec_results _ _ w.heap.size (w.heap.size + 1) (.slice none 0 0) (.slice none 0 0) (.slice none 0 0) 0 8 rfl rfl ((BoxAt.new _ _ _ _ _ rfl rfl).alloc _) (BoxAt.new _ _ _ _ _ (by simp) rfl), ?_⟩
  refine dec_none HD.out ?_
  exact ((Below.refl _ _).alloc (Nat.le_refl _) _).alloc (by simp) _

end Go.Proofs.Ytkfpacklpelefaa
