/-
  The document's numerals, walked.
-/
import Derived.Test.YtihcngjkflaelaaGreatDoorProg
import Derived.Lib.ItoaLen
import Derived.Laws.IdiomStrings
import Derived.Laws.Concat
import Derived.Deep.QuietTactic
import Derived.BigQuiet
import Derived.Test.YtihcngjkflaelaaGreatDoorZRow
import Derived.Test.YtihcngjkflaelaaGreatDoorZChain
import Derived.Test.YtihcngjkflaelaaGreatDoorZBcell
namespace Go.Proofs.YtihcngjkflaelaaGreatDoor
set_option linter.unusedVariables false
set_option linter.unusedSimpArgs false
open Go.RowKit

noncomputable def planNum7 : Plan := mkPlan (regionOf Tryz.f27 7) [(2, .new), (7, .new)] []
def byE : Enc UInt8 := ⟨1, fun x => [.int .u8 (x.toNat : Nat)], fun _ => rfl, by simp [Value.oneCell'], by decide⟩

theorem dec_small (m : Nat) (h : m < 10) : Lib.itoa m = [UInt8.ofNat (48 + m)] := by
  unfold Lib.itoa
  rw [if_neg (by omega), Int.toNat_natCast, Lib.decDigits, dif_pos h]
theorem dec_big (m : Nat) (h : ¬ m < 10) : Lib.itoa m = Lib.itoa (m / 10 : Nat) ++ [UInt8.ofNat (48 + m % 10)] := by
  unfold Lib.itoa
  rw [if_neg (by omega), if_neg (by omega), Int.toNat_natCast, Int.toNat_natCast, Lib.decDigits, dif_neg h]

theorem byteW (d : Nat) (h : d < 10) : (UInt8.ofNat (48 + d)).toNat = 48 + d := by rw [UInt8.toNat_ofNat']; omega
/-- The one byte of a row made here, as a text. -/
theorem conv_one (d : Nat) (h : d < 10) (w : World) (b : Nat) (hb : b = w.heap.size) : (convert 48 9 (.slice (some ⟨b, 0, none⟩) 1 1)).run Tryz.prog (w.alloc (.cells #[.int .u8 (48 + (d : Int))] 5)) = .ok (.string ⟨#[UInt8.ofNat (48 + d)]⟩) (w.alloc (.cells #[.int .u8 (48 + (d : Int))] 5)) := by
  subst hb
  refine run_convert_bytes_back (P := Tryz.prog) (w.alloc (.cells #[.int .u8 (48 + (d : Int))] 5)) 48 9 5 ⟨w.heap.size, 0, none⟩ 1 [UInt8.ofNat (48 + d)] Tryz.underlying48 Tryz.underlying5 Tryz.underlying9 (fun j hj => ?_)
  have hj0 : j = 0 := by simp at hj; exact hj
  subst hj0
  rw [List.getElem_cons_zero, byteW d h]
  simp [Addr.add_lit]

set_option maxRecDepth 100000 in
set_option maxHeartbeats 2000000 in
theorem rnum_small (m : Nat) (h : m < 10) (w : World) : Calls Tryz.prog 27 #[.int .i64 m] w fun e w' => e = .returned (.string ⟨(Lib.itoa m).toArray⟩) ∧ Below w.heap.size w w' := by
  rw [dec_small m h]
  have h1 : ¬ ((m : Int) < 0) := by omega
  have h2 : (m : Int) < 10 := by omega
  have hcv := conv_one m h w _ rfl
  go_enter Tryz.func27, Tryz.ntmps27
  go_wp2_with fail
  go_ret
  exact ⟨rfl, (Below.refl _ _).alloc (Nat.le_refl _) _⟩

set_option maxRecDepth 100000 in
set_option maxHeartbeats 2000000 in
theorem rnum_nat (m : Nat) : ∀ (hm : (m : Int) ≤ 9223372036854775807) (w : World), Calls Tryz.prog 27 #[.int .i64 m] w fun e w' => e = .returned (.string ⟨(Lib.itoa m).toArray⟩) ∧ Below w.heap.size w w' := by
  induction m using Nat.strongRecOn with
  | _ m ih =>
  intro hm w
  by_cases h : m < 10
  · exact rnum_small m h w
  · obtain ⟨q, hq⟩ : ∃ q, m / 10 = q := ⟨_, rfl⟩
    obtain ⟨d, hd⟩ : ∃ d, UInt8.ofNat (48 + m % 10) = d := ⟨_, rfl⟩
    have IH := hid (ih q (by omega) (by omega))
    rw [dec_big m h, hq, hd]
    have h1 : ¬ ((m : Int) < 0) := by omega
    have h2 : ¬ ((m : Int) < 10) := by omega
    have hdn : 48 + (m : Int) % 10 = (d.toNat : Nat) := by rw [← hd, byteW _ (Nat.mod_lt _ (by decide))]; omega
    have hdl := d.toNat_lt
    have k1 : IntKind.i64.wrap ((m : Int) / 10) = (q : Nat) := by
      rw [show (m : Int) / 10 = (q : Nat) by omega]
      simp [IntKind.wrap, IntKind.bits, IntKind.signed] <;> omega
    have k2 : IntKind.u8.wrap (IntKind.i64.wrap (48 + (m : Int) % 10)) = (d.toNat : Nat) := by
      rw [hdn, show IntKind.i64.wrap ((d.toNat : Nat) : Int) = (d.toNat : Nat) by simp [IntKind.wrap, IntKind.bits, IntKind.signed] <;> omega]
      simp [IntKind.wrap, IntKind.bits, IntKind.signed] <;> omega
    have k3 : IntKind.u8.wrap (IntKind.i64.wrap (48 + (m : Int).tmod 10)) = (d.toNat : Nat) := by rw [Int.tmod_eq_emod_of_nonneg (by omega)]; exact k2
    have hsz : (Lib.itoa (q : Nat)).length ≤ 21 := Lib.itoa_length_le _ (by omega) (by omega)
    have HSZ := hid hsz
    clear ih hq hd hdn hdl
    go_enter Tryz.func27, Tryz.ntmps27
    go_wp2_with fail
    refine Plan.wp_facts (B := w.heap.size) planNum7 [(2, valF (.string ⟨(Lib.itoa (q : Nat)).toArray⟩)), (7, ownF byE w.heap.size 5 [d])] (by kernel_rfl) rfl (by kernel_rfl) (by kernel_rfl) (Nat.le_refl _) ?_
    repeat (apply Plan.runs_det rfl rfl; (· intro F w hb hf; go_simp; rfl); simp only [Act.put, List.setIfInBounds_toArray, List.set_cons_zero, List.set_cons_succ])
    refine Plan.runs_call_val (.string ⟨(Lib.itoa (q : Nat)).toArray⟩) 27 #[.int .i64 (q : Nat)] rfl rfl _ rfl rfl (fun F w' h1 h2 => by go_simp) rfl (fun F w' h1 h2 => IH.out w') ?_
    simp only [Act.put, List.setIfInBounds_toArray, List.set_cons_zero, List.set_cons_succ]
    repeat (apply Plan.runs_det rfl rfl; (· intro F w hb hf; go_simp; rfl); simp only [Act.put, List.setIfInBounds_toArray, List.set_cons_zero, List.set_cons_succ])
    refine Plan.runs_lit byE w.heap.size 5 [d] #[.int .u8 (d.toNat : Nat)] 1 rfl rfl _ rfl rfl (fun w' => by go_simp) rfl rfl rfl (by simp) (Nat.le_refl _) (fun v => ?_)
    simp only [Act.put, List.setIfInBounds_toArray, List.set_cons_zero, List.set_cons_succ]
    refine Plan.runs_det (v := .string ⟨#[d]⟩) rfl rfl (fun F w' hb hf => ?_) ?_
    · have ho := Plan.facts_own hf 7 rfl (by kernel_rfl) rfl (.inl rfl)
      obtain ⟨g, cap, hv, _, _⟩ := ho.open (by simp)
      replace hv : v = .slice (some ⟨g, 0, none⟩) 1 cap := hv
      subst hv
      have hc := ho.cellAt 0 0 (by simp) (by decide)
      have hcv := run_convert_bytes_back (P := Tryz.prog) w' 48 9 5 ⟨g, 0, none⟩ cap [d] Tryz.underlying48 Tryz.underlying5 Tryz.underlying9 (fun j hj => by
        have hj0 : j = 0 := by simp at hj; exact hj
        subst hj0
        exact hc)
      have hcv2 : (convert 48 9 (.slice (some ⟨g, 0, none⟩) 1 cap)).run Tryz.prog w' = .ok (.string ⟨#[d]⟩) w' := hcv
      go_simp
    simp only [Act.put, List.setIfInBounds_toArray, List.set_cons_zero, List.set_cons_succ]
    have hcat : ∀ w' : World, (Op.stringOp .add ⟨(Lib.itoa (q : Nat)).toArray⟩ ⟨#[d]⟩).run Tryz.prog w' = .ok (.string ⟨(Lib.itoa (q : Nat) ++ [d]).toArray⟩) w' := fun w' => run_string_add_lists w' (Lib.itoa (q : Nat)) [d] (by have := HSZ.out; omega) (by simp)
    refine Plan.runs_det (v := .string ⟨(Lib.itoa (q : Nat) ++ [d]).toArray⟩) rfl rfl (fun F w' hb hf => ?_) ?_
    · have hc := hcat w'
      simp only [execOp, Act.eval, binOp_string_add, hc, Sem.run_bind, Sem.run_pure, Result.andThen_ok]
      go_simp
    simp only [Act.put, List.setIfInBounds_toArray, List.set_cons_zero, List.set_cons_succ]
    repeat (apply Plan.runs_det rfl rfl; (· intro F w hb hf; go_simp; rfl); simp only [Act.put, List.setIfInBounds_toArray, List.set_cons_zero, List.set_cons_succ])
    refine Plan.runs_nil (fun F w' hb hf => ?_)
    have HB := hid hb
    clear hb hf
    go_wp2_with fail
    go_ret
    exact ⟨rfl, HB.out⟩

set_option maxRecDepth 100000 in
set_option maxHeartbeats 2000000 in
theorem rnum_calls (n : Int) (h : I64 n) (w : World) : Calls Tryz.prog 27 #[.int .i64 n] w fun e w' => e = .returned (.string ⟨(Lib.itoa n).toArray⟩) ∧ Below w.heap.size w w' := by
  obtain ⟨l1, l2⟩ := h
  by_cases h0 : 0 ≤ n
  · obtain ⟨m, rfl⟩ := Int.eq_ofNat_of_zero_le h0
    exact rnum_nat m l2 w
  · by_cases hm : n = -9223372036854775808
    · subst hm
      have e : Lib.itoa (-9223372036854775808) = [45, 57, 50, 50, 51, 51, 55, 50, 48, 51, 54, 56, 53, 52, 55, 55, 53, 56, 48, 56] := by
        unfold Lib.itoa
        rw [if_pos (by decide), show (-9223372036854775808 : Int).natAbs = 9223372036854775808 from rfl, Lib.decDigits_eq]
        have hn : Lib.nDigits 9223372036854775808 = 19 := Lib.nDigits_unique 18 _ (by decide) (by decide)
        rw [hn]
        decide +kernel
      rw [e]
      have hw : wrap64 9223372036854775808 = -9223372036854775808 := by unfold wrap64; omega
      clear e
      go_enter Tryz.func27, Tryz.ntmps27
      go_wp2_with fail
      go_ret
      exact ⟨rfl, Below.refl _ _⟩
    · obtain ⟨m, hq⟩ : ∃ m : Nat, -n = m := ⟨(-n).toNat, by omega⟩
      have e : Lib.itoa n = [45] ++ Lib.itoa (m : Nat) := by
        unfold Lib.itoa
        rw [if_pos (by omega), if_neg (by omega), Int.toNat_natCast, show n.natAbs = m by omega]; rfl
      rw [e]
      have h1 : n < 0 := by omega
      have k1 : IntKind.i64.wrap (-n) = (m : Nat) := by rw [hq]; simp [IntKind.wrap, IntKind.bits, IntKind.signed] <;> omega
      have k2 : (n == (m : Int)) = false := by simp; omega
      have IH := hid (rnum_nat m (by omega))
      have hsz : (Lib.itoa (m : Nat)).length ≤ 21 := Lib.itoa_length_le _ (by omega) (by omega)
      have hcat : ∀ w' : World, (Op.stringOp .add ⟨#[45]⟩ ⟨(Lib.itoa (m : Nat)).toArray⟩).run Tryz.prog w' = .ok (.string ⟨([45] ++ Lib.itoa (m : Nat)).toArray⟩) w' := fun w' => run_string_add_lists w' [45] (Lib.itoa (m : Nat)) (by simp) (by omega)
      have HCAT := hid hcat
      have hs1 : ¬ (9223372036854775807 < 1 + (Lib.itoa (m : Nat)).length) := by omega
      clear hcat hq l1 l2 h0 hm e
      go_enter Tryz.func27, Tryz.ntmps27
      go_wp2_with (
        go_at_call 27
        refine (IH.out _).mono ?_
        rintro e w1 ⟨rfl, hb1⟩
        have HB1 := hid hb1
        clear hb1)
      go_ret
      exact ⟨congrArg (fun b => Ending.returned (.string b)) (ByteArray.mk_append_mk [45] (Lib.itoa (m : Nat))), HB1.out⟩

end Go.Proofs.YtihcngjkflaelaaGreatDoor
