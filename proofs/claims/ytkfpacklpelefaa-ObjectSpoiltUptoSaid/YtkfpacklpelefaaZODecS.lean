/-
  The last four bytes of a file, as a number.
-/
import Derived.Test.YtkfpacklpelefaaZChainG
import Derived.Test.YtkfpacklpelefaaZEnc10
import Derived.Test.YtkfpacklpelefaaZODec
namespace Go.Proofs.Ytkfpacklpelefaa
set_option linter.unusedVariables false
set_option linter.unusedSimpArgs false
open Go.RowKit

theorem wrapU32 (n : Nat) (h : n < 4294967296) : IntKind.u32.wrap (n : Int) = (n : Int) := by
  have e : IntKind.u32.wrap (n : Int) = (n : Int) % 4294967296 := by
    simp [IntKind.wrap, IntKind.signed, IntKind.bits]
  rw [e]
  omega
theorem bits_or32 (a b : Nat) (ha : a < 4294967296) (hb : b < 4294967296) : bits .or .u32 (a : Int) (b : Int) = ((a ||| b : Nat) : Int) := by
  show IntKind.u32.wrap (((BitVec.ofInt 32 (a : Int)) ||| (BitVec.ofInt 32 (b : Int))).toNat : Int) = _
  have e : ∀ n : Nat, n < 4294967296 → (BitVec.ofInt 32 (n : Int)).toNat = n := fun n hn => by
    rw [BitVec.toNat_ofInt]
    omega
  rw [BitVec.toNat_or, e a ha, e b hb]
  exact wrapU32 _ (Nat.or_lt_two_pow (n := 32) ha hb)
/-- a high part, a low part. -/
theorem or_low (a b k : Nat) (h : b < 2 ^ k) : (a * 2 ^ k) ||| b = a * 2 ^ k + b := by
  have := Nat.shiftLeft_add_eq_or_of_lt h a
  rw [Nat.shiftLeft_eq] at this
  exact this.symm
theorem tail_num (a b c d : Nat) (ha : a < 256) (hb : b < 256) (hc : c < 256) (hd : d < 256) :
    bits .or .u32 (bits .or .u32 (bits .or .u32 (IntKind.u32.wrap (IntKind.u32.wrap (a : Int) * 16777216)) (IntKind.u32.wrap (IntKind.u32.wrap (b : Int) * 65536))) (IntKind.u32.wrap (IntKind.u32.wrap (c : Int) * 256))) (IntKind.u32.wrap (d : Int)) = ((a * 16777216 + b * 65536 + c * 256 + d : Nat) : Int) := by
  rw [wrapU32 a (by omega), wrapU32 b (by omega), wrapU32 c (by omega), wrapU32 d (by omega)]
  rw [show (a : Int) * 16777216 = ((a * 16777216 : Nat) : Int) by omega, show (b : Int) * 65536 = ((b * 65536 : Nat) : Int) by omega, show (c : Int) * 256 = ((c * 256 : Nat) : Int) by omega]
  rw [wrapU32 _ (by omega), wrapU32 _ (by omega), wrapU32 _ (by omega)]
  have e1 : (a * 16777216) ||| (b * 65536) = a * 16777216 + b * 65536 := or_low a (b * 65536) 24 (by omega)
  have e2 : (a * 16777216 + b * 65536) ||| (c * 256) = a * 16777216 + b * 65536 + c * 256 := by
    have := or_low (a * 256 + b) (c * 256) 16 (by omega)
    rw [show (a * 256 + b) * 2 ^ 16 = a * 16777216 + b * 65536 by omega] at this
    exact this
  have e3 : (a * 16777216 + b * 65536 + c * 256) ||| d = a * 16777216 + b * 65536 + c * 256 + d := by
    have := or_low (a * 65536 + b * 256 + c) d 8 (by omega)
    rw [show (a * 65536 + b * 256 + c) * 2 ^ 8 = a * 16777216 + b * 65536 + c * 256 by omega] at this
    exact this
  rw [bits_or32 _ _ (by omega) (by omega), e1, bits_or32 _ _ (by omega) (by omega), e2, bits_or32 _ _ (by omega) (by omega), e3]

theorem sum_tail (h : BitVec 32) (t0 t1 t2 t3 : UInt8) : sumBytes h = [t0, t1, t2, t3] ↔ natS h = t0.toNat * 16777216 + t1.toNat * 65536 + t2.toNat * 256 + t3.toNat := by
  have hlt := h.isLt
  have k0 := t0.toNat_lt
  have k1 := t1.toNat_lt
  have k2 := t2.toNat_lt
  have k3 := t3.toNat_lt
  unfold sumBytes natS
  have e : ∀ (n : Nat) (t : UInt8), UInt8.ofNat n = t ↔ n % 256 = t.toNat := fun n t => by
    constructor
    · rintro rfl; simp [UInt8.toNat_ofNat]
    · intro h; apply UInt8.toNat_inj.1; simpa [UInt8.toNat_ofNat] using h
  simp only [List.cons.injEq, e, and_true]
  constructor
  · rintro ⟨a, b, c, d⟩; omega
  · intro a; refine ⟨?_, ?_, ?_, ?_⟩ <;> omega

end Go.Proofs.Ytkfpacklpelefaa

/-
  Package object's Decode: the sum (begun; the end is open).
-/
namespace Go.Proofs.Ytkfpacklpelefaa
set_option linter.unusedVariables false
set_option linter.unusedSimpArgs false
open Go.RowKit

theorem bytes_take {lo : Nat} {w : World} {bb bo c : Nat} {l : List UInt8} (h : BytesAt lo w (.slice (some ⟨bb, bo, none⟩) l.length c) l) (j : Nat) (hj : j ≤ l.length) : BytesAt lo w (.slice (some ⟨bb, bo, none⟩) j c) (l.take j) := by
  obtain ⟨a', c', b', o', he, p1, p2, p3, p4, p5, p6, p7⟩ := BytesAt.open h
  obtain ⟨rfl, _, rfl⟩ := Value.slice.inj he
  have hl : (l.take j).length = j := by rw [List.length_take]; omega
  refine ⟨_, c, bb, bo, by rw [hl], (fun h => by cases h), fun h0 => ⟨rfl, ?_⟩, fun i k hi hk => ?_, by omega, by omega, by omega⟩
  · have h1 := p1 (by omega)
    have h2 := p4 (by omega)
    simp only [Option.some.injEq, Addr.mk.injEq] at h1
    omega
  · have h1 := p1 (by omega)
    simp only [Option.some.injEq, Addr.mk.injEq] at h1
    obtain ⟨rfl, rfl, _⟩ := h1
    have h2 := p2 i (by omega)
    obtain rfl : k = 0 := by have : k < 1 := hk; omega
    show w.cell? ⟨bb, bo + i * 1 + 0, none⟩ = some (Value.int .u8 ((nth (l.take j) i).toNat : Nat))
    have e : nth (l.take j) i = nth l i := by
      unfold nth
      rw [List.getD_eq_getElem?_getD, List.getD_eq_getElem?_getD, List.getElem?_take_of_lt (by omega)]
    rw [e, ← h2]
    congr 2
    omega

theorem drop4 (l : List UInt8) (N : Nat) (h : l.length = N + 4) : l.drop N = [nth l N, nth l (N + 1), nth l (N + 2), nth l (N + 3)] := by
  have e : ∀ k, k < l.length → l.drop k = nth l k :: l.drop (k + 1) := fun k hk => by
    rw [List.drop_eq_getElem_cons hk]
    unfold nth
    rw [List.getD_eq_getElem?_getD, List.getElem?_eq_getElem hk]
    rfl
  rw [e N (by omega), e (N + 1) (by omega), e (N + 2) (by omega), e (N + 3) (by omega), List.drop_of_length_le (by omega)]
noncomputable def planD5 : Plan := mkPlan (regionOf Try.f19 5) [(1, .new)] []

set_option maxRecDepth 100000 in
set_option maxHeartbeats 4000000 in
theorem odec_sum (lo : Nat) (v : Value) (l : List UInt8) (w : World) (h : BytesAt lo w v l) (h8 : ¬ l.length < 8) (hm : l.take 4 = magicL) (hq : sumOf (l.take (l.length - 4)) ≠ l.drop (l.length - 4)) :
    Calls Try.prog 19 #[v] w fun e w' => DecQ w l e w' := by
  have hmf : ∀ (fn : Fn) (first cap : Array Value) (w : World), (Instr.makeFunc fn first cap).run Try.prog w = .ok (.func fn first cap) w := fun _ _ _ _ => rfl
  obtain ⟨a, c, b, o, rfl, p1, q1, k1, _, m0, m1, n1⟩ := h.open
  obtain rfl := p1 (by omega)
  have HD := hid (show decS l = (noPrg, 9) by unfold decS; rw [if_neg h8, if_neg (by simp [hm]), if_pos hq])
  have hcv := dec_conv w ((w.alloc (.cells #[.slice none 0 0, .slice none 0 0, .slice none 0 0, .int .i64 0] 31)).alloc (.cells #[.int .i64 0] 32)) b o c l h8 (((Below.refl _ _).alloc (Nat.le_refl _) _).alloc (by simp) _) (k1 (by omega)) q1
  obtain ⟨s4, hs4⟩ : ∃ s : ByteArray, (⟨(l.take 4).toArray⟩ : ByteArray) = s := ⟨_, rfl⟩
  rw [hs4] at hcv
  have hnb : (!s4.toList == [105, 108, 118, 49]) = false := by rw [← hs4, ByteArray.toList_eq, hm]; rfl
  have hc4 : 4 ≤ c := by omega
  have HQ := hid q1
  have HK := hid (k1 (by omega))
  have HSUM := hid hq
  obtain ⟨N, hN⟩ : ∃ N, l.length = N + 4 := ⟨l.length - 4, by omega⟩
  have HN := hid hN
  have hN4 : 4 ≤ N := by omega
  have hs2 : ¬ ((N + 4 : Nat) : Int) < 8 := by omega
  have g0 := q1 N (by omega)
  have g1 := q1 (N + 1) (by omega)
  have g2 := q1 (N + 2) (by omega)
  have g3 := q1 (N + 3) (by omega)
  rw [← Nat.add_assoc] at g1 g2 g3
  have gb := k1 (by omega)
  rw [hN] at m0 n1 ⊢
  have HBA := hid (bytes_take h N (by omega))
  clear h p1 q1 k1 hs4 hm hq h8 hN
  go_enter_defers Try.func19, Try.ntmps19
  go_wp2_with fail
  generalize hW : World.alloc (World.alloc w _) _ = W
  have hbW : Below w.heap.size w W := by rw [← hW]; exact ((Below.refl _ _).alloc (Nat.le_refl _) _).alloc (by simp) _
  have HBW := hid hbW
  have HBX := hid (show BoxAt W w.heap.size 31 [.slice none 0 0, .slice none 0 0, .slice none 0 0, .int .i64 0] by rw [← hW]; exact (BoxAt.new _ _ _ _ _ rfl rfl).alloc _)
  have HBY := hid (show BoxAt W (w.heap.size + 1) 32 [.int .i64 0] by rw [← hW]; exact BoxAt.new _ _ _ _ _ (by simp) rfl)
  have hWz : b < W.heap.size := Nat.lt_of_lt_of_le gb hbW.size
  have y0 := (hbW.cell (p := ⟨b, o + N, none⟩) gb).trans g0
  have y1 := (hbW.cell (p := ⟨b, o + N + 1, none⟩) gb).trans g1
  have y2 := (hbW.cell (p := ⟨b, o + N + 2, none⟩) gb).trans g2
  have y3 := (hbW.cell (p := ⟨b, o + N + 3, none⟩) gb).trans g3
  clear hbW hW
  refine Plan.wp_chain planD5 W.heap.size (by kernel_rfl) rfl (by kernel_rfl) (by kernel_rfl) ?_
  repeat (first | (apply Plan.chain_skip rfl rfl; simp only [Act.put, List.setIfInBounds_toArray, List.set_cons_zero, List.set_cons_succ]) | (apply Plan.chain_det rfl rfl; (· intro w' hb; obtain ⟨hcl, hfz⟩ := bcellB hb; go_simp; rfl); simp only [Act.put, List.setIfInBounds_toArray, List.set_cons_zero, List.set_cons_succ]))
  refine Plan.chain_call 12 #[.slice (some ⟨b, o, none⟩) N c] (fun v w' => v = .int .u32 (natS (sumB (l.take N)) : Nat) ∧ Below W.heap.size W w') rfl rfl rfl (by go_simp) ?_ (fun v w' h => h.2) (fun va w3 h => ?_)
  · refine (osum_calls lo _ (l.take N) W.drew (BytesAt.below HBA.out HBW.out.drew)).mono ?_
    rintro e w' ⟨rfl, hb⟩
    exact ⟨_, rfl, rfl, (Below.refl _ _).drew.trans hb⟩
  obtain ⟨rfl, hb3⟩ := h
  simp only [Act.put, List.setIfInBounds_toArray, List.set_cons_zero, List.set_cons_succ]
  have HB3 := hid hb3
  have hx := HBX.out.below hb3
  have hy := HBY.out.below hb3
  have c0 := hx.cell 0 _ rfl
  have c1 := hx.cell 1 _ rfl
  have c2 := hx.cell 2 _ rfl
  have c3 := hx.cell 3 _ rfl
  have f0 := hx.frozen 0
  have f1 := hx.frozen 1
  have f2 := hx.frozen 2
  have f3 := hx.frozen 3
  have d0 := hy.cell 0 _ rfl
  have f4 := hy.frozen 0
  have xz := hx.lt
  have yz := hy.lt
  have HX3 := hid hx
  have HY3 := hid hy
  have hbe := (bne_iff_ne (a := ((natS (sumB (l.take N)) : Nat) : Int)) (b := ((nth l N).toNat * 16777216 + (nth l (N + 1)).toNat * 65536 + (nth l (N + 2)).toNat * 256 + (nth l (N + 3)).toNat : Nat))).2 (fun e => HSUM.out (by
    rw [show l.length - 4 = N by have := HN.out; omega, drop4 l N HN.out]
    exact (sum_tail _ _ _ _ _).2 (Int.ofNat.inj e)))
  rw [← tail_num _ _ _ _ (nth l N).toNat_lt (nth l (N + 1)).toNat_lt (nth l (N + 2)).toNat_lt (nth l (N + 3)).toNat_lt] at hbe
  clear hb3 hx hy
  repeat (first | (apply Plan.chain_skip rfl rfl; simp only [Act.put, List.setIfInBounds_toArray, List.set_cons_zero, List.set_cons_succ]) | (apply Plan.chain_det rfl rfl; (· intro w' hb; obtain ⟨hcl, hfz⟩ := bcellB hb; go_simp; rfl); simp only [Act.put, List.setIfInBounds_toArray, List.set_cons_zero, List.set_cons_succ]))
  refine Plan.chain_nil ?_
  go_wp2_with fail
  have n1' : w.heap.size ≠ w.heap.size + 1 := by omega
  have n2' : w.heap.size + 1 ≠ w.heap.size := by omega
  have hx1 := (((HX3.out.set 0 (.slice none 0 0)).set 1 (.slice none 0 0)).set 2 (.slice none 0 0)).set 3 (.int .i64 0)
  have hx2 := hx1.other ⟨w.heap.size + 1, 0, none⟩ (.int .i64 9) n1'
  have hy1 := HY3.out.other ⟨w.heap.size, 0, none⟩ (.slice none 0 0) n2'
  have hy2 := hy1.other ⟨w.heap.size, 1, none⟩ (.slice none 0 0) n2'
  have hy3 := hy2.other ⟨w.heap.size, 2, none⟩ (.slice none 0 0) n2'
  have hy4 := hy3.other ⟨w.heap.size, 3, none⟩ (.int .i64 0) n2'
  have hy5 := hy4.set 0 (.int .i64 9)
  refine ⟨_, dec_results _ _ w.heap.size (w.heap.size + 1) (.slice none 0 0) (.slice none 0 0) (.slice none 0 0) 0 9 rfl rfl hx2 hy5, ?_⟩
  refine dec_none HD.out ?_
  have hb := bvia HBW.out HB3.out
  exact ((((hb.setCell (Nat.le_refl _) _).setCell (Nat.le_refl _) _).setCell (Nat.le_refl _) _).setCell (Nat.le_refl _) _).setCell (Nat.le_succ _) _

end Go.Proofs.Ytkfpacklpelefaa
