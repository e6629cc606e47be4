/-
  Slices of bytes, and the checksum.
-/
import Derived.Test.YtkfpacklpelefaaProg
import Derived.IntWalk
import Derived.OpenShut
import Derived.Test.YtkfpacklpelefaaZRow
namespace Go.Proofs.Ytkfpacklpelefaa
set_option linter.unusedVariables false
set_option linter.unusedSimpArgs false
open Go.RowKit

instance : Inhabited UInt8 := ⟨0⟩
def byteE : Enc UInt8 := ⟨1, fun x => [.int .u8 (x.toNat : Nat)], fun _ => rfl, by simp [Value.oneCell'], by decide⟩
def BytesAt (lo : Nat) (w : World) (v : Value) (l : List UInt8) : Prop := SlE byteE lo w v l
theorem BytesAt.keep {lo : Nat} {w w' : World} {v : Value} {l : List UInt8} (h : BytesAt lo w v l) (hb : Keep lo w w') : BytesAt lo w' v l := SlE.keep h hb
theorem BytesAt.below {lo : Nat} {w w' : World} {v : Value} {l : List UInt8} (h : BytesAt lo w v l) (hb : Below w.heap.size w w') : BytesAt lo w' v l := SlE.below h hb
theorem BytesAt.mono {lo lo' : Nat} {w : World} {v : Value} {l : List UInt8} (h : BytesAt lo w v l) (hl : lo' ≤ lo) : BytesAt lo' w v l := SlE.mono h hl
theorem BytesAt.open {lo : Nat} {w : World} {v : Value} {l : List UInt8} (h : BytesAt lo w v l) : ∃ a c b o, v = .slice a l.length c ∧ (0 < l.length → a = some ⟨b, o, none⟩) ∧ (∀ i, i < l.length → w.cell? ⟨b, o + i, none⟩ = some (.int .u8 ((nth l i).toNat : Nat))) ∧ (0 < l.length → b < w.heap.size) ∧ (0 < l.length → lo ≤ b) ∧ l.length ≤ c ∧ c ≤ maxLen ∧ l.length ≤ 140737488355328 := by
  obtain ⟨a, c, b, o, rfl, hnil, hp, hc, h1, h2, h3⟩ := h
  have hcell : ∀ i, i < l.length → w.cell? ⟨b, o + i, none⟩ = some (.int .u8 ((nth l i).toNat : Nat)) := fun i hi => by have := hc i 0 hi (by decide); rw [show byteE.sz = 1 from rfl, Nat.mul_one, Nat.add_zero] at this; exact this
  exact ⟨a, c, b, o, rfl, fun h0 => (hp h0).1, hcell, fun h0 => World.block_lt_of_cell? _ _ (hcell 0 h0), fun h0 => (hp h0).2, h1, h2, h3⟩

/-- The checksum. -/
def sumStep (h : BitVec 32) (c : UInt8) : BitVec 32 := (h ^^^ BitVec.ofNat 32 c.toNat) * 16777619#32
def sumFrom (h : BitVec 32) (l : List UInt8) : BitVec 32 := l.foldl sumStep h
def sumB (l : List UInt8) : BitVec 32 := sumFrom 0x811c9dc5#32 l
/-- Behind a name: the walk leaves it. -/
def natS (h : BitVec 32) : Nat := h.toNat

theorem byte_lt (c : UInt8) : c.toNat < 256 := c.toNat_lt

theorem xor_u32 (h : BitVec 32) (y : UInt8) : bits .xor .u32 (natS h : Nat) (y.toNat : Nat) = ((h ^^^ BitVec.ofNat 32 y.toNat).toNat : Int) := by
  show IntKind.u32.wrap (((BitVec.ofInt 32 ((natS h : Nat) : Int)) ^^^ (BitVec.ofInt 32 ((y.toNat : Nat) : Int))).toNat : Int) = _
  rw [BitVec.ofInt_natCast, BitVec.ofInt_natCast, show BitVec.ofNat 32 (natS h) = h by unfold natS; rw [BitVec.ofNat_toNat, BitVec.setWidth_eq]]
  have := (h ^^^ BitVec.ofNat 32 y.toNat).isLt
  exact IntWalk.u32_in _ (by omega)
theorem sum_step (h : BitVec 32) (y : UInt8) : bits .xor .u32 (natS h : Nat) (y.toNat : Nat) * 16777619 % 4294967296 = ((natS (sumStep h y) : Nat) : Int) := by
  rw [xor_u32]
  unfold natS sumStep
  rw [BitVec.toNat_mul]
  simp
theorem sumB_snoc (l : List UInt8) (k : Nat) (h : k < l.length) : sumB (l.take (k + 1)) = sumStep (sumB (l.take k)) (nth l k) := by
  rw [show l.take (k + 1) = l.take k ++ [nth l k] by rw [List.take_add_one, nth_eq _ _ h, List.getElem?_eq_getElem h]; rfl]
  unfold sumB sumFrom
  rw [List.foldl_append]
  rfl

set_option maxRecDepth 100000 in
set_option maxHeartbeats 1000000 in
theorem osum_calls (lo : Nat) (v : Value) (l : List UInt8) (w : World) (h : BytesAt lo w v l) :
    Calls Try.prog 12 #[v] w fun e w' => e = .returned (.int .u32 (natS (sumB l) : Nat)) ∧ Below w.heap.size w w' := by
  obtain ⟨a, c, b, o, rfl, p1, q1, k1, _, _, m1, n1⟩ := h.open
  have HQ := hid (And.intro p1 (And.intro q1 k1))
  clear h p1 q1 k1
  go_enter Try.func12, Try.ntmps12
  go_wp2_with fail
  go_loopw [3, 8] (fun hv i wr => ∃ k : Nat, k ≤ l.length ∧ i = .int .i64 k ∧ hv = .int .u32 (natS (sumB (l.take k)) : Nat) ∧ wr = w) (fun _ i _ => l.length - (intOf i).toNat)
  case atStart => exact ⟨0, Nat.zero_le _, rfl, rfl, rfl⟩
  case round =>
    obtain ⟨k, hk, rfl, rfl, rfl⟩ := hrel
    by_cases hlt : k < l.length
    · have hlt2 : (k : Int) < l.length := Int.ofNat_lt.2 hlt
      obtain ⟨p1, q1, k1⟩ := HQ.out
      have e1 := p1 (by omega)
      subst e1
      have z1 := k1 (by omega)
      have c1 := q1 k hlt
      obtain ⟨y, hy⟩ : ∃ y, nth l k = y := ⟨_, rfl⟩
      rw [hy] at c1
      have hyl := byte_lt y
      clear p1 q1 k1
      go_wp2_with fail
      refine ⟨⟨k + 1, by omega, by go_num, ?_, by trivial⟩, by simp [intOf] <;> omega⟩
      rw [sumB_snoc l k hlt, hy, ← sum_step]
    · have hk2 : k = l.length := by omega
      have HK := hid (show sumB (l.take k) = sumB l by rw [hk2, List.take_length])
      have hlt2 : ¬ (k : Int) < l.length := by omega
      clear hk2
      go_wp2_with fail
      go_ret
      exact ⟨by rw [HK.out]; rfl, Below.refl _ _⟩

set_option maxRecDepth 100000 in
set_option maxHeartbeats 1000000 in
theorem rsum_calls (lo : Nat) (v : Value) (l : List UInt8) (w : World) (h : BytesAt lo w v l) :
    Calls Try.prog 13 #[v] w fun e w' => e = .returned (.int .u32 (natS (sumB l) : Nat)) ∧ Below w.heap.size w w' := by
  obtain ⟨a, c, b, o, rfl, p1, q1, k1, _, _, m1, n1⟩ := h.open
  have HQ := hid (And.intro p1 (And.intro q1 k1))
  clear h p1 q1 k1
  go_enter Try.func13, Try.ntmps13
  go_wp2_with fail
  go_loopw [3, 4] (fun hv i wr => ∃ k : Nat, k ≤ l.length ∧ i = .int .i64 k ∧ hv = .int .u32 (natS (sumB (l.take k)) : Nat) ∧ wr = w) (fun _ i _ => l.length - (intOf i).toNat)
  case atStart => exact ⟨0, Nat.zero_le _, rfl, rfl, rfl⟩
  case round =>
    obtain ⟨k, hk, rfl, rfl, rfl⟩ := hrel
    by_cases hlt : k < l.length
    · have hlt2 : (k : Int) < l.length := Int.ofNat_lt.2 hlt
      obtain ⟨p1, q1, k1⟩ := HQ.out
      have e1 := p1 (by omega)
      subst e1
      have z1 := k1 (by omega)
      have c1 := q1 k hlt
      obtain ⟨y, hy⟩ : ∃ y, nth l k = y := ⟨_, rfl⟩
      rw [hy] at c1
      have hyl := byte_lt y
      clear p1 q1 k1
      go_wp2_with fail
      refine ⟨⟨k + 1, by omega, by go_num, ?_, by trivial⟩, by simp [intOf] <;> omega⟩
      rw [sumB_snoc l k hlt, hy, ← sum_step]
    · have hk2 : k = l.length := by omega
      have HK := hid (show sumB (l.take k) = sumB l by rw [hk2, List.take_length])
      have hlt2 : ¬ (k : Int) < l.length := by omega
      clear hk2
      go_wp2_with fail
      go_ret
      exact ⟨by rw [HK.out]; rfl, Below.refl _ _⟩

end Go.Proofs.Ytkfpacklpelefaa
