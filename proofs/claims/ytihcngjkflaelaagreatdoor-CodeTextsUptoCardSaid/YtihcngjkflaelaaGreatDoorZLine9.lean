/-
  Short forms for worlds that follow one another.
-/
import Derived.Test.YtihcngjkflaelaaGreatDoorShelf
import Derived.Shelf.Strings.BuilderK
import Derived.Lib.AppendIntMem
import Derived.Test.YtihcngjkflaelaaGreatDoorZBox
import Derived.Test.YtihcngjkflaelaaGreatDoorZTxtR
namespace Go.Proofs.YtihcngjkflaelaaGreatDoor
set_option linter.unusedVariables false
set_option linter.unusedSimpArgs false
open Go.RowKit

theorem bvia {w W w' : World} (h : Below w.heap.size w W) (h' : Below W.heap.size W w') : Below w.heap.size w w' := h.trans (h'.mono h.size)
theorem bdraw {w w' : World} (h : Below w.heap.size w w') (n : Nat) : Below w.heap.size w (w'.drewN n) := h.trans ⟨rfl, rfl, rfl, Nat.le_refl _, fun _ _ => rfl⟩
theorem bone {w w' : World} (h : Below w.heap.size w w') (o : Obj) : Below w.heap.size w (w'.alloc o) := h.alloc h.size o
theorem bstore {w w' : World} (h : Below w.heap.size w w') (b k : Nat) (u : Value) (hb : w.heap.size ≤ b) : Below w.heap.size w (w'.setCell ⟨b, k, none⟩ u) := h.setCell hb u

end Go.Proofs.YtihcngjkflaelaaGreatDoor

/-
  The Builder's methods, over this program's numbers.
-/
namespace Go.Proofs.YtihcngjkflaelaaGreatDoor
set_option linter.unusedVariables false
set_option linter.unusedSimpArgs false
open Go.RowKit

def ren167 : Go.Shelf.Ren := ⟨fun | 167 => 23 | n => Tryz.lays156_ren.f n, Tryz.lays156_ren.t, Tryz.lays156_ren.g⟩
set_option maxRecDepth 100000 in
theorem lays166 : Go.Proofs.Lays.n166 Tryz.prog Tryz.lays156_ren := { Tryz.lays156 with }
set_option maxRecDepth 100000 in
theorem lays167 : Go.Proofs.Lays.n167 Tryz.prog ren167 := { Tryz.lays156 with
  f167 := Tryz.func23.trans (congrArg some (by kernel_rfl))
  t5 := Tryz.Builder_Extra_156.t5
  a5 := Tryz.Builder_Extra_156.a5
  z5 := Tryz.Builder_Extra_156.z5
  v5 := Tryz.Builder_Extra_156.v5 }
set_option maxRecDepth 100000 in
theorem ext167 : Builder.Extra Tryz.prog ren167 := {
  sizeBuilder := Tryz.Builder_Extra_156.sizeBuilder
  liesBuilder := Tryz.Builder_Extra_156.liesBuilder
  t5 := Tryz.Builder_Extra_156.t5
  a5 := Tryz.Builder_Extra_156.a5
  z5 := Tryz.Builder_Extra_156.z5
  v5 := Tryz.Builder_Extra_156.v5
  infoByte := Tryz.Builder_Extra_156.infoByte
  cellsByte := Tryz.Builder_Extra_156.cellsByte
  sizeByte := Tryz.Builder_Extra_156.sizeByte
  neB5 := Tryz.Builder_Extra_156.neB5 }

theorem ws_calls (B b : Nat) (bs : List Value) (s : ByteArray) (w : World) (h : Lib.IsBuilderF 50 5 B b bs w) (hlen : bs.length + s.size ≤ 140737488355328) (hBw : B ≤ w.heap.size) :
    Calls Tryz.prog 21 #[.pointer (some ⟨b, 0, none⟩), .string s] w fun e w' => e = .returned (.tuple #[.int .i64 s.size, .nilIface]) ∧ Lib.IsBuilderF 50 5 B b (bs ++ Lib.strCells s) w' ∧ Below B w w' ∧ Lib.OthersKept 5 (some b) w w' :=
  (Any.Builder_WriteString_k lays166 Tryz.Builder_Extra_156 B b bs s w h hlen hBw).mono fun e w' ⟨h1, h2, h3, h4⟩ => ⟨h1, .inr h2, h3, h4⟩
theorem wb_calls (B b : Nat) (bs : List Value) (c : Int) (w : World) (h : Lib.IsBuilderF 50 5 B b bs w) (hlen : bs.length + 1 ≤ 140737488355328) (hBw : B ≤ w.heap.size) :
    Calls Tryz.prog 23 #[.pointer (some ⟨b, 0, none⟩), .int .u8 c] w fun e w' => e = .returned .nilIface ∧ Lib.IsBuilderF 50 5 B b (bs ++ [.int .u8 c]) w' ∧ Below B w w' ∧ Lib.OthersKept 5 (some b) w w' :=
  (Any.Builder_WriteByte_k lays167 ext167 B b bs c w h hlen hBw).mono fun e w' ⟨h1, h2, h3, h4⟩ => ⟨h1, .inr h2, h3, h4⟩

end Go.Proofs.YtihcngjkflaelaaGreatDoor

/-
  One line of the disassembly, walked: the closure that writes it.
-/
namespace Go.Proofs.YtihcngjkflaelaaGreatDoor
set_option linter.unusedVariables false
set_option linter.unusedSimpArgs false
open Go.RowKit

abbrev BldAt (B b : Nat) (acc : List UInt8) (w : World) : Prop := Lib.IsBuilderF 50 5 B b (Lib.byteCells acc) w
theorem bld_below {B b : Nat} {acc : List UInt8} {w w' : World} (h : BldAt B b acc w) (hb : Below w.heap.size w w') : BldAt B b acc w' := by
  have key : ∀ p, Lib.BuilderAtF 50 5 B b p (Lib.byteCells acc) w → Lib.BuilderAtF 50 5 B b p (Lib.byteCells acc) w' := fun p hp => by
    have hlt := hp.lt
    obtain ⟨hB, v, hc, hown, hne⟩ := hp
    have hg : w.grownBy w' none := ⟨hb.os, hb.tape, hb.output, hb.size, fun k hk _ => hb.block k hk⟩
    refine ⟨hB, v, by rw [hb.block b hlt]; exact hc, hown.kept hg ?_, hne⟩
    cases hv : v.ownBlock with
    | none => exact .inl rfl
    | some k => exact .inr (by simp)
  rcases h with h | h
  · exact .inl (key _ h)
  · exact .inr (key _ h)
theorem kept_below {w w' : World} {b : Option Nat} (hb : Below w.heap.size w w') : Lib.OthersKept 5 b w w' := by
  intro k o ho _ _
  have hlt : k < w.heap.size := by
    rcases Nat.lt_or_ge k w.heap.size with h | h
    · exact h
    · rw [Array.getElem?_eq_none h] at ho; cases ho
  rw [hb.block k hlt]; exact ho
theorem strCells_bl (s : ByteArray) : Lib.strCells s = Lib.byteCells (bl s) := rfl
theorem byteCells_app (a c : List UInt8) : Lib.byteCells (a ++ c) = Lib.byteCells a ++ Lib.byteCells c := by simp [Lib.byteCells]

set_option maxRecDepth 100000 in
set_option maxHeartbeats 2000000 in
theorem line_calls (B b : Nat) (acc : List UInt8) (parts : List ByteArray) (bk o c : Nat) (w : World) (hb : BldAt B b acc w) (hcells : ∀ (j : Nat) x, parts[j]? = some x → w.cell? ⟨bk, o + j, none⟩ = some (.string x)) (hbk : bk < w.heap.size) (hN : parts.length ≤ 1000) (hcap : parts.length ≤ c) (hBw : B ≤ w.heap.size)
    (hlen : (acc ++ lineB (parts.map bl)).length ≤ 140737488355328) :
    Calls Tryz.prog 20 #[.slice (some ⟨bk, o, none⟩) parts.length c, .pointer (some ⟨b, 0, none⟩)] w fun e w' => e = .returned (.tuple #[]) ∧ BldAt B b (acc ++ lineB (parts.map bl)) w' ∧ Below B w w' ∧ Lib.OthersKept 5 (some b) w w' := by
  have HB := hid hb
  have HC := hid hcells
  have hl2 : acc.length + ((Lib.join (parts.map bl) [32]).length + 1) ≤ 140737488355328 := by
    have h := hlen
    rw [List.length_append] at h
    unfold lineB at h
    rw [List.length_append] at h
    exact h
  have HL := hid hl2
  clear hb hcells hlen hl2
  go_enter Tryz.func20, Tryz.ntmps20
  go_wp2_with (
    go_at_call 22
    refine (Tryz.strings_Join bk o c parts ⟨#[32]⟩ w HC.out hbk (by omega) hcap (by have := HL.out; show (Lib.join (parts.map bl) [32]).length ≤ _; omega)).mono ?_
    rintro e w1 ⟨rfl, hb1⟩
    have HB1 := hid hb1
    clear hb1)
  have hj : ({ data := (Lib.join (List.map (fun x => x.data.toList) parts) [32]).toArray } : ByteArray) = ⟨(Lib.join (parts.map bl) [32]).toArray⟩ := rfl
  have hB1 := bld_below HB.out HB1.out
  have HW := hid (ws_calls B b (Lib.byteCells acc) ⟨(Lib.join (parts.map bl) [32]).toArray⟩ w1 hB1 (by rw [Lib.byteCells_length]; have := HL.out; simp only [ByteArray.size_mk', List.size_toArray]; omega) (Nat.le_trans hBw HB1.out.size))
  clear hB1
  go_wp2_with (
    go_at_call 21
    refine HW.out.mono ?_
    rintro e w2 ⟨rfl, hb2, hl2, hk2⟩
    have HB2 := hid hb2
    have HL2 := hid hl2
    have HK2 := hid hk2
    clear hb2 hl2 hk2)
  rw [strCells_bl, bl_mk, ← byteCells_app] at HB2
  have HW2 := hid (wb_calls B b (Lib.byteCells (acc ++ Lib.join (parts.map bl) [32])) 10 w2 HB2.out (by rw [Lib.byteCells_length, List.length_append]; have := HL.out; omega) (Nat.le_trans (Nat.le_trans hBw HB1.out.size) HL2.out.size))
  go_wp2_with (
    go_at_call 23
    refine HW2.out.mono ?_
    rintro e w3 ⟨rfl, hb3, hl3, hk3⟩
    have HB3 := hid hb3
    have HL3 := hid hl3
    have HK3 := hid hk3
    clear hb3 hl3 hk3)
  go_end0
  refine ⟨rfl, ?_, (((HB1.out.mono hBw).trans HL2.out).trans HL3.out), ((kept_below HB1.out).trans HK2.out).trans HK3.out⟩
  have h := HB3.out
  rw [show ([.int .u8 10] : List Value) = Lib.byteCells [10] from rfl, ← byteCells_app, List.append_assoc] at h
  exact h

end Go.Proofs.YtihcngjkflaelaaGreatDoor
