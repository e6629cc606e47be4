/-
  The Builder's methods, over this program's numbers.
-/
import Derived.Test.YtihcngjkflaelaaGreatDoorShelf
import Derived.Shelf.Strings.BuilderK
namespace Go.Proofs.YtihcngjkflaelaaGreatDoor
set_option linter.unusedVariables false
set_option linter.unusedSimpArgs false
open Go.RowKit

def ren167 : Go.Shelf.Ren := ⟨fun | 167 => 23 | n => Tryz.lays156_ren.f n, Tryz.lays156_ren.t, Tryz.lays156_ren.g⟩
set_option maxRecDepth 100000 in
theorem lays166 : Go.Proofs.Lays.n166 Tryz.prog Tryz.lays156_ren := { Tryz.lays156 with }
set_option maxRecDepth 100000 in
theorem lays167 : Go.Proofs.Lays.n167 Tryz.prog ren167 := { Tryz.lays156 with
  f167 := Tryz.func23.trans (congrArg some (by kernel_rfl))
  t5 := Tryz.Builder_Extra_156.t5
  a5 := Tryz.Builder_Extra_156.a5
  z5 := Tryz.Builder_Extra_156.z5
  v5 := Tryz.Builder_Extra_156.v5 }
set_option maxRecDepth 100000 in
theorem ext167 : Builder.Extra Tryz.prog ren167 := {
  sizeBuilder := Tryz.Builder_Extra_156.sizeBuilder
  liesBuilder := Tryz.Builder_Extra_156.liesBuilder
  t5 := Tryz.Builder_Extra_156.t5
  a5 := Tryz.Builder_Extra_156.a5
  z5 := Tryz.Builder_Extra_156.z5
  v5 := Tryz.Builder_Extra_156.v5
  infoByte := Tryz.Builder_Extra_156.infoByte
  cellsByte := Tryz.Builder_Extra_156.cellsByte
  sizeByte := Tryz.Builder_Extra_156.sizeByte
  neB5 := Tryz.Builder_Extra_156.neB5 }

theorem ws_calls (B b : Nat) (bs : List Value) (s : ByteArray) (w : World) (h : Lib.IsBuilderF 50 5 B b bs w) (hlen : bs.length + s.size ≤ 140737488355328) (hBw : B ≤ w.heap.size) :
    Calls Tryz.prog 21 #[.pointer (some ⟨b, 0, none⟩), .string s] w fun e w' => e = .returned (.tuple #[.int .i64 s.size, .nilIface]) ∧ Lib.IsBuilderF 50 5 B b (bs ++ Lib.strCells s) w' ∧ Below B w w' ∧ Lib.OthersKept 5 (some b) w w' :=
  (Any.Builder_WriteString_k lays166 Tryz.Builder_Extra_156 B b bs s w h hlen hBw).mono fun e w' ⟨h1, h2, h3, h4⟩ => ⟨h1, .inr h2, h3, h4⟩
theorem wb_calls (B b : Nat) (bs : List Value) (c : Int) (w : World) (h : Lib.IsBuilderF 50 5 B b bs w) (hlen : bs.length + 1 ≤ 140737488355328) (hBw : B ≤ w.heap.size) :
    Calls Tryz.prog 23 #[.pointer (some ⟨b, 0, none⟩), .int .u8 c] w fun e w' => e = .returned .nilIface ∧ Lib.IsBuilderF 50 5 B b (bs ++ [.int .u8 c]) w' ∧ Below B w w' ∧ Lib.OthersKept 5 (some b) w w' :=
  (Any.Builder_WriteByte_k lays167 ext167 B b bs c w h hlen hBw).mono fun e w' ⟨h1, h2, h3, h4⟩ => ⟨h1, .inr h2, h3, h4⟩

end Go.Proofs.YtihcngjkflaelaaGreatDoor
