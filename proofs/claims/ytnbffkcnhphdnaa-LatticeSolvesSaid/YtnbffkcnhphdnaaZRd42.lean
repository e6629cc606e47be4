/-
  What the arguments of chapter 42's laws read as: rows of rows, edges, graphs.
-/
import Derived.Test.YtnbffkcnhphdnaaZEdg42
import Derived.Test.YtnbffkcnhphdnaaZRdG
namespace Go.Proofs.Ytnbffkcnhphdnaa
set_option linter.unusedVariables false
set_option linter.unusedSimpArgs false
open Go.RowKit Go.ChangeShapes Go.WideShapes Go.Deep

section
variable {H : Type} {enc : TypeId × Value → H} {w : World}

theorem cellsEdge : Try.prog.cellsOf 47 = 4 := by kernel_rfl
theorem cellsGraph : Try.prog.cellsOf 25 = 3 := by kernel_rfl
theorem match3' {α : Type} {l : List α} (h : l.length = 3) : ∃ a b c, l = [a, b, c] := by
  match l, h with
  | [a, b, c], _ => exact ⟨a, b, c, rfl⟩

def IntsWf (l : List Int) : Prop := l.length * 8 ≤ 140737488351232 ∧ ∀ x ∈ l, I64 x

theorem rdLays {v : Value} (h : Rd enc Try.prog w 23 [v]) : ∃ l, LaysAt 0 w v l ∧ ∀ r ∈ l, IntsWf r := by
  obtain ⟨ll, h2, g2, z2⟩ := Rd.slice (v := v) rowE (fun x => ∃ r, IntsAt 0 w x.val r ∧ IntsWf r) Try.underlying23 cellsInts (by rw [show Try.prog.bytesOf 34 = 24 from by kernel_rfl]; omega) (fun cs' h => by
    obtain ⟨v, rfl⟩ := rdRowCells h
    obtain ⟨r, hr, hw⟩ := rdInts h
    obtain ⟨s, rfl⟩ := hr.slc
    exact ⟨s, rfl, r, hr, hw⟩) h
  obtain ⟨R, hR⟩ := choose_lt g2
  refine ⟨(List.range ll.length).map R, ⟨ll, by simp, h2, fun i hi => ?_⟩, forall_nth fun i hi => ?_⟩
  · have hi' : i < ll.length := by simpa using hi
    rw [nth_range_map _ _ _ hi']
    exact (hR i hi').1
  · have hi' : i < ll.length := by simpa using hi
    rw [nth_range_map _ _ _ hi']
    exact (hR i hi').2

structure EdgWf (e : Edg) : Prop where
  src : I64 e.src
  dst : I64 e.dst
  kill : IntsWf e.kill
  gen : IntsWf e.gen

def EdgeAt (lo : Nat) (w : World) (x : Edg) (K G : Slc) : Prop := IntsAt lo w K.val x.kill ∧ IntsAt lo w G.val x.gen ∧ EdgWf x

theorem rdEdge {cs : List Value} (h : Rd enc Try.prog w 47 cs) : ∃ (x : Edg) (K G : Slc), cs = [.int .i64 x.src, .int .i64 x.dst, K.val, G.val] ∧ EdgeAt 0 w x K G := by
  obtain ⟨hl, hf⟩ := h.fields Try.underlying47 (by kernel_rfl)
  rw [cellsEdge] at hl
  obtain ⟨a, b, c, d, rfl⟩ := match4 hl
  obtain ⟨n0, e0, i0⟩ := rdInt (hf 0 _ a rfl rfl)
  obtain ⟨n1, e1, i1⟩ := rdInt (hf 1 _ b rfl rfl)
  simp at e0 e1
  subst e0 e1
  obtain ⟨k, hk, wk⟩ := rdInts (hf 2 _ c rfl rfl)
  obtain ⟨g, hg, wg⟩ := rdInts (hf 3 _ d rfl rfl)
  obtain ⟨K, rfl⟩ := hk.slc
  obtain ⟨G, rfl⟩ := hg.slc
  exact ⟨⟨n0, n1, k, g⟩, K, G, rfl, hk, hg, ⟨wfI64 i0, wfI64 i1, wk, wg⟩⟩

theorem rdEdges {v : Value} (h : Rd enc Try.prog w 22 [v]) : ∃ l, EdgesAt 0 w v l ∧ ∀ e ∈ l, EdgWf e := by
  obtain ⟨ll, h2, g2, z2⟩ := Rd.slice (v := v) edgE (fun x => IntsAt 0 w x.2.1.val x.1.kill ∧ IntsAt 0 w x.2.2.val x.1.gen ∧ EdgWf x.1) Try.underlying22 cellsEdge (by rw [show Try.prog.bytesOf 47 = 64 from by kernel_rfl]; omega) (fun cs' h => by
    obtain ⟨x, K, G, e, h1, h2, h3⟩ := rdEdge h
    exact ⟨(x, K, G), e, h1, h2, h3⟩) h
  refine ⟨ll.map Prod.fst, ⟨ll, rfl, h2, fun i hi => ⟨(g2 i hi).1, (g2 i hi).2.1⟩⟩, forall_nth fun i hi => ?_⟩
  have hi' : i < ll.length := by simpa using hi
  rw [nth_map _ _ _ hi']
  exact (g2 i hi').2.2

theorem rdGraph {cs : List Value} (h : Rd enc Try.prog w 25 cs) : ∃ (N : Nat) (ve vs : Value) (E : List Edg) (S : List (List Int)), cs = [.int .u8 (N : Nat), ve, vs] ∧ N < 256 ∧ (EdgesAt 0 w ve E ∧ ∀ e ∈ E, EdgWf e) ∧ (LaysAt 0 w vs S ∧ ∀ r ∈ S, IntsWf r) := by
  obtain ⟨hl, hf⟩ := h.fields Try.underlying25 (by kernel_rfl)
  rw [cellsGraph] at hl
  obtain ⟨a, b, c, rfl⟩ := match3' hl
  obtain ⟨n0, e0, u0⟩ := (hf 0 _ a rfl rfl).int Try.underlying5
  simp at e0
  subst e0
  have hb : 0 ≤ n0 ∧ n0 < 256 := by simp [Lit.wf, IntKind.min, IntKind.max, IntKind.signed, IntKind.bits] at u0; omega
  obtain ⟨N, rfl⟩ := Int.eq_ofNat_of_zero_le hb.1
  obtain ⟨E, hE⟩ := rdEdges (hf 1 _ b rfl rfl)
  obtain ⟨S, hS⟩ := rdLays (hf 2 _ c rfl rfl)
  exact ⟨N, b, c, E, S, rfl, by omega, hE, hS⟩
end
end Go.Proofs.Ytnbffkcnhphdnaa
