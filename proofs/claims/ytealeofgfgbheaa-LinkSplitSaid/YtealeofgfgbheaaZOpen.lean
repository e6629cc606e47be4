/-
  What an argument reads as: from the form's reading to the plain lists.
-/
import Derived.Test.YtealeofgfgbheaaProg
import Derived.Deep.Slices
import Derived.Deep.Fields
import Derived.SizedLaws
import Derived.ProofKit
import Derived.Test.YtealeofgfgbheaaZPrClone
namespace Go.Proofs.Ytealeofgfgbheaa
set_option linter.unusedVariables false
set_option linter.unusedSimpArgs false
open Go.RowKit Go.ChangeShapes Go.WideShapes Go.Deep

section
variable {H : Type} {enc : TypeId × Value → H} {P : Program} {w : World}

/-- The cells cs read as a datum of type t whose parts are within the form's reach. -/
def Rd (enc : TypeId × Value → H) (P : Program) (w : World) (t : TypeId) (cs : List Value) : Prop :=
  ∃ fuel x, DataW.trod enc P w 0 (fun _ => true) true fuel t cs = some x ∧ ∀ n ∈ x.1.weights P t, n ≤ reachBytes

theorem Rd.int {t : TypeId} {k : IntKind} {cs : List Value} (ht : P.underlying t = some (.int k)) (h : Rd enc P w t cs) : ∃ n, cs = [.int k n] ∧ (Lit.int k n).wf = true := by
  obtain ⟨fuel, x, h, _⟩ := h
  obtain ⟨n, rfl, _, hn⟩ := DataW.trod_int ht h
  exact ⟨n, rfl, hn⟩
theorem Rd.string {t : TypeId} {cs : List Value} (ht : P.underlying t = some .string) (h : Rd enc P w t cs) : ∃ s : ByteArray, cs = [.string s] ∧ s.size ≤ reachBytes := by
  obtain ⟨fuel, x, h, hw⟩ := h
  obtain ⟨s, rfl, rfl, hs⟩ := DataW.trod_string ht h
  refine ⟨s, rfl, ?_⟩
  have := hw s.data.toList.length (by simp [DataW.weights])
  simpa using this
theorem Rd.struct {t : TypeId} {fs : Array Field} {cs : List Value} (ht : P.underlying t = some (.struct fs)) (h : Rd enc P w t cs) :
    cs.length = P.cellsOf t ∧ ∀ (i : Nat) (f : Field), fs[i]? = some f → Rd enc P w f.type ((cs.drop f.offset).take (P.cellsOf f.type)) := by
  obtain ⟨fuel, x, h, hw⟩ := h
  obtain ⟨xs, n, _, rfl, hlen, hxl, hf⟩ := DataW.trod_struct ht h
  refine ⟨hlen, fun i f hi => ?_⟩
  have hil : i < fs.size := (Array.getElem?_eq_some_iff.1 hi).1
  have hx : xs[i]? = some (xs[i]'(by omega)) := List.getElem?_eq_getElem (by omega)
  refine ⟨n, xs[i]'(by omega), (hf i f hi).trans hx, fun m hm => hw m ?_⟩
  simp only [DataW.weights, ht]
  exact DataW.weights_mem_each (j := i) (t := f.type) (d := (xs[i]'(by omega)).1) (by simp; exact ⟨f, hi, rfl⟩) (by simp [hx]) m hm

theorem Rd.fields {t : TypeId} {fs : Array Field} {cs : List Value} (ht : P.underlying t = some (.struct fs)) (hone : oneCellFields P fs = true) (h : Rd enc P w t cs) :
    cs.length = P.cellsOf t ∧ ∀ (i : Nat) (f : Field) (v : Value), fs[i]? = some f → cs[i]? = some v → Rd enc P w f.type [v] := by
  obtain ⟨hl, hf⟩ := h.struct ht
  refine ⟨hl, fun i f v hi hv => ?_⟩
  have h1 := hf i f hi
  obtain ⟨ho, hk⟩ := hone_of hone i f hi
  rw [ho, hk] at h1
  obtain ⟨hj, rfl⟩ := List.getElem?_eq_some_iff.1 hv
  rw [List.drop_eq_getElem_cons hj] at h1
  exact h1

theorem weights_mem_all {e : TypeId} : ∀ {ds : List (DataW H)} {d : DataW H}, d ∈ ds → ∀ n ∈ d.weights P e, n ∈ DataW.weightsAll P e ds
  | d0 :: ds, d, hd, n, hn => by
    simp only [DataW.weightsAll, List.mem_append]
    rcases List.mem_cons.1 hd with rfl | h
    · exact .inl hn
    · exact .inr (weights_mem_all h n hn)
  | [], d, hd, _, _ => by simp at hd

theorem nth_range_map {α : Type} [Inhabited α] (X : Nat → α) (n i : Nat) (h : i < n) : nth ((List.range n).map X) i = X i := by
  rw [nth_eq _ _ (by simpa using h)]; simp

theorem addr_add' (b o j : Nat) : (⟨b, o, none⟩ : Addr).add j = ⟨b, o + j, none⟩ := by unfold Addr.add; split <;> simp_all

theorem Rd.slice {α : Type} [Inhabited α] {t e : TypeId} {v : Value} (E : Enc α) (Good : α → Prop) (ht : P.underlying t = some (.slice e)) (hC : P.cellsOf e = E.sz) (hB : 1 ≤ P.bytesOf e)
    (hel : ∀ cs', Rd enc P w e cs' → ∃ x, cs' = E.enc x ∧ Good x) (h : Rd enc P w t [v]) : ∃ l : List α, SlE E 0 w v l ∧ (∀ i, i < l.length → Good (nth l i)) ∧ l.length * P.bytesOf e ≤ reachBytes := by
  obtain ⟨fuel, x, h, hw⟩ := h
  rcases open_slice ht h with ⟨h0, _⟩ | ⟨a, len, cap, m, n, D, Pl, hcs, hb, hl, hm, hmm, hx, hi⟩
  · obtain rfl : v = .slice none 0 0 := by simpa using h0
    exact ⟨[], SlAt.nil _ _ _ _, fun i hi => by simp at hi, by simp⟩
  · obtain rfl : v = .slice (some a) len cap := by simpa using hcs
    rw [if_pos rfl] at hmm
    subst hmm
    subst hx
    have hreach : (len + (m - len)) * P.bytesOf e ≤ reachBytes := hw _ (by simp [DataW.weights, ht])
    have hlen : len ≤ 140737488355328 := by
      have h1 : len * 1 ≤ (len + (m - len)) * P.bytesOf e := Nat.mul_le_mul (by omega) hB
      have : reachBytes = 140737488351232 := rfl
      omega
    have hall : ∀ i, i < len → ∃ x : α, w.cells? 0 (a.add (i * P.cellsOf e)) (P.cellsOf e) = some (E.enc x) ∧ Good x := by
      intro i hil
      obtain ⟨cs', h1, h2⟩ := hi i (by omega)
      obtain ⟨x, rfl, hg⟩ := hel cs' ⟨n, _, h2, fun k hk => hw k (by
        simp only [DataW.weights, ht, List.mem_cons, List.mem_append]
        exact .inr (.inl (weights_mem_all (d := D i) (by simp; exact ⟨i, hil, rfl⟩) k hk)))⟩
      exact ⟨x, h1, hg⟩
    obtain ⟨X, hX⟩ := choose_lt hall
    refine ⟨(List.range len).map X, ?_, fun i hil => ?_, ?_⟩
    · have hz : ((List.range len).map X).length = len := by simp
      unfold SlE
      rw [hz]
      have hcell : ∀ i k, i < len → k < E.sz → w.cell? (a.add (i * E.sz + k)) = some (nth (E.enc (X i)) k) := by
        intro i k hil hk
        obtain ⟨h1, _⟩ := hX i hil
        obtain ⟨_, h3, h4⟩ := World.cells?_some h1
        rw [hC] at h4
        rw [← Go.Deep.add_add, h4 k hk, nth_eq _ _ (by rw [E.len]; exact hk), List.getElem?_eq_getElem (by rw [E.len]; exact hk)]
      refine ⟨some a, m, a.block, a.off, rfl, (fun h => by cases h), fun h0 => ⟨?_, Nat.zero_le _⟩, fun i k hil hk => ?_, hl, hm, hlen⟩
      · have hc := hcell 0 0 h0 E.pos
        have hs := World.cell?_spot hc
        have : a.spot = none := by simpa [Addr.add] using hs
        cases a; simp_all
      · have hc := hcell i k hil hk
        have hs := World.cell?_spot hc
        show _ = some (nth (E.enc (nth ((List.range len).map X) i)) k)
        rw [nth_range_map _ _ _ hil]
        have hp : a.spot = none := by
          have hc0 := hcell 0 0 (by omega) E.pos
          have := World.cell?_spot hc0
          simpa [Addr.add] using this
        have : a.add (i * E.sz + k) = ⟨a.block, a.off + i * E.sz + k, none⟩ := by
          cases a
          simp only at hp
          subst hp
          rw [addr_add', Nat.add_assoc]
        rw [← this]; exact hc
    · have hil' : i < len := by simpa using hil
      rw [nth_range_map _ _ _ hil']
      exact (hX i hil').2
    · simp only [List.length_map, List.length_range]
      exact Nat.le_trans (Nat.mul_le_mul_right _ (by omega)) hreach

theorem take1 {α : Type} (l : List α) (j : Nat) (x : α) (h : l[j]? = some x) : (l.drop j).take 1 = [x] := by
  obtain ⟨hj, rfl⟩ := List.getElem?_eq_some_iff.1 h
  rw [List.drop_eq_getElem_cons hj]; rfl

end

section
variable {H : Type} {enc : TypeId × Value → H} {w : World}
abbrev tInt : Nat := 3
abbrev tInts : Nat := 45
abbrev tIns : Nat := 43
abbrev tFun : Nat := 41
abbrev tGlob : Nat := 60
abbrev tPrg : Nat := 26

theorem match5 {α : Type} {l : List α} (h : l.length = 5) : ∃ a b c d e, l = [a, b, c, d, e] := by
  match l, h with
  | [a, b, c, d, e], _ => exact ⟨a, b, c, d, e, rfl⟩
theorem match4 {α : Type} {l : List α} (h : l.length = 4) : ∃ a b c d, l = [a, b, c, d] := by
  match l, h with
  | [a, b, c, d], _ => exact ⟨a, b, c, d, rfl⟩
theorem match2 {α : Type} {l : List α} (h : l.length = 2) : ∃ a b, l = [a, b] := by
  match l, h with
  | [a, b], _ => exact ⟨a, b, rfl⟩
theorem match1 {α : Type} {l : List α} (h : l.length = 1) : ∃ a, l = [a] := by
  match l, h with
  | [a], _ => exact ⟨a, rfl⟩

theorem cellsInt : Try.prog.cellsOf 3 = 1 := by kernel_rfl
theorem cellsInts : Try.prog.cellsOf 45 = 1 := by kernel_rfl
theorem cellsStr : Try.prog.cellsOf 9 = 1 := by kernel_rfl
theorem cellsIns : Try.prog.cellsOf 43 = 5 := by kernel_rfl
theorem cellsFun : Try.prog.cellsOf 41 = 4 := by kernel_rfl
theorem cellsGlob : Try.prog.cellsOf 60 = 2 := by kernel_rfl
theorem cellsPrg : Try.prog.cellsOf 26 = 4 := by kernel_rfl
theorem cellsCode : Try.prog.cellsOf 39 = 1 := by kernel_rfl
theorem cellsFuns : Try.prog.cellsOf 22 = 1 := by kernel_rfl
theorem cellsGlobs : Try.prog.cellsOf 23 = 1 := by kernel_rfl
theorem cellsLays : Try.prog.cellsOf 24 = 1 := by kernel_rfl

theorem rdInt {cs : List Value} (h : Rd enc Try.prog w 3 cs) : ∃ n, cs = [.int .i64 n] ∧ (Lit.int .i64 n).wf = true := h.int Try.underlying3

theorem wfI64 {n : Int} (h : (Lit.int .i64 n).wf = true) : I64 n := by
  simp [Lit.wf, IntKind.min, IntKind.max, IntKind.signed, IntKind.bits] at h
  simp only [I64]
  omega

theorem rdIns {cs : List Value} (h : Rd enc Try.prog w 43 cs) : ∃ x : Ins, cs = insE.enc x ∧ InsWf x := by
  obtain ⟨hl, hf⟩ := h.fields Try.underlying43 (by kernel_rfl)
  rw [cellsIns] at hl
  obtain ⟨a, b, c, d, e, rfl⟩ := match5 hl
  obtain ⟨n0, e0, i0⟩ := rdInt (hf 0 _ a rfl rfl)
  obtain ⟨n1, e1, i1⟩ := rdInt (hf 1 _ b rfl rfl)
  obtain ⟨n2, e2, i2⟩ := rdInt (hf 2 _ c rfl rfl)
  obtain ⟨n3, e3, i3⟩ := rdInt (hf 3 _ d rfl rfl)
  obtain ⟨n4, e4, i4⟩ := rdInt (hf 4 _ e rfl rfl)
  simp at e0 e1 e2 e3 e4
  subst e0 e1 e2 e3 e4
  exact ⟨⟨n0, n1, n2, n3, n4⟩, rfl, wfI64 i0, wfI64 i1, wfI64 i2, wfI64 i3, wfI64 i4⟩

theorem SlAt.slc {sz lo : Nat} {v : Value} {n : Nat} {f : Nat → Nat → Value} (h : SlAt sz lo w v n f) : ∃ s : Slc, v = s.val := by
  obtain ⟨a, c, b, o, rfl, _⟩ := h
  exact ⟨⟨a, n, c⟩, rfl⟩

theorem rdFun {cs : List Value} (h : Rd enc Try.prog w 41 cs) : ∃ x : Fun × Slc, cs = funE.enc x ∧ CodeAt 0 w x.2.val x.1.code ∧ FunWf x.1 := by
  obtain ⟨hl, hf⟩ := h.fields Try.underlying41 (by kernel_rfl)
  rw [cellsFun] at hl
  obtain ⟨a, b, c, d, rfl⟩ := match4 hl
  have f0 := hf 0 _ a rfl rfl
  have f3 := hf 3 _ d rfl rfl
  obtain ⟨n1, e1, i1⟩ := rdInt (hf 1 _ b rfl rfl)
  obtain ⟨n2, e2, i2⟩ := rdInt (hf 2 _ c rfl rfl)
  simp at e1 e2
  subst e1 e2
  obtain ⟨s, e0, is⟩ := Rd.string Try.underlying9 f0
  simp at e0
  subst e0
  obtain ⟨l, h3, g3, z3⟩ := Rd.slice (v := d) insE InsWf Try.underlying39 cellsIns (by rw [show Try.prog.bytesOf 43 = 40 from by kernel_rfl]; omega) (fun cs' h => rdIns h) f3
  rw [show Try.prog.bytesOf 43 = 40 from by kernel_rfl] at z3
  have hrb : reachBytes = 140737488351232 := rfl
  obtain ⟨sl, rfl⟩ := h3.slc
  exact ⟨(⟨s, n1, n2, l⟩, sl), rfl, h3, ⟨by show s.size ≤ _; omega, wfI64 i1, wfI64 i2, by show l.length * 40 ≤ _; omega, forall_nth g3⟩⟩

theorem rdGlob {cs : List Value} (h : Rd enc Try.prog w 60 cs) : ∃ x : Glob, cs = globE.enc x ∧ (x.name.size ≤ 140737488355328 ∧ I64 x.kind) := by
  obtain ⟨hl, hf⟩ := h.fields Try.underlying60 (by kernel_rfl)
  rw [cellsGlob] at hl
  obtain ⟨a, b, rfl⟩ := match2 hl
  have f0 := hf 0 _ a rfl rfl
  obtain ⟨n1, e1, i1⟩ := rdInt (hf 1 _ b rfl rfl)
  simp at e1
  subst e1
  obtain ⟨s, e0, is⟩ := Rd.string Try.underlying9 f0
  simp at e0
  subst e0
  have hrb : reachBytes = 140737488351232 := rfl
  exact ⟨⟨s, n1⟩, rfl, by show s.size ≤ _; omega, wfI64 i1⟩

theorem rdInts {v : Value} (h : Rd enc Try.prog w 45 [v]) : ∃ l, IntsAt 0 w v l ∧ (l.length * 8 ≤ 140737488351232 ∧ ∀ x ∈ l, I64 x) := by
  obtain ⟨l, h1, g1, z1⟩ := Rd.slice intE I64 Try.underlying45 cellsInt (by rw [show Try.prog.bytesOf 3 = 8 from by kernel_rfl]; omega) (fun cs' h => by obtain ⟨x, e, i⟩ := rdInt h; exact ⟨x, e, wfI64 i⟩) h
  rw [show Try.prog.bytesOf 3 = 8 from by kernel_rfl] at z1
  have hrb : reachBytes = 140737488351232 := rfl
  exact ⟨l, h1, by omega, forall_nth g1⟩

theorem nth_map_fst {α β : Type} [Inhabited α] [Inhabited β] (l : List (α × β)) (i : Nat) (h : i < l.length) : nth (l.map (·.1)) i = (nth l i).1 ∧ nth (l.map (·.2)) i = (nth l i).2 := by
  rw [nth_eq (l.map (·.1)) _ (by simpa using h), nth_eq (l.map (·.2)) _ (by simpa using h), nth_eq l _ h]; simp

theorem rdPrgWf {cs : List Value} (h : Rd enc Try.prog w 26 cs) : ∃ vf vg vl p, cs = [vf, vg, vl, .int .i64 p.main] ∧ ProgAt 0 w vf vg vl p ∧ PrgWf p := by
  obtain ⟨hl, hf⟩ := h.fields Try.underlying26 (by kernel_rfl)
  rw [cellsPrg] at hl
  obtain ⟨vf, vg, vl, d, rfl⟩ := match4 hl
  have f0 := hf 0 _ vf rfl rfl
  have f1 := hf 1 _ vg rfl rfl
  have f2 := hf 2 _ vl rfl rfl
  obtain ⟨n3, e3, i3⟩ := rdInt (hf 3 _ d rfl rfl)
  simp at e3
  subst e3
  obtain ⟨lf, h0, g0, z0⟩ := Rd.slice (v := vf) funE (fun x => CodeAt 0 w x.2.val x.1.code ∧ FunWf x.1) Try.underlying22 cellsFun (by rw [show Try.prog.bytesOf 41 = 56 from by kernel_rfl]; omega) (fun cs' h => rdFun h) f0
  obtain ⟨lg, h1, g1, z1⟩ := Rd.slice (v := vg) globE (fun x => x.name.size ≤ 140737488355328 ∧ I64 x.kind) Try.underlying23 cellsGlob (by rw [show Try.prog.bytesOf 60 = 24 from by kernel_rfl]; omega) (fun cs' h => rdGlob h) f1
  obtain ⟨ll, h2, g2, z2⟩ := Rd.slice (v := vl) rowE (fun x => ∃ r, IntsAt 0 w x.val r ∧ (r.length * 8 ≤ 140737488351232 ∧ ∀ x ∈ r, I64 x)) Try.underlying24 cellsInts (by rw [show Try.prog.bytesOf 45 = 24 from by kernel_rfl]; omega) (fun cs' h => by
    have hl' : cs'.length = 1 := by
      obtain ⟨fuel, x, h, _⟩ := h
      rcases open_slice Try.underlying45 h with ⟨h0, _⟩ | ⟨a, len, cap, m, n, D, Pl, hcs, _⟩
      · rw [h0]; rfl
      · rw [hcs]; rfl
    obtain ⟨v, rfl⟩ := match1 hl'
    obtain ⟨r, hr⟩ := rdInts h
    obtain ⟨s, rfl⟩ := hr.1.slc
    exact ⟨s, rfl, r, hr⟩) f2
  rw [show Try.prog.bytesOf 41 = 56 from by kernel_rfl] at z0
  rw [show Try.prog.bytesOf 60 = 24 from by kernel_rfl] at z1
  rw [show Try.prog.bytesOf 45 = 24 from by kernel_rfl] at z2
  have hrb : reachBytes = 140737488351232 := rfl
  obtain ⟨R, hR⟩ := choose_lt g2
  refine ⟨vf, vg, vl, ⟨lf.map (·.1), lg, (List.range ll.length).map R, n3⟩, rfl, ⟨⟨lf.map (·.2), by simp, ?_, fun i hi => ?_⟩, h1, ⟨ll, by simp, h2, fun i hi => ?_⟩⟩, ?_⟩
  · have : (lf.map (·.1)).zip (lf.map (·.2)) = lf := by rw [List.zip_map']; simp
    rw [this]; exact h0
  · have hi' : i < lf.length := by simpa using hi
    rw [(nth_map_fst lf i hi').1, (nth_map_fst lf i hi').2]
    exact (g0 i hi').1
  · have hi' : i < ll.length := by simpa using hi
    rw [nth_range_map _ _ _ hi']
    exact (hR i hi').1
  · refine ⟨by simp only [List.length_map]; omega, forall_nth fun i hi => ?_, by show lg.length * 24 ≤ _; omega, forall_nth g1, by simp only [List.length_map, List.length_range]; omega, forall_nth fun i hi => ?_, wfI64 i3⟩
    · have hi' : i < lf.length := by simpa using hi
      rw [(nth_map_fst lf i hi').1]
      exact (g0 i hi').2
    · have hi' : i < ll.length := by simpa using hi
      rw [nth_range_map _ _ _ hi']
      exact (hR i hi').2

theorem rdPrg {cs : List Value} (h : Rd enc Try.prog w 26 cs) : ∃ vf vg vl p, cs = [vf, vg, vl, .int .i64 p.main] ∧ ProgAt 0 w vf vg vl p := by
  obtain ⟨vf, vg, vl, p, h1, h2, _⟩ := rdPrgWf h
  exact ⟨vf, vg, vl, p, h1, h2⟩

end

end Go.Proofs.Ytealeofgfgbheaa
