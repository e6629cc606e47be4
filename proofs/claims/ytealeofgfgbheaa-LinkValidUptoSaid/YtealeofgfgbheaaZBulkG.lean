/-
  What an argument reads as, with its bulk.
-/
import Derived.Test.YtealeofgfgbheaaRows
import Derived.Deep.Slices
import Derived.Deep.Fields
import Derived.SizedLaws
import Derived.ProofKit
import Derived.Test.YtealeofgfgbheaaZPrClone
namespace Go.Proofs.Ytealeofgfgbheaa
set_option linter.unusedVariables false
set_option linter.unusedSimpArgs false
open Go.RowKit Go.ChangeShapes Go.WideShapes Go.Deep

section
variable {H : Type} {enc : TypeId × Value → H} {P : Program} {w : World}

theorem bk_nth {α : Type} [Inhabited α] (X : Nat → α) (n i : Nat) (h : i < n) : nth ((List.range n).map X) i = X i := by
  rw [nth_eq _ _ (by simpa using h)]; simp
theorem bk_addr (b o j : Nat) : (⟨b, o, none⟩ : Addr).add j = ⟨b, o + j, none⟩ := by unfold Addr.add; split <;> simp_all

/-- A slice, its elements read one by one. -/
theorem bk_slice {α : Type} [Inhabited α] {t e : TypeId} {v : Value} {fuel : Nat} {x : DataW H × List MemPlace} (E : Enc α) (Good : α → DataW H → Prop) (ht : P.underlying t = some (.slice e)) (hC : P.cellsOf e = E.sz)
    (hel : ∀ n cs' y, DataW.trod enc P w 0 (fun _ => true) true n e cs' = some y → (∀ k ∈ y.1.weights P e, k ∈ x.1.weights P t) → Rows.uptoBulk y.1 ≤ Rows.uptoBulk x.1 → ∃ a, cs' = E.enc a ∧ Good a y.1)
    (hlen : ∀ n k, x.1 = .slice n k → n.length ≤ 140737488355328) (h : DataW.trod enc P w 0 (fun _ => true) true fuel t [v] = some x) :
    ∃ (l : List α) (ds : List (DataW H)), SlE E 0 w v l ∧ ds.length = l.length ∧ Rows.uptoBulkAll ds + 1 ≤ Rows.uptoBulk x.1 ∧ ∀ i, i < l.length → ∃ d, ds[i]? = some d ∧ Good (nth l i) d := by
  rcases open_slice ht h with ⟨h0, rfl⟩ | ⟨a, len, cap, m, n, D, Pl, hcs, hb, hl, hm, hmm, hx, hi⟩
  · obtain rfl : v = .slice none 0 0 := by simpa using h0
    exact ⟨[], [], SlAt.nil _ _ _ _, rfl, by simp [Rows.uptoBulkAll, Rows.uptoBulk], fun i hi => by simp at hi⟩
  · obtain rfl : v = .slice (some a) len cap := by simpa using hcs
    rw [if_pos rfl] at hmm
    subst hmm
    subst hx
    have hlen' : len ≤ 140737488355328 := by have := hlen _ _ rfl; simpa using this
    have hbulk : ∀ i, i < len → Rows.uptoBulk (D i) ≤ Rows.uptoBulk (DataW.slice ((List.range len).map D) ((List.range (m - len)).map fun j => D (len + j))) := fun i hil => by
      have h1 : D i ∈ (List.range len).map D := by simp; exact ⟨i, hil, rfl⟩
      have h2 : ∀ (l : List (DataW H)) (d : DataW H), d ∈ l → Rows.uptoBulk d ≤ Rows.uptoBulkAll l := by
        intro l d hd
        induction l with
        | nil => cases hd
        | cons y r ih =>
          simp only [Rows.uptoBulkAll]
          rcases List.mem_cons.1 hd with rfl | hd
          · omega
          · have := ih hd; omega
      have := h2 _ _ h1
      simp only [Rows.uptoBulk]
      omega
    have hall : ∀ i, i < len → ∃ x : α, w.cells? 0 (a.add (i * P.cellsOf e)) (P.cellsOf e) = some (E.enc x) ∧ Good x (D i) := by
      intro i hil
      obtain ⟨cs', h1, h2⟩ := hi i (by omega)
      obtain ⟨x, rfl, hg⟩ := hel n cs' _ h2 (fun k hk => by
        simp only [DataW.weights, ht, List.mem_cons, List.mem_append]
        refine .inr (.inl ?_)
        have h3 : D i ∈ (List.range len).map D := by simp; exact ⟨i, hil, rfl⟩
        revert h3
        generalize (List.range len).map D = L
        intro h3
        induction L with
        | nil => cases h3
        | cons y r ih =>
          simp only [DataW.weightsAll, List.mem_append]
          rcases List.mem_cons.1 h3 with rfl | h3
          · exact .inl hk
          · exact .inr (ih h3)) (hbulk i hil)
      exact ⟨x, h1, hg⟩
    obtain ⟨X, hX⟩ := choose_lt hall
    refine ⟨(List.range len).map X, (List.range len).map D, ?_, by simp, by simp only [Rows.uptoBulk]; omega, fun i hil => ?_⟩
    · have hz : ((List.range len).map X).length = len := by simp
      unfold SlE
      rw [hz]
      have hcell : ∀ i k, i < len → k < E.sz → w.cell? (a.add (i * E.sz + k)) = some (nth (E.enc (X i)) k) := by
        intro i k hil hk
        obtain ⟨h1, _⟩ := hX i hil
        obtain ⟨_, h3, h4⟩ := World.cells?_some h1
        rw [hC] at h4
        rw [← Go.Deep.add_add, h4 k hk, nth_eq _ _ (by rw [E.len]; exact hk), List.getElem?_eq_getElem (by rw [E.len]; exact hk)]
      refine ⟨some a, m, a.block, a.off, rfl, (fun h => by cases h), fun h0 => ⟨?_, Nat.zero_le _⟩, fun i k hil hk => ?_, hl, hm, hlen'⟩
      · have hc := hcell 0 0 h0 E.pos
        have hs := World.cell?_spot hc
        have : a.spot = none := by simpa [Addr.add] using hs
        cases a; simp_all
      · have hc := hcell i k hil hk
        show _ = some (nth (E.enc (nth ((List.range len).map X) i)) k)
        rw [bk_nth _ _ _ hil]
        have hp : a.spot = none := by
          have hc0 := hcell 0 0 (by omega) E.pos
          have := World.cell?_spot hc0
          simpa [Addr.add] using this
        have : a.add (i * E.sz + k) = ⟨a.block, a.off + i * E.sz + k, none⟩ := by
          cases a
          simp only at hp
          subst hp
          rw [bk_addr, Nat.add_assoc]
        rw [← this]; exact hc
    · have hil' : i < len := by simpa using hil
      refine ⟨D i, by simp [hil'], ?_⟩
      rw [bk_nth _ _ _ hil']
      exact (hX i hil').2

/-- Sums over elements. -/
theorem bk_sum {α : Type} [Inhabited α] (c : α → Nat) (k : Nat) : ∀ (l : List α) (ds : List (DataW H)), ds.length = l.length → (∀ i, i < l.length → ∃ d, ds[i]? = some d ∧ c (nth l i) ≤ k * Rows.uptoBulk d) → (l.map c).sum ≤ k * Rows.uptoBulkAll ds
  | [], [], _, _ => by simp
  | x :: l, d :: ds, hl, h => by
    have h1 := bk_sum c k l ds (by simpa using hl) fun i hi => by
      obtain ⟨d', h2, h3⟩ := h (i + 1) (by simp; omega)
      exact ⟨d', by simpa using h2, by simpa [nth] using h3⟩
    obtain ⟨d', h2, h3⟩ := h 0 (by simp)
    obtain rfl : d = d' := by simpa using h2
    have h4 : c x ≤ k * Rows.uptoBulk d := by simpa [nth] using h3
    simp only [List.map_cons, List.sum_cons, Rows.uptoBulkAll, Nat.mul_add]
    omega
  | [], d :: ds, hl, _ => by simp at hl
  | x :: l, [], hl, _ => by simp at hl
theorem bk_one (d : DataW H) : 1 ≤ Rows.uptoBulk d := by
  cases d with
  | lit l => cases l <;> simp [Rows.uptoBulk]
  | nil => simp [Rows.uptoBulk]
  | ptr d => simp [Rows.uptoBulk]
  | slice elems spare => simp [Rows.uptoBulk]
  | agg parts => simp [Rows.uptoBulk]
  | iface t d => simp [Rows.uptoBulk]
  | map entries => simp [Rows.uptoBulk]
  | held h => simp [Rows.uptoBulk]
theorem bk_len (l : List (DataW H)) : l.length ≤ Rows.uptoBulkAll l := by
  induction l with
  | nil => simp
  | cons x r ih => have := bk_one x; simp only [Rows.uptoBulkAll, List.length_cons]; omega

theorem bk_fields {t : TypeId} {fs : Array Field} {fuel : Nat} {cs : List Value} {x : DataW H × List MemPlace} (ht : P.underlying t = some (.struct fs)) (hone : oneCellFields P fs = true) (h : DataW.trod enc P w 0 (fun _ => true) true fuel t cs = some x) :
    cs.length = P.cellsOf t ∧ ∃ ds : List (DataW H), x.1 = .agg ds ∧ ds.length = fs.size ∧ ∀ (i : Nat) (f : Field) (v : Value), fs[i]? = some f → cs[i]? = some v → ∃ n y, DataW.trod enc P w 0 (fun _ => true) true n f.type [v] = some y ∧ ds[i]? = some y.1 := by
  obtain ⟨xs, n, _, rfl, hlen, hxl, hf⟩ := DataW.trod_struct ht h
  refine ⟨hlen, xs.map (·.1), rfl, by simp [hxl], fun i f v hi hv => ?_⟩
  have hil : i < fs.size := (Array.getElem?_eq_some_iff.1 hi).1
  have hx : xs[i]? = some (xs[i]'(by omega)) := List.getElem?_eq_getElem (by omega)
  have h1 := (hf i f hi).trans hx
  obtain ⟨ho, hk⟩ := hone_of hone i f hi
  rw [ho, hk] at h1
  obtain ⟨hj, rfl⟩ := List.getElem?_eq_some_iff.1 hv
  rw [List.drop_eq_getElem_cons hj] at h1
  exact ⟨n, _, h1, by simp [hx]⟩

end

section
variable {H : Type} {enc : TypeId × Value → H} {w : World}
theorem bk_m5 {α : Type} {l : List α} (h : l.length = 5) : ∃ a b c d e, l = [a, b, c, d, e] := by
  match l, h with
  | [a, b, c, d, e], _ => exact ⟨a, b, c, d, e, rfl⟩
theorem bk_m4 {α : Type} {l : List α} (h : l.length = 4) : ∃ a b c d, l = [a, b, c, d] := by
  match l, h with
  | [a, b, c, d], _ => exact ⟨a, b, c, d, rfl⟩
theorem bk_m2 {α : Type} {l : List α} (h : l.length = 2) : ∃ a b, l = [a, b] := by
  match l, h with
  | [a, b], _ => exact ⟨a, b, rfl⟩
theorem bk_m1 {α : Type} {l : List α} (h : l.length = 1) : ∃ a, l = [a] := by
  match l, h with
  | [a], _ => exact ⟨a, rfl⟩
theorem bcInt : Try.prog.cellsOf 3 = 1 := by kernel_rfl
theorem bcInts : Try.prog.cellsOf 45 = 1 := by kernel_rfl
theorem bcIns : Try.prog.cellsOf 43 = 5 := by kernel_rfl
theorem bcFun : Try.prog.cellsOf 41 = 4 := by kernel_rfl
theorem bcGlob : Try.prog.cellsOf 60 = 2 := by kernel_rfl
theorem bcPrg : Try.prog.cellsOf 26 = 4 := by kernel_rfl

abbrev Tr (enc : TypeId × Value → H) (w : World) (n : Nat) (t : TypeId) (cs : List Value) (x : DataW H × List MemPlace) : Prop := DataW.trod enc Try.prog w 0 (fun _ => true) true n t cs = some x
theorem bkI64 {n : Int} (h : (Lit.int .i64 n).wf = true) : I64 n := by
  simp [Lit.wf, IntKind.min, IntKind.max, IntKind.signed, IntKind.bits] at h
  simp only [I64]
  omega
theorem bkInt {n : Nat} {cs : List Value} {x : DataW H × List MemPlace} (h : Tr enc w n 3 cs x) : ∃ k, cs = [.int .i64 k] ∧ I64 k := by
  obtain ⟨k, rfl, _, hk⟩ := DataW.trod_int Try.underlying3 h
  exact ⟨k, rfl, bkI64 hk⟩
theorem bkStr {n : Nat} {cs : List Value} {x : DataW H × List MemPlace} (h : Tr enc w n 9 cs x) : ∃ s : ByteArray, cs = [.string s] ∧ s.size + 1 = Rows.uptoBulk x.1 := by
  obtain ⟨s, rfl, rfl, hs⟩ := DataW.trod_string Try.underlying9 h
  exact ⟨s, rfl, by simp [Rows.uptoBulk]⟩
theorem bkIns {n : Nat} {cs : List Value} {x : DataW H × List MemPlace} (h : Tr enc w n 43 cs x) : ∃ u : Ins, cs = insE.enc u ∧ InsWf u := by
  obtain ⟨hl, ds, _, _, hf⟩ := bk_fields Try.underlying43 (by kernel_rfl) h
  rw [bcIns] at hl
  obtain ⟨a, b, c, d, e, rfl⟩ := bk_m5 hl
  obtain ⟨_, _, h0, _⟩ := hf 0 _ a rfl rfl
  obtain ⟨_, _, h1, _⟩ := hf 1 _ b rfl rfl
  obtain ⟨_, _, h2, _⟩ := hf 2 _ c rfl rfl
  obtain ⟨_, _, h3, _⟩ := hf 3 _ d rfl rfl
  obtain ⟨_, _, h4, _⟩ := hf 4 _ e rfl rfl
  obtain ⟨n0, e0, i0⟩ := bkInt h0
  obtain ⟨n1, e1, i1⟩ := bkInt h1
  obtain ⟨n2, e2, i2⟩ := bkInt h2
  obtain ⟨n3, e3, i3⟩ := bkInt h3
  obtain ⟨n4, e4, i4⟩ := bkInt h4
  simp at e0 e1 e2 e3 e4
  subst e0 e1 e2 e3 e4
  exact ⟨⟨n0, n1, n2, n3, n4⟩, rfl, i0, i1, i2, i3, i4⟩
theorem bk_slc {α : Type} [Inhabited α] {E : Enc α} {lo : Nat} {v : Value} {l : List α} (h : SlE E lo w v l) : ∃ s : Slc, v = s.val := by
  obtain ⟨a, c, b, o, rfl, _⟩ := h
  exact ⟨⟨a, l.length, c⟩, rfl⟩
theorem bk_cap {x : DataW H × List MemPlace} (hN : Rows.uptoBulk x.1 ≤ 1048576) : ∀ n k, x.1 = DataW.slice n k → n.length ≤ 140737488355328 := fun n k e => by
  rw [e] at hN
  have h1 := bk_len n
  simp only [Rows.uptoBulk] at hN
  omega
theorem bk_mem {ds : List (DataW H)} {i : Nat} {d : DataW H} (h : ds[i]? = some d) : Rows.uptoBulk d ≤ Rows.uptoBulkAll ds := by
  induction ds generalizing i with
  | nil => simp at h
  | cons y r ih =>
    simp only [Rows.uptoBulkAll]
    cases i with
    | zero =>
      obtain rfl : y = d := by simpa using h
      omega
    | succ i =>
      have := ih (i := i) (by simpa using h)
      omega
theorem bkFun {n : Nat} {cs : List Value} {x : DataW H × List MemPlace} (hN : Rows.uptoBulk x.1 ≤ 1048576) (h : Tr enc w n 41 cs x) : ∃ u : Fun × Slc, cs = funE.enc u ∧ CodeAt 0 w u.2.val u.1.code ∧ I64 u.1.params ∧ I64 u.1.regs ∧ (∀ y ∈ u.1.code, InsWf y) ∧ costF u.1 ≤ 170 * Rows.uptoBulk x.1 := by
  obtain ⟨hl, ds, hx, hdl, hf⟩ := bk_fields Try.underlying41 (by kernel_rfl) h
  rw [bcFun] at hl
  obtain ⟨a, b, c, d, rfl⟩ := bk_m4 hl
  obtain ⟨_, y0, h0, g0⟩ := hf 0 _ a rfl rfl
  obtain ⟨_, _, h1, _⟩ := hf 1 _ b rfl rfl
  obtain ⟨_, _, h2, _⟩ := hf 2 _ c rfl rfl
  obtain ⟨_, y3, h3, g3⟩ := hf 3 _ d rfl rfl
  obtain ⟨s, e0, z0⟩ := bkStr h0
  obtain ⟨n1, e1, i1⟩ := bkInt h1
  obtain ⟨n2, e2, i2⟩ := bkInt h2
  simp at e0 e1 e2
  subst e0 e1 e2
  rw [hx] at hN ⊢
  have hsum : Rows.uptoBulk y0.1 + Rows.uptoBulk y3.1 ≤ Rows.uptoBulkAll ds := by
    obtain ⟨d0, d1, d2, d3, rfl⟩ := bk_m4 (l := ds) hdl
    obtain rfl : d0 = y0.1 := by simpa using g0
    obtain rfl : d3 = y3.1 := by simpa using g3
    simp only [Rows.uptoBulkAll]
    omega
  simp only [Rows.uptoBulk] at hN ⊢
  obtain ⟨l, es, h4, hel, hbk, h5⟩ := bk_slice insE (fun u _ => InsWf u) Try.underlying39 bcIns (fun n cs' y hy _ _ => by obtain ⟨u, e, hu⟩ := bkIns hy; exact ⟨u, e, hu⟩) (bk_cap (by omega)) h3
  obtain ⟨sl, rfl⟩ := bk_slc h4
  have hlen := bk_len es
  refine ⟨(⟨s, n1, n2, l⟩, sl), rfl, h4, i1, i2, forall_nth fun i hi => by obtain ⟨_, _, hg⟩ := h5 i hi; exact hg, ?_⟩
  show s.size + 60 + 160 * l.length ≤ _
  omega
theorem bkGlob {n : Nat} {cs : List Value} {x : DataW H × List MemPlace} (h : Tr enc w n 60 cs x) : ∃ u : Glob, cs = globE.enc u ∧ I64 u.kind ∧ costG u ≤ 170 * Rows.uptoBulk x.1 := by
  obtain ⟨hl, ds, hx, hdl, hf⟩ := bk_fields Try.underlying60 (by kernel_rfl) h
  rw [bcGlob] at hl
  obtain ⟨a, b, rfl⟩ := bk_m2 hl
  obtain ⟨_, y0, h0, g0⟩ := hf 0 _ a rfl rfl
  obtain ⟨_, _, h1, _⟩ := hf 1 _ b rfl rfl
  obtain ⟨s, e0, z0⟩ := bkStr h0
  obtain ⟨n1, e1, i1⟩ := bkInt h1
  simp at e0 e1
  subst e0 e1
  rw [hx]
  have h2 := bk_mem g0
  simp only [Rows.uptoBulk]
  refine ⟨⟨s, n1⟩, rfl, i1, ?_⟩
  show s.size + 40 ≤ _
  omega
theorem bkLay {n : Nat} {v : Value} {x : DataW H × List MemPlace} (hN : Rows.uptoBulk x.1 ≤ 1048576) (h : Tr enc w n 45 [v] x) : ∃ l, IntsAt 0 w v l ∧ (∀ y ∈ l, I64 y) ∧ costY l ≤ 170 * Rows.uptoBulk x.1 := by
  obtain ⟨l, es, h4, hel, hbk, h5⟩ := bk_slice intE (fun u _ => I64 u) Try.underlying45 bcInt (fun n cs' y hy _ _ => by obtain ⟨u, e, hu⟩ := bkInt hy; exact ⟨u, e, hu⟩) (bk_cap hN) h
  have hlen := bk_len es
  refine ⟨l, h4, forall_nth fun i hi => by obtain ⟨_, _, hg⟩ := h5 i hi; exact hg, ?_⟩
  unfold costY
  omega
theorem bk_fst {α β : Type} [Inhabited α] [Inhabited β] (l : List (α × β)) (i : Nat) (h : i < l.length) : nth (l.map (·.1)) i = (nth l i).1 ∧ nth (l.map (·.2)) i = (nth l i).2 := by
  rw [nth_eq (l.map (·.1)) _ (by simpa using h), nth_eq (l.map (·.2)) _ (by simpa using h), nth_eq l _ h]; simp

theorem bkPrg {n : Nat} {cs : List Value} {x : DataW H × List MemPlace} (hN : Rows.uptoBulk x.1 ≤ 1048576) (h : Tr enc w n 26 cs x) : ∃ vf vg vl p, cs = [vf, vg, vl, .int .i64 p.main] ∧ ProgAt 0 w vf vg vl p ∧ PrgWf p ∧ costP p ≤ 178257920 := by
  obtain ⟨hl, ds, hx, hdl, hf⟩ := bk_fields Try.underlying26 (by kernel_rfl) h
  rw [bcPrg] at hl
  obtain ⟨vf, vg, vl, d, rfl⟩ := bk_m4 hl
  obtain ⟨_, y0, h0, g0⟩ := hf 0 _ vf rfl rfl
  obtain ⟨_, y1, h1, g1⟩ := hf 1 _ vg rfl rfl
  obtain ⟨_, y2, h2, g2⟩ := hf 2 _ vl rfl rfl
  obtain ⟨_, y3, h3, g3⟩ := hf 3 _ d rfl rfl
  obtain ⟨n3, e3, i3⟩ := bkInt h3
  simp at e3
  subst e3
  have hsum : Rows.uptoBulk y0.1 + Rows.uptoBulk y1.1 + Rows.uptoBulk y2.1 ≤ 1048576 := by
    obtain ⟨d0, d1, d2, d3, rfl⟩ := bk_m4 (l := ds) hdl
    obtain rfl : d0 = y0.1 := by simpa using g0
    obtain rfl : d1 = y1.1 := by simpa using g1
    obtain rfl : d2 = y2.1 := by simpa using g2
    rw [hx] at hN
    simp only [Rows.uptoBulk, Rows.uptoBulkAll] at hN
    omega
  obtain ⟨lf, e0, k0, z0, b0, f0⟩ := bk_slice funE (fun (u : Fun × Slc) d => CodeAt 0 w u.2.val u.1.code ∧ I64 u.1.params ∧ I64 u.1.regs ∧ (∀ y ∈ u.1.code, InsWf y) ∧ costF u.1 ≤ 170 * Rows.uptoBulk d) Try.underlying22 bcFun (fun n cs' y hy _ hb => bkFun (by omega) hy) (bk_cap (by omega)) h0
  obtain ⟨lg, e1, k1, z1, b1, f1⟩ := bk_slice globE (fun (u : Glob) d => I64 u.kind ∧ costG u ≤ 170 * Rows.uptoBulk d) Try.underlying23 bcGlob (fun n cs' y hy _ _ => bkGlob hy) (bk_cap (by omega)) h1
  obtain ⟨ll, e2, k2, z2, b2, f2⟩ := bk_slice rowE (fun (s : Slc) d => ∃ r, IntsAt 0 w s.val r ∧ (∀ y ∈ r, I64 y) ∧ costY r ≤ 170 * Rows.uptoBulk d) Try.underlying24 bcInts (fun n cs' y hy _ hb => by
    have hl' : cs'.length = 1 := by
      rcases open_slice Try.underlying45 hy with ⟨h0, _⟩ | ⟨a, len, cap, m, n, D, Pl, hcs, _⟩
      · rw [h0]; rfl
      · rw [hcs]; rfl
    obtain ⟨v, rfl⟩ := bk_m1 hl'
    obtain ⟨r, hr1, hr2⟩ := bkLay (by omega) hy
    obtain ⟨s, rfl⟩ := bk_slc hr1
    exact ⟨s, rfl, r, hr1, hr2⟩) (bk_cap (by omega)) h2
  obtain ⟨R, hR⟩ := choose_lt (n := ll.length) (p := fun i r => ∃ d, e2[i]? = some d ∧ IntsAt 0 w (nth ll i).val r ∧ (∀ y ∈ r, I64 y) ∧ costY r ≤ 170 * Rows.uptoBulk d) (fun i hi => by
    obtain ⟨d, hd, r, hr⟩ := f2 i hi
    exact ⟨r, d, hd, hr⟩)
  have s0 := bk_sum (fun u : Fun × Slc => costF u.1) 170 lf e0 z0 fun i hi => by obtain ⟨d, hd, hg⟩ := f0 i hi; exact ⟨d, hd, hg.2.2.2.2⟩
  have s1 := bk_sum costG 170 lg e1 z1 fun i hi => by obtain ⟨d, hd, hg⟩ := f1 i hi; exact ⟨d, hd, hg.2⟩
  have s2 := bk_sum costY 170 ((List.range ll.length).map R) e2 (by simp [z2]) fun i hi => by
    have hi' : i < ll.length := by simpa using hi
    obtain ⟨d, hd, hg⟩ := hR i hi'
    exact ⟨d, hd, by rw [bk_nth _ _ _ hi']; exact hg.2.2⟩
  have hmap : (lf.map fun u : Fun × Slc => costF u.1) = (lf.map (·.1)).map costF := by rw [List.map_map]; rfl
  rw [hmap] at s0
  have len0 := bk_len e0
  have len1 := bk_len e1
  have len2 := bk_len e2
  have hone : ∀ (es : List (DataW H)) (i : Nat) (d : DataW H), es[i]? = some d → Rows.uptoBulk d ≤ Rows.uptoBulkAll es := fun es i d hd => bk_mem hd
  have hwf : PrgWf ⟨lf.map (·.1), lg, (List.range ll.length).map R, n3⟩ := by
    refine ⟨by simp only [List.length_map]; omega, forall_nth fun i hi => ?_, by show lg.length * 24 ≤ _; omega, forall_nth fun i hi => ?_, by simp only [List.length_map, List.length_range]; omega, forall_nth fun i hi => ?_, i3⟩
    · have hi' : i < lf.length := by simpa using hi
      rw [(bk_fst lf i hi').1]
      obtain ⟨d, hd, _, a1, a2, a3, a4⟩ := f0 i hi'
      have := hone _ _ _ hd
      unfold costF at a4
      exact ⟨by omega, a1, a2, by omega, a3⟩
    · obtain ⟨d, hd, a1, a2⟩ := f1 i hi
      have := hone _ _ _ hd
      unfold costG at a2
      exact ⟨by show (nth lg i).name.size ≤ _; omega, a1⟩
    · have hi' : i < ll.length := by simpa using hi
      rw [bk_nth _ _ _ hi']
      obtain ⟨d, hd, _, a1, a2⟩ := hR i hi'
      have := hone _ _ _ hd
      unfold costY at a2
      exact ⟨by omega, a1⟩
  refine ⟨vf, vg, vl, ⟨lf.map (·.1), lg, (List.range ll.length).map R, n3⟩, rfl, ⟨⟨lf.map (·.2), by simp, ?_, fun i hi => ?_⟩, k1, ⟨ll, by simp, k2, fun i hi => ?_⟩⟩, hwf, ?_⟩
  · have : (lf.map (·.1)).zip (lf.map (·.2)) = lf := by rw [List.zip_map']; simp
    rw [this]; exact k0
  · have hi' : i < lf.length := by simpa using hi
    rw [(bk_fst lf i hi').1, (bk_fst lf i hi').2]
    obtain ⟨_, _, hg⟩ := f0 i hi'
    exact hg.1
  · have hi' : i < ll.length := by simpa using hi
    rw [bk_nth _ _ _ hi']
    obtain ⟨_, _, hg⟩ := hR i hi'
    exact hg.1
  · unfold costP
    dsimp only
    omega
end

end Go.Proofs.Ytealeofgfgbheaa
