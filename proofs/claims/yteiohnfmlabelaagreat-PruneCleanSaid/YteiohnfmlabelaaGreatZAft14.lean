/-
  Liveness and paths: a register is live exactly if a path leads to a use of it.
-/
import Derived.Test.YteiohnfmlabelaaGreatZOwnP
import Derived.Test.YteiohnfmlabelaaGreatZPrClone
import Derived.Test.YteiohnfmlabelaaGreatZRUses
import Derived.Test.YteiohnfmlabelaaGreatZSpec14
namespace Go.Proofs.YteiohnfmlabelaaGreat
set_option linter.unusedVariables false
set_option linter.unusedSimpArgs false
open Go.RowKit

/-- A path on which no instruction but perhaps the last always writes the register. -/
inductive LPath (p : Prg) (fn : Nat) (reg : Int) : Nat → Nat → Prop
  | refl (i : Nat) : LPath p fn reg i i
  | step {i j : Nat} {t : Int} : LPath p fn reg i j → reg ∉ defsC p fn j → t ∈ nextL (nth p.funcs fn).code j → LPath p fn reg i t.toNat

theorem LPath.trans {p : Prg} {fn : Nat} {reg : Int} {i j k : Nat} (h : LPath p fn reg i j) (h' : LPath p fn reg j k) : LPath p fn reg i k := by
  induction h' with
  | refl => exact h
  | step _ h1 h2 ih => exact ih.step h1 h2

def Paths (p : Prg) (fn : Nat) (s : List (List Int)) : Prop := ∀ i r, r ∈ nth s i → ∃ j, LPath p fn r i j ∧ r ∈ usesC p fn j

theorem Paths.at {p : Prg} {fn : Nat} {s : List (List Int)} (h : Paths p fn s) (i : Nat) (hi : i < s.length) : Paths p fn (passAt p fn s i) := by
  intro j r hr
  unfold passAt at hr
  rw [nth_setS _ _ _ _ hi] at hr
  split at hr
  · rename_i e; subst e
    rw [before_mem] at hr
    rcases hr with hr | ⟨hr, hd⟩
    · exact ⟨i, .refl i, hr⟩
    · unfold afterL at hr
      rw [setL_mem, List.mem_flatMap] at hr
      obtain ⟨t, ht, hm⟩ := hr
      obtain ⟨k, hk, hu⟩ := h _ _ hm
      exact ⟨k, (LPath.step (.refl i) hd ht).trans hk, hu⟩
  · exact h j r hr

theorem stepsL_len (p : Prg) (fn n : Nat) (s : List (List Int)) : ∀ d, (stepsL p fn n s d).length = s.length
  | 0 => rfl
  | d + 1 => by rw [stepsL, passAt, List.length_set]; exact stepsL_len p fn n s d
theorem Paths.steps {p : Prg} {fn n : Nat} {s : List (List Int)} (h : Paths p fn s) (hl : s.length = n) : ∀ d, d ≤ n → Paths p fn (stepsL p fn n s d)
  | 0, _ => h
  | d + 1, hd => (Paths.steps h hl d (by omega)).at _ (by rw [stepsL_len, hl]; omega)
theorem Paths.iter (p : Prg) (fn n : Nat) : ∀ k, Paths p fn (iterL p fn n k) ∧ (iterL p fn n k).length = n
  | 0 => ⟨fun i r h => by rw [show iterL p fn n 0 = List.replicate n [] from rfl, nth_repl] at h; simp at h, by simp [iterL]⟩
  | k + 1 => by
    obtain ⟨h1, h2⟩ := Paths.iter p fn n k
    exact ⟨h1.steps h2 n (Nat.le_refl _), by rw [iterL, passL, stepsL_len, h2]⟩

theorem IsLive.paths {p : Prg} {fn n : Nat} {L : List (List Int)} (h : IsLive p fn n L) : Paths p fn L := by
  obtain ⟨⟨k, rfl⟩, _⟩ := h
  exact (Paths.iter p fn n k).1
theorem IsLive.fine {p : Prg} {fn n : Nat} {L : List (List Int)} (h : IsLive p fn n L) (hv : validB p = true) (hfn : fn < p.funcs.length) : Fine p fn n L := by
  obtain ⟨⟨k, rfl⟩, _⟩ := h
  exact Fine.iter hv hfn k
theorem IsLive.eqs {p : Prg} {fn n : Nat} {L : List (List Int)} (h : IsLive p fn n L) (hv : validB p = true) (hfn : fn < p.funcs.length) : ∀ i, i < n → nth L i = beforeL p fn L i := steps_fix hv hfn (h.fine hv hfn) h.2

theorem path_lt {p : Prg} {fn n : Nat} (hv : validB p = true) (hfn : fn < p.funcs.length) (hn : (nth p.funcs fn).code.length = n) {reg : Int} {i j : Nat} (h : LPath p fn reg i j) (hi : i < n) : j < n := by
  induction h with
  | refl => exact hi
  | step _ _ h2 ih =>
    have := (fok_of_funcB (valid_func hv fn hfn)).jok.nx _ (by rw [hn]; exact ih) _ h2
    omega

theorem IsLive.complete {p : Prg} {fn n : Nat} {L : List (List Int)} (h : IsLive p fn n L) (hv : validB p = true) (hfn : fn < p.funcs.length) (hn : (nth p.funcs fn).code.length = n) {reg : Int} {i j : Nat} (hp : LPath p fn reg i j) (hi : i < n) (hu : reg ∈ usesC p fn j) : reg ∈ nth L i := by
  have heq := h.eqs hv hfn
  have key : ∀ j, LPath p fn reg i j → reg ∈ nth L j → reg ∈ nth L i := by
    intro j hp
    induction hp with
    | refl => exact id
    | @step j t h1 h2 h3 ih =>
      intro hr
      apply ih
      have hj := path_lt hv hfn hn h1 hi
      rw [heq j hj, before_mem]
      refine .inr ⟨?_, h2⟩
      unfold afterL
      rw [setL_mem, List.mem_flatMap]
      exact ⟨t, h3, hr⟩
  refine key j hp ?_
  rw [heq j (path_lt hv hfn hn hp hi), before_mem]
  exact .inl hu

/-- A register is live before an instruction exactly if a path leads to a use of it without a definition before. -/
theorem IsLive.iff {p : Prg} {fn n : Nat} {L : List (List Int)} (h : IsLive p fn n L) (hv : validB p = true) (hfn : fn < p.funcs.length) (hn : (nth p.funcs fn).code.length = n) (i : Nat) (hi : i < n) (reg : Int) : reg ∈ nth L i ↔ ∃ j, LPath p fn reg i j ∧ reg ∈ usesC p fn j :=
  ⟨fun hr => h.paths i reg hr, fun ⟨_, h1, h2⟩ => h.complete hv hfn hn h1 hi h2⟩

end Go.Proofs.YteiohnfmlabelaaGreat

/-
  One step of package live's solution: both rows.
-/
namespace Go.Proofs.YteiohnfmlabelaaGreat
set_option linter.unusedVariables false
set_option linter.unusedSimpArgs false
open Go.RowKit

/-- The sets behind the instructions: they lie in what follows from the sets before. -/
structure TOk (p : Prg) (fn n : Nat) (s t : List (List Int)) : Prop where
  len : t.length = n
  inc : ∀ i, Inc (nth t i)
  reg : ∀ i r, r ∈ nth t i → 0 ≤ r ∧ r < 64
  sub : ∀ i r, i < n → r ∈ nth t i → r ∈ afterL p fn s i

theorem TOk.start (p : Prg) (fn n : Nat) (s : List (List Int)) : TOk p fn n s (List.replicate n []) :=
  ⟨by simp, fun i => by rw [nth_repl]; exact List.Pairwise.nil, fun i r h => by rw [nth_repl] at h; simp at h, fun i r _ h => by rw [nth_repl] at h; simp at h⟩
theorem TOk.total {p : Prg} {fn n : Nat} {s t : List (List Int)} (h : TOk p fn n s t) : totalS t ≤ 64 * n := by
  rw [← h.len]
  exact total_le fun i => inc_64 (h.inc i) (h.reg i)

theorem TOk.step {p : Prg} {fn n : Nat} (hv : validB p = true) (hfn : fn < p.funcs.length) {s t : List (List Int)} (h : Fine p fn n s) (ht : TOk p fn n s t) (i : Nat) (hi : i < n) :
    Fine p fn n (passAt p fn s i) ∧ TOk p fn n (passAt p fn s i) (t.set i (afterL p fn s i)) ∧
    ((nth s i = beforeL p fn s i ∧ nth t i = afterL p fn s i ∧ passAt p fn s i = s ∧ t.set i (afterL p fn s i) = t) ∨
     ((nth s i ≠ beforeL p fn s i ∨ nth t i ≠ afterL p fn s i) ∧ totalS s + totalS t < totalS (passAt p fn s i) + totalS (t.set i (afterL p fn s i)))) := by
  obtain ⟨h1, h2⟩ := Fine.at hv hfn h i hi
  have hl : i < t.length := by rw [ht.len]; exact hi
  have ht' : TOk p fn n (passAt p fn s i) (t.set i (afterL p fn s i)) := by
    refine ⟨by simpa using ht.len, fun j => ?_, fun j r hr => ?_, fun j r hj hr => ?_⟩
    · rw [nth_setS _ _ _ _ hl]
      split
      · exact setL_inc _
      · exact ht.inc j
    · rw [nth_setS _ _ _ _ hl] at hr
      split at hr
      · exact after_reg hv hfn h.reg i r hr
      · exact ht.reg j r hr
    · rw [nth_setS _ _ _ _ hl] at hr
      split at hr
      · rename_i e; subst e; exact after_mono h2 i r hr
      · exact after_mono h2 j r (ht.sub j r hj hr)
  have hsub : SubS t (t.set i (afterL p fn s i)) := fun j r hr => by
    rw [nth_setS _ _ _ _ hl]
    split
    · rename_i e; subst e; exact ht.sub i r hi hr
    · exact hr
  obtain ⟨a1, a2⟩ := total_sub (by simp) ht.inc ht'.inc hsub
  have hnt : nth (t.set i (afterL p fn s i)) i = afterL p fn s i := by rw [nth_setS _ _ _ _ hl, if_pos rfl]
  refine ⟨h1, ht', ?_⟩
  rcases h.step_total hv hfn i hi with ⟨e1, e2⟩ | ⟨e1, e2⟩
  · by_cases e3 : nth t i = afterL p fn s i
    · left
      refine ⟨e1, e3, e2, ?_⟩
      rw [← e3, nth_eq _ _ hl]
      exact List.set_getElem_self hl
    · right
      refine ⟨.inr e3, ?_⟩
      have : totalS t ≠ totalS (t.set i (afterL p fn s i)) := fun he => by
        have h3 := a2 he
        rw [← h3] at hnt
        exact e3 hnt
      rw [e2]
      omega
  · right
    exact ⟨.inl e1, by omega⟩

/-- A set as a number of 64 bits. -/
def numS (l : List Int) : Int := ((setB l).toNat : Int)
theorem numS_eq {a b : List Int} (ha : Inc a) (hb : Inc b) (ra : ∀ r ∈ a, 0 ≤ r ∧ r < 64) (rb : ∀ r ∈ b, 0 ≤ r ∧ r < 64) : numS a = numS b ↔ a = b := by
  constructor
  · intro h
    unfold numS at h
    have h2 : setB a = setB b := BitVec.eq_of_toNat_eq (by omega)
    exact inc_ext a b ha hb ((setB_ext ra rb).1 h2)
  · rintro rfl; rfl
theorem numS_or {l a b : List Int} (hl : ∀ r ∈ l, 0 ≤ r ∧ r < 64) (ha : ∀ r ∈ a, 0 ≤ r ∧ r < 64) (hb : ∀ r ∈ b, 0 ≤ r ∧ r < 64) (h : ∀ r, r ∈ l ↔ r ∈ a ∨ r ∈ b) : bits .or .u64 (numS a) (numS b) = numS l := by
  unfold numS
  rw [bits_or, setB_or hl ha hb h]
theorem numS_diff {l a b : List Int} (hl : ∀ r ∈ l, 0 ≤ r ∧ r < 64) (ha : ∀ r ∈ a, 0 ≤ r ∧ r < 64) (hb : ∀ r ∈ b, 0 ≤ r ∧ r < 64) (h : ∀ r, r ∈ l ↔ r ∈ a ∧ r ∉ b) : bits .andNot .u64 (numS a) (numS b) = numS l := by
  unfold numS
  rw [bits_andNot, setB_diff hl ha hb h]
theorem numS_ext {a b : List Int} (ra : ∀ r ∈ a, 0 ≤ r ∧ r < 64) (rb : ∀ r ∈ b, 0 ≤ r ∧ r < 64) (h : ∀ r, r ∈ a ↔ r ∈ b) : numS a = numS b := by
  unfold numS
  rw [(setB_ext ra rb).2 h]

/-- The sets of the instructions that follow, some of them. -/
def outL (s : List (List Int)) (N : List Int) : List Int := N.flatMap fun t => nth s t.toNat
theorem outL_reg {s : List (List Int)} (h : ∀ i r, r ∈ nth s i → 0 ≤ r ∧ r < 64) (N : List Int) : ∀ r ∈ outL s N, 0 ≤ r ∧ r < 64 := by
  intro r hr
  unfold outL at hr
  obtain ⟨x, _, hm⟩ := List.mem_flatMap.1 hr
  exact h _ _ hm
theorem outL_snoc (s : List (List Int)) (N : List Int) (k : Nat) (hk : k < N.length) : outL s (N.take (k + 1)) = outL s (N.take k) ++ nth s (nth N k).toNat := by
  unfold outL
  rw [List.take_add_one, List.getElem?_eq_getElem hk, nth_eq _ _ hk]
  simp only [Option.toList_some, List.flatMap_append, List.flatMap_cons, List.flatMap_nil, List.append_nil]

end Go.Proofs.YteiohnfmlabelaaGreat

/-
  Whether a list has a number: the reference's function and the law's.
-/
namespace Go.Proofs.YteiohnfmlabelaaGreat
set_option linter.unusedVariables false
set_option linter.unusedSimpArgs false
open Go.RowKit

set_option maxHeartbeats 1000000 in
theorem rhas_calls (lo : Nat) (v : Value) (l : List Int) (n : Int) (w : World) (hl : IntsAt lo w v l) :
    Calls Tryz.prog 32 #[v, .int .i64 n] w fun e w' => e = .returned (.bool (decide (n ∈ l))) ∧ Below w.heap.size w w' := by
  obtain ⟨a, c, b, o, rfl, p1, q1, k1, _, _, m1, n1⟩ := hl.open
  have HQ := hid (And.intro p1 (And.intro q1 k1))
  clear p1 q1 k1 hl
  go_enter Tryz.func32, Tryz.ntmps32
  go_wp2_with fail
  go_loop [5] (fun i => ∃ k : Nat, k ≤ l.length ∧ i = .int .i64 k ∧ n ∉ l.take k) (fun i => l.length - (intOf i).toNat)
  case atStart => exact ⟨0, Nat.zero_le _, rfl, by simp⟩
  case round =>
    obtain ⟨k, hk, rfl, hno⟩ := hrel
    have HNO := hid hno
    clear hno
    by_cases hlt : k < l.length
    · obtain ⟨p1, q1, k1⟩ := HQ.out
      have e1 := p1 (by omega)
      subst e1
      have d0 := q1 k hlt
      have z1 := k1 (by omega)
      have hlt2 : (k : Int) < l.length := by omega
      clear p1 q1 k1
      by_cases he : nth l k = n
      · have hbe : (nth l k == n) = true := beq_iff_eq.2 he
        have HC := hid (show decide (n ∈ l) = true by rw [← he]; exact decide_eq_true (nth_mem l k hlt))
        clear he
        go_wp2_with fail
        go_ret
        exact ⟨by rw [HC.out]; rfl, Below.refl _ _⟩
      · have hbe : (nth l k == n) = false := beq_eq_false_iff_ne.2 he
        have HN2 := hid (show n ∉ l.take (k + 1) by
          rw [List.take_add_one, List.getElem?_eq_getElem hlt]
          intro h
          rcases List.mem_append.1 h with h | h
          · exact HNO.out h
          · rw [nth_eq _ _ hlt] at he
            simp only [Option.toList_some, List.mem_singleton] at h
            exact he h.symm)
        clear he
        go_wp2_with fail
        go_round
        case rel => exact ⟨k + 1, by omega, by go_num, HN2.out⟩
        case measure => simp [intOf] <;> omega
    · have HC := hid (show decide (n ∈ l) = false by
        have := HNO.out
        rw [List.take_of_length_le (by omega)] at this
        simpa using this)
      go_wp2_with fail
      go_ret
      exact ⟨by rw [HC.out]; rfl, Below.refl _ _⟩

end Go.Proofs.YteiohnfmlabelaaGreat

/-
  The reference's registers that are live after an instruction.
-/
namespace Go.Proofs.YteiohnfmlabelaaGreat
set_option linter.unusedVariables false
set_option linter.unusedSimpArgs false
open Go.RowKit

theorem setL_64 {l : List Int} (h : ∀ r ∈ l, 0 ≤ r ∧ r < 64) : (setL l).length ≤ 64 := inc_64 (setL_inc l) fun r hr => h r ((setL_mem l r).1 hr)

set_option maxRecDepth 100000 in
set_option maxHeartbeats 4000000 in
theorem after_calls (lo lo2 : Nat) (vf vg vl vi : Value) (p : Prg) (F K : Nat) (s : List (List Int)) (w : World) (hp : ProgAt lo w vf vg vl p) (hv : validB p = true) (hF : F < p.funcs.length) (hK : K < (nth p.funcs F).code.length)
    (hs : LaysAt lo2 w vi s) (hsl : s.length = (nth p.funcs F).code.length) (hreg : ∀ i r, r ∈ nth s i → 0 ≤ r ∧ r < 64) :
    Calls Tryz.prog 33 #[.agg #[vf, vg, vl, .int .i64 p.main], .int .i64 F, .int .i64 K, vi] w fun e w' => ∃ v', e = .returned v' ∧ IntsAt w.heap.size w' v' (afterL p F s K) ∧ Below w.heap.size w w' := by
  have hfok := fok_of_funcB (valid_func hv F hF)
  have hpos := hfok.pos
  have hle := hfok.le
  have HNX := hid (hfok.jok.nx K hK)
  have HREG := hid hreg
  obtain ⟨fa, fc, fb, fo, S, rfl, p1, x0, x1, x2, x3, xi, k1, _, m1, n1⟩ := hp.funcs.open
  obtain ⟨ga, gc, _, _, rfl, hz2⟩ := hp.globs.open
  obtain ⟨la, lc, _, _, _, rfl, hz3⟩ := hp.lays.open
  obtain ⟨ia, ic, ib, io, IS, rfl, i1, i2, i3, i4, _, i5, i6⟩ := hs.open
  have e1 := p1 (by omega)
  subst e1
  have e2 := i1 (by omega)
  subst e2
  have z0 := i4 (by omega)
  have z1 := k1 (by omega)
  have hF2 : (F : Int) < p.funcs.length := Int.ofNat_lt.2 hF
  have d0 := x0 F hF
  have d1 := x1 F hF
  have d2 := x2 F hF
  have d3 := x3 F hF
  have HC0 := hid (xi F hF)
  have HI2 := hid i2
  have HI3 := hid i3
  have HSL := hid hsl
  obtain ⟨N, hNe⟩ : ∃ N, nextL (nth p.funcs F).code K = N := ⟨_, rfl⟩
  rw [hNe] at HNX
  have HNE := hid hNe
  obtain ⟨n, hn⟩ : ∃ n, (nth p.funcs F).code.length = n := ⟨_, rfl⟩
  have HN := hid hn
  rw [hn] at hpos hle d3 hK hsl
  obtain ⟨fname, hfn⟩ : ∃ q, (nth p.funcs F).name = q := ⟨_, rfl⟩
  obtain ⟨fpar, hfp⟩ : ∃ q, (nth p.funcs F).params = q := ⟨_, rfl⟩
  obtain ⟨freg, hfr⟩ : ∃ q, (nth p.funcs F).regs = q := ⟨_, rfl⟩
  rw [hfn] at d0
  rw [hfp] at d1
  rw [hfr] at d2
  clear hp hv hfok hs hreg hNe hn hfn hfp hfr p1 x0 x1 x2 x3 xi k1 i1 i2 i3 i4 hz2 hz3
  go_enter Tryz.func33, Tryz.ntmps33
  have HB := hid (show Below w.heap.size w (w.alloc (.cells #[.slice (some ⟨fb, fo, none⟩) p.funcs.length fc, .slice ga p.globals.length gc, .slice la p.layouts.length lc, .int .i64 p.main] 26)) from (Below.refl _ _).alloc (Nat.le_refl _) _)
  go_wp2_with (
    go_at_call 55
    refine (rnext_calls lo fname fpar freg _ (nth p.funcs F).code K _ (by have := HC0.out.below HB.out; rw [HN.out] at this; exact this)).mono ?_
    rw [HNE.out]
    rintro e w1 ⟨v', rfl, hi, hb1⟩
    obtain ⟨na, nc, nb, no, rfl, q1, q2, q3, _, q4, q5, q6⟩ := hi.open
    have HB1 := hid (HB.out.trans (hb1.mono (by simp)))
    have HQ := hid (And.intro q1 (And.intro q2 q3))
    clear q1 q2 q3 hi hb1 d0 d1 d2 d3)
  go_wp2_with fail
  go_loopw [9, 11] (fun v i wr => ∃ m : Nat, m ≤ N.length ∧ i = .int .i64 m ∧ IntsAt w.heap.size wr v (setL (outL s (N.take m))) ∧ Below w.heap.size w wr ∧ Below w1.heap.size w1 wr) (fun _ i _ => N.length - (intOf i).toNat)
  case atStart => exact ⟨0, Nat.zero_le _, rfl, by rw [List.take_zero, outL, List.flatMap_nil, setL_nil]; exact SlE.nil _ _ _, HB1.out, Below.refl _ _⟩
  case round =>
    obtain ⟨m, hm, rfl, hi, hbl, hb1⟩ := hrel
    obtain ⟨wo, hwo⟩ : ∃ wo, wo = wr := ⟨_, rfl⟩
    subst hwo
    have HI := hid hi
    have HBL := hid hbl
    have HBO := hid hb1
    clear hi hbl hb1
    by_cases hml : m < N.length
    · have hml2 : (m : Int) < N.length := by omega
      obtain ⟨q1, q2, q3⟩ := HQ.out
      have e3 := q1 (by omega)
      subst e3
      have b1 := q3 (by omega)
      have g0 := (HBO.out.cell (World.block_lt_of_cell? _ _ (q2 m hml))).trans (q2 m hml)
      have b1' : nb < wo.heap.size := by have := HBO.out.size; omega
      have hx1 := HNX.out _ (nth_mem N m hml)
      obtain ⟨X, hX⟩ := Int.eq_ofNat_of_zero_le hx1.1
      have HSN := hid (outL_snoc s N m hml)
      rw [hX] at g0 hx1 HSN
      rw [Int.toNat_natCast] at HSN
      rw [HN.out] at hx1
      have hXn : X < s.length := by omega
      have hXn2 : (X : Int) < s.length := by omega
      obtain ⟨R, hR⟩ : ∃ R, nth s X = R := ⟨_, rfl⟩
      have HRR := hid (show ∀ r ∈ R, 0 ≤ r ∧ r < 64 by rw [← hR]; exact fun r h => HREG.out X r h)
      have c0 := HI2.out X hXn
      have g1 := ((HB1.out.trans (HBO.out.mono HB1.out.size)).cell (World.block_lt_of_cell? _ _ c0)).trans c0
      have hrow := (HI3.out X hXn).below (HB1.out.trans (HBO.out.mono HB1.out.size))
      have b2 : ib < wo.heap.size := by have := HB1.out.size; have := HBO.out.size; omega
      rw [hR] at g1 hrow HSN
      obtain ⟨ra, rc, rb, ro, he, r1, r2, r3, _, r4, r5, r6⟩ := hrow.open
      obtain ⟨he1, he2⟩ : (IS X).a = ra ∧ (IS X).c = rc := by simpa using he
      rw [he1, he2] at g1
      have HRO := hid (And.intro r1 (And.intro r2 r3))
      have HM := hid (show ∀ r ∈ outL s (N.take m), 0 ≤ r ∧ r < 64 from outL_reg HREG.out _)
      clear q1 q2 q3 hX hR c0 hrow he he1 he2 r1 r2 r3
      go_wp2_with fail
      go_loopw [9, 12] (fun v i wr => ∃ j : Nat, j ≤ R.length ∧ i = .int .i64 j ∧ IntsAt w.heap.size wr v (setL (outL s (N.take m) ++ R.take j)) ∧ Below w.heap.size w wr ∧ Below wo.heap.size wo wr) (fun _ i _ => R.length - (intOf i).toNat)
      case atStart => exact ⟨0, Nat.zero_le _, rfl, by rw [List.take_zero, List.append_nil]; exact HI.out, HBL.out, Below.refl _ _⟩
      case round =>
        obtain ⟨j, hj, rfl, hi, hbl, hb1⟩ := hrel
        obtain ⟨wi, hwi⟩ : ∃ wi, wi = wr := ⟨_, rfl⟩
        subst hwi
        have HII := hid hi
        have HBLI := hid hbl
        have HBI := hid hb1
        have k0 := (hb1.cell b1').trans g0
        have k1 := (hb1.cell b2).trans g1
        have b3 : nb < wi.heap.size := by have := hb1.size; omega
        have b4 : ib < wi.heap.size := by have := hb1.size; omega
        clear hi hbl hb1
        by_cases hjl : j < R.length
        · have hjl2 : (j : Int) < R.length := by omega
          obtain ⟨r1, r2, r3⟩ := HRO.out
          have e4 := r1 (by omega)
          subst e4
          have b5 : rb < wi.heap.size := by have := HBI.out.size; have := r3 (by omega); omega
          have k2 := (HBI.out.cell (r3 (by omega))).trans (r2 j hjl)
          obtain ⟨y, hy⟩ : ∃ y, nth R j = y := ⟨_, rfl⟩
          have HSY := hid (show setL (outL s (N.take m) ++ R.take (j + 1)) = withL (setL (outL s (N.take m) ++ R.take j)) y by
            rw [← setL_snoc, List.take_add_one, List.getElem?_eq_getElem hjl, ← hy, nth_eq _ _ hjl, List.append_assoc]
            rfl)
          have HLN := hid (show (setL (outL s (N.take m) ++ R.take j)).length ≤ 64 from setL_64 fun r hr => by
            rcases List.mem_append.1 hr with h | h
            · exact HM.out r h
            · exact HRR.out r (List.mem_of_mem_take h))
          rw [hy] at k2
          clear r1 r2 r3 hy
          go_wp2_with (
            go_at_call 58
            refine (with_calls w.heap.size _ _ y _ HII.out HBLI.out.size (by have := HLN.out; omega)).mono ?_
            rintro e w3 ⟨v3, rfl, hi3, hb3, _⟩
            have HI3' := hid hi3
            have HB3 := hid hb3
            clear hi3 hb3)
          go_roundw
          case rel => exact ⟨j + 1, by omega, by go_num, by rw [HSY.out]; exact HI3'.out, bvia HBLI.out HB3.out, bvia HBI.out HB3.out⟩
          case measure => simp [intOf] <;> omega
        · have HJ := hid (show j = R.length by omega)
          go_wp2_with fail
          go_roundw
          case rel => exact ⟨m + 1, by omega, by go_num, by rw [HSN.out]; have := HII.out; rw [HJ.out, List.take_length] at this; exact this, HBLI.out, bvia HBO.out HBI.out⟩
          case measure => simp [intOf] <;> omega
    · have HM := hid (show m = N.length by omega)
      go_wp2_with fail
      go_ret
      refine ⟨_, rfl, ?_, HBL.out⟩
      have := HI.out
      rw [HM.out, List.take_length, ← HNE.out] at this
      exact this

end Go.Proofs.YteiohnfmlabelaaGreat

/-
  Whether an operation only writes its destination and never fails.
-/
namespace Go.Proofs.YteiohnfmlabelaaGreat
set_option linter.unusedVariables false
set_option linter.unusedSimpArgs false
open Go.RowKit

def pureOps : List Int := [1, 2, 3, 4, 5, 6, 9, 10, 11, 12, 13, 14, 18]
def pureB (op : Int) : Bool := decide (op ∈ pureOps)

set_option maxRecDepth 100000 in
set_option maxHeartbeats 4000000 in
theorem pure_calls (op : Int) (w : World) : Calls Tryz.prog 69 #[.int .i64 op] w fun e w' => e = .returned (.bool (pureB op)) ∧ w' = w := by
  by_cases h : op ∈ pureOps
  · have h' := h
    unfold pureOps at h'
    simp only [List.mem_cons, List.not_mem_nil, or_false] at h'
    clear h
    rcases h' with rfl | rfl | rfl | rfl | rfl | rfl | rfl | rfl | rfl | rfl | rfl | rfl | rfl
    all_goals
      go_enter Tryz.func69, Tryz.ntmps69
      go_wp2_with fail
      go_ret
      exact ⟨rfl, rfl⟩
  · have HP := hid (show pureB op = false from decide_eq_false h)
    unfold pureOps at h
    simp only [List.mem_cons, List.not_mem_nil, or_false, not_or] at h
    obtain ⟨h1, h2, h3, h4, h5, h6, h9, h10, h11, h12, h13, h14, h18⟩ := h
    have b1 : (op == 1) = false := beq_eq_false_iff_ne.2 h1
    have b2 : (op == 2) = false := beq_eq_false_iff_ne.2 h2
    have b3 : (op == 3) = false := beq_eq_false_iff_ne.2 h3
    have b4 : (op == 4) = false := beq_eq_false_iff_ne.2 h4
    have b5 : (op == 5) = false := beq_eq_false_iff_ne.2 h5
    have b6 : (op == 6) = false := beq_eq_false_iff_ne.2 h6
    have b9 : (op == 9) = false := beq_eq_false_iff_ne.2 h9
    have b10 : (op == 10) = false := beq_eq_false_iff_ne.2 h10
    have b11 : (op == 11) = false := beq_eq_false_iff_ne.2 h11
    have b12 : (op == 12) = false := beq_eq_false_iff_ne.2 h12
    have b13 : (op == 13) = false := beq_eq_false_iff_ne.2 h13
    have b14 : (op == 14) = false := beq_eq_false_iff_ne.2 h14
    have b18 : (op == 18) = false := beq_eq_false_iff_ne.2 h18
    clear h1 h2 h3 h4 h5 h6 h9 h10 h11 h12 h13 h14 h18
    go_enter Tryz.func69, Tryz.ntmps69
    go_wp2_with fail
    go_ret
    exact ⟨by rw [HP.out]; rfl, rfl⟩

set_option maxRecDepth 100000 in
set_option maxHeartbeats 4000000 in
theorem rpure_calls (op : Int) (w : World) : Calls Tryz.prog 31 #[.int .i64 op] w fun e w' => e = .returned (.bool (pureB op)) ∧ w' = w := by
  by_cases h : op ∈ pureOps
  · have h' := h
    unfold pureOps at h'
    simp only [List.mem_cons, List.not_mem_nil, or_false] at h'
    clear h
    rcases h' with rfl | rfl | rfl | rfl | rfl | rfl | rfl | rfl | rfl | rfl | rfl | rfl | rfl
    all_goals
      go_enter Tryz.func31, Tryz.ntmps31
      go_wp2_with fail
      go_ret
      exact ⟨rfl, rfl⟩
  · have HP := hid (show pureB op = false from decide_eq_false h)
    unfold pureOps at h
    simp only [List.mem_cons, List.not_mem_nil, or_false, not_or] at h
    obtain ⟨h1, h2, h3, h4, h5, h6, h9, h10, h11, h12, h13, h14, h18⟩ := h
    have b1 : (op == 1) = false := beq_eq_false_iff_ne.2 h1
    have b2 : (op == 2) = false := beq_eq_false_iff_ne.2 h2
    have b3 : (op == 3) = false := beq_eq_false_iff_ne.2 h3
    have b4 : (op == 4) = false := beq_eq_false_iff_ne.2 h4
    have b5 : (op == 5) = false := beq_eq_false_iff_ne.2 h5
    have b6 : (op == 6) = false := beq_eq_false_iff_ne.2 h6
    have b9 : (op == 9) = false := beq_eq_false_iff_ne.2 h9
    have b10 : (op == 10) = false := beq_eq_false_iff_ne.2 h10
    have b11 : (op == 11) = false := beq_eq_false_iff_ne.2 h11
    have b12 : (op == 12) = false := beq_eq_false_iff_ne.2 h12
    have b13 : (op == 13) = false := beq_eq_false_iff_ne.2 h13
    have b14 : (op == 14) = false := beq_eq_false_iff_ne.2 h14
    have b18 : (op == 18) = false := beq_eq_false_iff_ne.2 h18
    clear h1 h2 h3 h4 h5 h6 h9 h10 h11 h12 h13 h14 h18
    go_enter Tryz.func31, Tryz.ntmps31
    go_wp2_with fail
    go_ret
    exact ⟨by rw [HP.out]; rfl, rfl⟩

end Go.Proofs.YteiohnfmlabelaaGreat
