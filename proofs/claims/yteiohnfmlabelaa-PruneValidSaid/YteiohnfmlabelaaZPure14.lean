/-
  Liveness and paths: a register is live exactly if a path leads to a use of it.
-/
import Derived.Test.YteiohnfmlabelaaZBit
import Derived.Test.YteiohnfmlabelaaZBelow
import Derived.Test.YteiohnfmlabelaaZSpec14
import Derived.Test.YteiohnfmlabelaaZPrFin
namespace Go.Proofs.Yteiohnfmlabelaa
set_option linter.unusedVariables false
set_option linter.unusedSimpArgs false
open Go.RowKit

/-- A path on which no instruction but perhaps the last always writes the register. -/
inductive LPath (p : Prg) (fn : Nat) (reg : Int) : Nat → Nat → Prop
  | refl (i : Nat) : LPath p fn reg i i
  | step {i j : Nat} {t : Int} : LPath p fn reg i j → reg ∉ defsC p fn j → t ∈ nextL (nth p.funcs fn).code j → LPath p fn reg i t.toNat

theorem LPath.trans {p : Prg} {fn : Nat} {reg : Int} {i j k : Nat} (h : LPath p fn reg i j) (h' : LPath p fn reg j k) : LPath p fn reg i k := by
  induction h' with
  | refl => exact h
  | step _ h1 h2 ih => exact ih.step h1 h2

def Paths (p : Prg) (fn : Nat) (s : List (List Int)) : Prop := ∀ i r, r ∈ nth s i → ∃ j, LPath p fn r i j ∧ r ∈ usesC p fn j

theorem Paths.at {p : Prg} {fn : Nat} {s : List (List Int)} (h : Paths p fn s) (i : Nat) (hi : i < s.length) : Paths p fn (passAt p fn s i) := by
  intro j r hr
  unfold passAt at hr
  rw [nth_setS _ _ _ _ hi] at hr
  split at hr
  · rename_i e; subst e
    rw [before_mem] at hr
    rcases hr with hr | ⟨hr, hd⟩
    · exact ⟨i, .refl i, hr⟩
    · unfold afterL at hr
      rw [setL_mem, List.mem_flatMap] at hr
      obtain ⟨t, ht, hm⟩ := hr
      obtain ⟨k, hk, hu⟩ := h _ _ hm
      exact ⟨k, (LPath.step (.refl i) hd ht).trans hk, hu⟩
  · exact h j r hr

theorem stepsL_len (p : Prg) (fn n : Nat) (s : List (List Int)) : ∀ d, (stepsL p fn n s d).length = s.length
  | 0 => rfl
  | d + 1 => by rw [stepsL, passAt, List.length_set]; exact stepsL_len p fn n s d
theorem Paths.steps {p : Prg} {fn n : Nat} {s : List (List Int)} (h : Paths p fn s) (hl : s.length = n) : ∀ d, d ≤ n → Paths p fn (stepsL p fn n s d)
  | 0, _ => h
  | d + 1, hd => (Paths.steps h hl d (by omega)).at _ (by rw [stepsL_len, hl]; omega)
theorem Paths.iter (p : Prg) (fn n : Nat) : ∀ k, Paths p fn (iterL p fn n k) ∧ (iterL p fn n k).length = n
  | 0 => ⟨fun i r h => by rw [show iterL p fn n 0 = List.replicate n [] from rfl, nth_repl] at h; simp at h, by simp [iterL]⟩
  | k + 1 => by
    obtain ⟨h1, h2⟩ := Paths.iter p fn n k
    exact ⟨h1.steps h2 n (Nat.le_refl _), by rw [iterL, passL, stepsL_len, h2]⟩

theorem IsLive.paths {p : Prg} {fn n : Nat} {L : List (List Int)} (h : IsLive p fn n L) : Paths p fn L := by
  obtain ⟨⟨k, rfl⟩, _⟩ := h
  exact (Paths.iter p fn n k).1
theorem IsLive.fine {p : Prg} {fn n : Nat} {L : List (List Int)} (h : IsLive p fn n L) (hv : validB p = true) (hfn : fn < p.funcs.length) : Fine p fn n L := by
  obtain ⟨⟨k, rfl⟩, _⟩ := h
  exact Fine.iter hv hfn k
theorem IsLive.eqs {p : Prg} {fn n : Nat} {L : List (List Int)} (h : IsLive p fn n L) (hv : validB p = true) (hfn : fn < p.funcs.length) : ∀ i, i < n → nth L i = beforeL p fn L i := steps_fix hv hfn (h.fine hv hfn) h.2

theorem path_lt {p : Prg} {fn n : Nat} (hv : validB p = true) (hfn : fn < p.funcs.length) (hn : (nth p.funcs fn).code.length = n) {reg : Int} {i j : Nat} (h : LPath p fn reg i j) (hi : i < n) : j < n := by
  induction h with
  | refl => exact hi
  | step _ _ h2 ih =>
    have := (fok_of_funcB (valid_func hv fn hfn)).jok.nx _ (by rw [hn]; exact ih) _ h2
    omega

theorem IsLive.complete {p : Prg} {fn n : Nat} {L : List (List Int)} (h : IsLive p fn n L) (hv : validB p = true) (hfn : fn < p.funcs.length) (hn : (nth p.funcs fn).code.length = n) {reg : Int} {i j : Nat} (hp : LPath p fn reg i j) (hi : i < n) (hu : reg ∈ usesC p fn j) : reg ∈ nth L i := by
  have heq := h.eqs hv hfn
  have key : ∀ j, LPath p fn reg i j → reg ∈ nth L j → reg ∈ nth L i := by
    intro j hp
    induction hp with
    | refl => exact id
    | @step j t h1 h2 h3 ih =>
      intro hr
      apply ih
      have hj := path_lt hv hfn hn h1 hi
      rw [heq j hj, before_mem]
      refine .inr ⟨?_, h2⟩
      unfold afterL
      rw [setL_mem, List.mem_flatMap]
      exact ⟨t, h3, hr⟩
  refine key j hp ?_
  rw [heq j (path_lt hv hfn hn hp hi), before_mem]
  exact .inl hu

/-- A register is live before an instruction exactly if a path leads to a use of it without a definition before. -/
theorem IsLive.iff {p : Prg} {fn n : Nat} {L : List (List Int)} (h : IsLive p fn n L) (hv : validB p = true) (hfn : fn < p.funcs.length) (hn : (nth p.funcs fn).code.length = n) (i : Nat) (hi : i < n) (reg : Int) : reg ∈ nth L i ↔ ∃ j, LPath p fn reg i j ∧ reg ∈ usesC p fn j :=
  ⟨fun hr => h.paths i reg hr, fun ⟨_, h1, h2⟩ => h.complete hv hfn hn h1 hi h2⟩

end Go.Proofs.Yteiohnfmlabelaa

/-
  One step of package live's solution: both rows.
-/
namespace Go.Proofs.Yteiohnfmlabelaa
set_option linter.unusedVariables false
set_option linter.unusedSimpArgs false
open Go.RowKit

/-- The sets behind the instructions: they lie in what follows from the sets before. -/
structure TOk (p : Prg) (fn n : Nat) (s t : List (List Int)) : Prop where
  len : t.length = n
  inc : ∀ i, Inc (nth t i)
  reg : ∀ i r, r ∈ nth t i → 0 ≤ r ∧ r < 64
  sub : ∀ i r, i < n → r ∈ nth t i → r ∈ afterL p fn s i

theorem TOk.start (p : Prg) (fn n : Nat) (s : List (List Int)) : TOk p fn n s (List.replicate n []) :=
  ⟨by simp, fun i => by rw [nth_repl]; exact List.Pairwise.nil, fun i r h => by rw [nth_repl] at h; simp at h, fun i r _ h => by rw [nth_repl] at h; simp at h⟩
theorem TOk.total {p : Prg} {fn n : Nat} {s t : List (List Int)} (h : TOk p fn n s t) : totalS t ≤ 64 * n := by
  rw [← h.len]
  exact total_le fun i => inc_64 (h.inc i) (h.reg i)

theorem TOk.step {p : Prg} {fn n : Nat} (hv : validB p = true) (hfn : fn < p.funcs.length) {s t : List (List Int)} (h : Fine p fn n s) (ht : TOk p fn n s t) (i : Nat) (hi : i < n) :
    Fine p fn n (passAt p fn s i) ∧ TOk p fn n (passAt p fn s i) (t.set i (afterL p fn s i)) ∧
    ((nth s i = beforeL p fn s i ∧ nth t i = afterL p fn s i ∧ passAt p fn s i = s ∧ t.set i (afterL p fn s i) = t) ∨
     ((nth s i ≠ beforeL p fn s i ∨ nth t i ≠ afterL p fn s i) ∧ totalS s + totalS t < totalS (passAt p fn s i) + totalS (t.set i (afterL p fn s i)))) := by
  obtain ⟨h1, h2⟩ := Fine.at hv hfn h i hi
  have hl : i < t.length := by rw [ht.len]; exact hi
  have ht' : TOk p fn n (passAt p fn s i) (t.set i (afterL p fn s i)) := by
    refine ⟨by simpa using ht.len, fun j => ?_, fun j r hr => ?_, fun j r hj hr => ?_⟩
    · rw [nth_setS _ _ _ _ hl]
      split
      · exact setL_inc _
      · exact ht.inc j
    · rw [nth_setS _ _ _ _ hl] at hr
      split at hr
      · exact after_reg hv hfn h.reg i r hr
      · exact ht.reg j r hr
    · rw [nth_setS _ _ _ _ hl] at hr
      split at hr
      · rename_i e; subst e; exact after_mono h2 i r hr
      · exact after_mono h2 j r (ht.sub j r hj hr)
  have hsub : SubS t (t.set i (afterL p fn s i)) := fun j r hr => by
    rw [nth_setS _ _ _ _ hl]
    split
    · rename_i e; subst e; exact ht.sub i r hi hr
    · exact hr
  obtain ⟨a1, a2⟩ := total_sub (by simp) ht.inc ht'.inc hsub
  have hnt : nth (t.set i (afterL p fn s i)) i = afterL p fn s i := by rw [nth_setS _ _ _ _ hl, if_pos rfl]
  refine ⟨h1, ht', ?_⟩
  rcases h.step_total hv hfn i hi with ⟨e1, e2⟩ | ⟨e1, e2⟩
  · by_cases e3 : nth t i = afterL p fn s i
    · left
      refine ⟨e1, e3, e2, ?_⟩
      rw [← e3, nth_eq _ _ hl]
      exact List.set_getElem_self hl
    · right
      refine ⟨.inr e3, ?_⟩
      have : totalS t ≠ totalS (t.set i (afterL p fn s i)) := fun he => by
        have h3 := a2 he
        rw [← h3] at hnt
        exact e3 hnt
      rw [e2]
      omega
  · right
    exact ⟨.inl e1, by omega⟩

/-- A set as a number of 64 bits. -/
def numS (l : List Int) : Int := ((setB l).toNat : Int)
theorem numS_eq {a b : List Int} (ha : Inc a) (hb : Inc b) (ra : ∀ r ∈ a, 0 ≤ r ∧ r < 64) (rb : ∀ r ∈ b, 0 ≤ r ∧ r < 64) : numS a = numS b ↔ a = b := by
  constructor
  · intro h
    unfold numS at h
    have h2 : setB a = setB b := BitVec.eq_of_toNat_eq (by omega)
    exact inc_ext a b ha hb ((setB_ext ra rb).1 h2)
  · rintro rfl; rfl
theorem numS_or {l a b : List Int} (hl : ∀ r ∈ l, 0 ≤ r ∧ r < 64) (ha : ∀ r ∈ a, 0 ≤ r ∧ r < 64) (hb : ∀ r ∈ b, 0 ≤ r ∧ r < 64) (h : ∀ r, r ∈ l ↔ r ∈ a ∨ r ∈ b) : bits .or .u64 (numS a) (numS b) = numS l := by
  unfold numS
  rw [bits_or, setB_or hl ha hb h]
theorem numS_diff {l a b : List Int} (hl : ∀ r ∈ l, 0 ≤ r ∧ r < 64) (ha : ∀ r ∈ a, 0 ≤ r ∧ r < 64) (hb : ∀ r ∈ b, 0 ≤ r ∧ r < 64) (h : ∀ r, r ∈ l ↔ r ∈ a ∧ r ∉ b) : bits .andNot .u64 (numS a) (numS b) = numS l := by
  unfold numS
  rw [bits_andNot, setB_diff hl ha hb h]
theorem numS_ext {a b : List Int} (ra : ∀ r ∈ a, 0 ≤ r ∧ r < 64) (rb : ∀ r ∈ b, 0 ≤ r ∧ r < 64) (h : ∀ r, r ∈ a ↔ r ∈ b) : numS a = numS b := by
  unfold numS
  rw [(setB_ext ra rb).2 h]

/-- The sets of the instructions that follow, some of them. -/
def outL (s : List (List Int)) (N : List Int) : List Int := N.flatMap fun t => nth s t.toNat
theorem outL_reg {s : List (List Int)} (h : ∀ i r, r ∈ nth s i → 0 ≤ r ∧ r < 64) (N : List Int) : ∀ r ∈ outL s N, 0 ≤ r ∧ r < 64 := by
  intro r hr
  unfold outL at hr
  obtain ⟨x, _, hm⟩ := List.mem_flatMap.1 hr
  exact h _ _ hm
theorem outL_snoc (s : List (List Int)) (N : List Int) (k : Nat) (hk : k < N.length) : outL s (N.take (k + 1)) = outL s (N.take k) ++ nth s (nth N k).toNat := by
  unfold outL
  rw [List.take_add_one, List.getElem?_eq_getElem hk, nth_eq _ _ hk]
  simp only [Option.toList_some, List.flatMap_append, List.flatMap_cons, List.flatMap_nil, List.append_nil]

end Go.Proofs.Yteiohnfmlabelaa

/-
  Whether a list has a number: the reference's function and the law's.
-/
namespace Go.Proofs.Yteiohnfmlabelaa
set_option linter.unusedVariables false
set_option linter.unusedSimpArgs false
open Go.RowKit

end Go.Proofs.Yteiohnfmlabelaa

/-
  The reference's registers that are live after an instruction.
-/
namespace Go.Proofs.Yteiohnfmlabelaa
set_option linter.unusedVariables false
set_option linter.unusedSimpArgs false
open Go.RowKit

theorem setL_64 {l : List Int} (h : ∀ r ∈ l, 0 ≤ r ∧ r < 64) : (setL l).length ≤ 64 := inc_64 (setL_inc l) fun r hr => h r ((setL_mem l r).1 hr)

end Go.Proofs.Yteiohnfmlabelaa

/-
  Whether an operation only writes its destination and never fails.
-/
namespace Go.Proofs.Yteiohnfmlabelaa
set_option linter.unusedVariables false
set_option linter.unusedSimpArgs false
open Go.RowKit

def pureOps : List Int := [1, 2, 3, 4, 5, 6, 9, 10, 11, 12, 13, 14, 18]
def pureB (op : Int) : Bool := decide (op ∈ pureOps)

set_option maxRecDepth 100000 in
set_option maxHeartbeats 4000000 in
theorem pure_calls (op : Int) (w : World) : Calls Try.prog 51 #[.int .i64 op] w fun e w' => e = .returned (.bool (pureB op)) ∧ w' = w := by
  by_cases h : op ∈ pureOps
  · have h' := h
    unfold pureOps at h'
    simp only [List.mem_cons, List.not_mem_nil, or_false] at h'
    clear h
    rcases h' with rfl | rfl | rfl | rfl | rfl | rfl | rfl | rfl | rfl | rfl | rfl | rfl | rfl
    all_goals
      go_enter Try.func51, Try.ntmps51
      go_wp2_with fail
      go_ret
      exact ⟨rfl, rfl⟩
  · have HP := hid (show pureB op = false from decide_eq_false h)
    unfold pureOps at h
    simp only [List.mem_cons, List.not_mem_nil, or_false, not_or] at h
    obtain ⟨h1, h2, h3, h4, h5, h6, h9, h10, h11, h12, h13, h14, h18⟩ := h
    have b1 : (op == 1) = false := beq_eq_false_iff_ne.2 h1
    have b2 : (op == 2) = false := beq_eq_false_iff_ne.2 h2
    have b3 : (op == 3) = false := beq_eq_false_iff_ne.2 h3
    have b4 : (op == 4) = false := beq_eq_false_iff_ne.2 h4
    have b5 : (op == 5) = false := beq_eq_false_iff_ne.2 h5
    have b6 : (op == 6) = false := beq_eq_false_iff_ne.2 h6
    have b9 : (op == 9) = false := beq_eq_false_iff_ne.2 h9
    have b10 : (op == 10) = false := beq_eq_false_iff_ne.2 h10
    have b11 : (op == 11) = false := beq_eq_false_iff_ne.2 h11
    have b12 : (op == 12) = false := beq_eq_false_iff_ne.2 h12
    have b13 : (op == 13) = false := beq_eq_false_iff_ne.2 h13
    have b14 : (op == 14) = false := beq_eq_false_iff_ne.2 h14
    have b18 : (op == 18) = false := beq_eq_false_iff_ne.2 h18
    clear h1 h2 h3 h4 h5 h6 h9 h10 h11 h12 h13 h14 h18
    go_enter Try.func51, Try.ntmps51
    go_wp2_with fail
    go_ret
    exact ⟨by rw [HP.out]; rfl, rfl⟩

end Go.Proofs.Yteiohnfmlabelaa
