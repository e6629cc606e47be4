/-
  The region theorem with stores into blocks that the region itself has made (genregs.py prints this text from XRegion).
-/
import Derived.Test.YtealeofgfgbheaaZRegion
namespace Go.Proofs.Ytealeofgfgbheaa.RegS
set_option linter.unusedVariables false
set_option linter.unusedSimpArgs false
open Go.RowKit

/-- What an operation does: det: its value is determined, the world stays; new: it makes memory; upd c: it may write the row that operation c has made; skip: its guard is false; fin: the last one, behind all others. -/
inductive RKind where
  | det
  | new
  | upd (c : Nat)
  | st (c : Nat)
  | skip
  | fin

def RKind.isNew : RKind → Bool
  | .new | .upd _ | .st _ => true
  | _ => false


structure Plan where
  ops : Array Oper
  deps : Nat → List Nat
  kinds : Nat → RKind
  cons : Nat → Option Nat
  lnk : Nat → List Nat := fun _ => []
  /-- Blocks that are there already and that operation i alone takes over. -/
  own : Nat → Nat → Prop := fun _ _ => False

namespace Plan
set_option linter.unusedVariables false
set_option linter.unusedSimpArgs false
variable (R : Plan)
def dst (i : Nat) : Option Tmp := (R.ops[i]?).bind (·.dst)

def depsOk : Bool := (List.range R.ops.size).all fun i => match R.ops[i]? with
  | none => true
  | some o => (o.after.toList.all fun e => !Region.binds .any e || decide (e.on < i)) && (R.deps i).all fun j => decide (j < i) && o.after.toList.any fun e => Region.binds .any e && (e.on == j || (R.deps e.on).contains j)
def uniqOk : Bool := (List.range R.ops.size).all fun i => (List.range R.ops.size).all fun j => i == j || R.dst i == none || !(R.dst i == R.dst j)
def slotsOk : Bool := (List.range R.ops.size).all fun i => match R.ops[i]? with
  | none => true
  | some o => (o.looksAt R.ops).all fun t => (List.range R.ops.size).all fun j => !(R.dst j == some t) || ((R.deps i).contains j && decide (j < i)) || (decide (i ≤ j) && (j == i || (R.deps j).contains i))
def consOk : Bool := (List.range R.ops.size).all fun i => match R.kinds i with
  | .upd c => R.cons c == some i && (R.deps i).contains c && (R.kinds c).isNew
  | .st c => (R.cons c == some i && (R.deps i).contains c && (R.kinds c).isNew) && (R.lnk i).all fun j => (R.deps i).contains j
  | .fin => decide (i + 1 = R.ops.size) && (List.range i).all fun j => (R.deps i).contains j
  | _ => true
def consLt : Bool := (List.range R.ops.size).all fun j => match R.cons j with
  | some i => decide (i < R.ops.size)
  | none => true
def ok : Bool := R.depsOk && R.uniqOk && R.slotsOk && R.consOk && Region.noSelect R.ops

/-- The facts that operation i may use. -/
def Facts (Φ : Nat → Value → (Nat → Prop) → World → Prop) (i : Nat) (vals : Nat → Value) (F : Nat → Nat → Prop) (w : World) : Prop :=
  ∀ j, (R.deps i).contains j = true → (R.kinds j).isNew = true → (R.cons j = none ∨ R.cons j = some i) → Φ j (vals j) (F j) w
def Rest (B : Nat) (Φ : Nat → Value → (Nat → Prop) → World → Prop) (vals : Nat → Value) (F : Nat → Nat → Prop) (w : World) : Prop :=
  (∀ j, j < R.ops.size → (R.kinds j).isNew = true → R.cons j = none → Φ j (vals j) (F j) w) ∧
  ∀ i j, i < R.ops.size → j < R.ops.size → (R.kinds i).isNew = true → (R.kinds j).isNew = true → R.cons i = none → R.cons j = none → i ≠ j → ∀ k, F i k → F j k → k < B

def put (vals : Nat → Value) (i : Nat) (v : Value) : Nat → Value := fun j => if j = i then v else vals j

/-- What is kept of a store: the values that it hangs on. -/
def linkV (vals : Nat → Value) (i : Nat) : Value := .tuple ((R.lnk i).map vals).toArray

/-- The text's own order, each operation by its facts. -/
def Runs (P : Program) (Q : Exit → Act → World → Prop) (B : Nat) (w0 : World) (Φ : Nat → Value → (Nat → Prop) → World → Prop) (Ψ : Nat → Value → Prop) : Nat → List Oper → Act → (Nat → Value) → Prop
  | _, [], a, vals => ∀ F w, Below B w0 w → R.Rest B Φ vals F w → Q .normal a w
  | i, o :: l, a, vals => match R.kinds i with
    | .skip => Region.wanted o (yielded R.ops a.tmps) = false ∧ Runs P Q B w0 Φ Ψ (i + 1) l (a.put o.dst undef) (put vals i undef)
    | .det => Region.wanted o (yielded R.ops a.tmps) = true ∧ ∃ v, (∀ F w, Below B w0 w → R.Facts Φ i vals F w → (execOp a.eval o).run P w = .ok (.value v) w) ∧ Runs P Q B w0 Φ Ψ (i + 1) l (a.put o.dst v) (put vals i v)
    | .new => Region.wanted o (yielded R.ops a.tmps) = true ∧ (∃ d, o.dst = some d ∧ d < a.tmps.size) ∧
        (∀ F w, Below B w0 w → (∀ k, R.own i k → w.heap[k]? = w0.heap[k]?) → R.Facts Φ i vals F w → o.wp P a w (fun a' w' => ∃ v F', a' = a.put o.dst v ∧ Ψ i v ∧ Below w.heap.size w w' ∧ Φ i v F' w' ∧ ∀ k, F' k → k < B ∨ R.own i k ∨ (w.heap.size ≤ k ∧ k < w'.heap.size)) NoQ) ∧
        ∀ v, Ψ i v → Runs P Q B w0 Φ Ψ (i + 1) l (a.put o.dst v) (put vals i v)
    | .upd c => Region.wanted o (yielded R.ops a.tmps) = true ∧ (∃ d, o.dst = some d ∧ d < a.tmps.size) ∧
        (∀ F w, Below B w0 w → R.Facts Φ i vals F w → o.wp P a w (fun a' w' => ∃ v F', a' = a.put o.dst v ∧ Ψ i v ∧ Below B w w' ∧ (∀ k, k < w.heap.size → ¬ (F c k ∧ B ≤ k) → w'.heap[k]? = w.heap[k]?) ∧ Φ i v F' w' ∧ ∀ k, F' k → k < B ∨ F c k ∨ (w.heap.size ≤ k ∧ k < w'.heap.size)) NoQ) ∧
        ∀ v, Ψ i v → Runs P Q B w0 Φ Ψ (i + 1) l (a.put o.dst v) (put vals i v)
    | .st c => Region.wanted o (yielded R.ops a.tmps) = true ∧ o.dst = none ∧ Ψ i (R.linkV vals i) ∧
        (∀ F w, Below B w0 w → R.Facts Φ i vals F w → o.wp P a w (fun a' w' => a' = a ∧ ∃ F', Below B w w' ∧ (∀ k, k < w.heap.size → ¬ (F c k ∧ B ≤ k) → w'.heap[k]? = w.heap[k]?) ∧ Φ i (R.linkV vals i) F' w' ∧ ∀ k, F' k → k < B ∨ F c k ∨ (w.heap.size ≤ k ∧ k < w'.heap.size)) NoQ) ∧
        Runs P Q B w0 Φ Ψ (i + 1) l a (put vals i (R.linkV vals i))
    | .fin => Region.wanted o (yielded R.ops a.tmps) = true ∧ l = [] ∧ ∀ F w, Below B w0 w → R.Rest B Φ vals F w → o.wp P a w (Q .normal) Q
end Plan

namespace Plan
set_option linter.unusedVariables false
set_option linter.unusedSimpArgs false
variable {R : Plan} {P : Program} {Q : Exit → Act → World → Prop} {B : Nat} {w0 : World} {Φ : Nat → Value → (Nat → Prop) → World → Prop} {Ψ : Nat → Value → Prop} {a0 : Act}

theorem ok_deps (h : R.ok = true) {i : Nat} {o : Oper} (ho : R.ops[i]? = some o) : (∀ e ∈ o.after, Region.binds .any e = true → e.on < i) ∧ ∀ j, (R.deps i).contains j = true → j < i ∧ ∃ e ∈ o.after, Region.binds .any e = true ∧ (e.on = j ∨ (R.deps e.on).contains j = true) := by
  simp only [ok, Bool.and_eq_true] at h
  have h1 := h.1.1.1.1
  simp only [depsOk, List.all_eq_true, List.mem_range] at h1
  have hlt := (Array.getElem?_eq_some_iff.1 ho).1
  have h2 := h1 i hlt
  simp only [ho, Bool.and_eq_true, List.all_eq_true, Bool.or_eq_true, Bool.not_eq_true', decide_eq_true_eq, List.any_eq_true, beq_iff_eq] at h2
  refine ⟨fun e he hb => ?_, fun j hj => ?_⟩
  · rcases h2.1 e (by simpa using he) with h3 | h3
    · rw [hb] at h3; cases h3
    · exact h3
  · obtain ⟨h3, e, he, h4, h5⟩ := h2.2 j (by simpa using hj)
    exact ⟨h3, e, by simpa using he, h4, h5⟩

theorem ok_uniq (h : R.ok = true) {i j : Nat} {t : Tmp} (hi : R.dst i = some t) (hj : R.dst j = some t) : i = j := by
  simp only [ok, Bool.and_eq_true] at h
  have h1 := h.1.1.1.2
  simp only [uniqOk, List.all_eq_true, List.mem_range, Bool.or_eq_true, beq_iff_eq, Bool.not_eq_true', beq_eq_false_iff_ne] at h1
  have lt : ∀ {k : Nat}, R.dst k = some t → k < R.ops.size := fun {k} hk => by
    rcases Nat.lt_or_ge k R.ops.size with h' | h'
    · exact h'
    · simp [dst, Array.getElem?_eq_none h'] at hk
  rcases h1 i (lt hi) j (lt hj) with (h2 | h2) | h2
  · exact h2
  · rw [hi] at h2; cases h2
  · rw [hi, hj] at h2; exact absurd rfl h2

theorem ok_slots (h : R.ok = true) {i j : Nat} {o : Oper} {t : Tmp} (ho : R.ops[i]? = some o) (ht : t ∈ o.looksAt R.ops) (hj : R.dst j = some t) :
    ((R.deps i).contains j = true ∧ j < i) ∨ (i ≤ j ∧ (j = i ∨ (R.deps j).contains i = true)) := by
  simp only [ok, Bool.and_eq_true] at h
  have h1 := h.1.1.2
  simp only [slotsOk, List.all_eq_true, List.mem_range] at h1
  have hlt := (Array.getElem?_eq_some_iff.1 ho).1
  have h2 := h1 i hlt
  simp only [ho, List.all_eq_true, List.mem_range] at h2
  have hjl : j < R.ops.size := by
    rcases Nat.lt_or_ge j R.ops.size with h' | h'
    · exact h'
    · simp [dst, Array.getElem?_eq_none h'] at hj
  have h3 := h2 t ht j hjl
  simp only [hj, Bool.or_eq_true, Bool.and_eq_true, decide_eq_true_eq, beq_iff_eq, Bool.not_eq_true', beq_self_eq_true, Bool.true_eq_false, false_or] at h3
  exact h3

theorem ok_cons (h : R.ok = true) {i c : Nat} (hi : i < R.ops.size) (hk : R.kinds i = .upd c) : R.cons c = some i ∧ (R.deps i).contains c = true := by
  simp only [ok, Bool.and_eq_true] at h
  have h1 := h.1.2
  simp only [consOk, List.all_eq_true, List.mem_range] at h1
  have h2 := h1 i hi
  simp only [hk, Bool.and_eq_true, beq_iff_eq] at h2
  exact h2.1
theorem hcons_new (h : R.ok = true) {i c : Nat} (hi : i < R.ops.size) (hk : R.kinds i = .upd c) (hn : (R.kinds c).isNew = false) : False := by
  simp only [ok, Bool.and_eq_true] at h
  have h1 := h.1.2
  simp only [consOk, List.all_eq_true, List.mem_range] at h1
  have h2 := h1 i hi
  simp [hk, hn] at h2
theorem ok_st (h : R.ok = true) {i c : Nat} (hi : i < R.ops.size) (hk : R.kinds i = .st c) : R.cons c = some i ∧ (R.deps i).contains c = true ∧ (R.kinds c).isNew = true := by
  simp only [ok, Bool.and_eq_true] at h
  have h1 := h.1.2
  simp only [consOk, List.all_eq_true, List.mem_range] at h1
  have h2 := h1 i hi
  simp only [hk, Bool.and_eq_true, beq_iff_eq] at h2
  exact ⟨h2.1.1.1, h2.1.1.2, h2.1.2⟩
theorem ok_lnk (h : R.ok = true) {i c : Nat} (hi : i < R.ops.size) (hk : R.kinds i = .st c) {j : Nat} (hj : j ∈ R.lnk i) : (R.deps i).contains j = true := by
  simp only [ok, Bool.and_eq_true] at h
  have h1 := h.1.2
  simp only [consOk, List.all_eq_true, List.mem_range] at h1
  have h2 := h1 i hi
  rw [hk] at h2
  rw [Bool.and_eq_true] at h2
  exact List.all_eq_true.1 h2.2 j hj
theorem link_congr {i : Nat} {vals vals' : Nat → Value} (h : ∀ j ∈ R.lnk i, vals j = vals' j) : R.linkV vals i = R.linkV vals' i := by
  unfold linkV
  rw [List.map_congr_left h]
theorem ok_fin (h : R.ok = true) {i : Nat} (hi : i < R.ops.size) (hk : R.kinds i = .fin) : i + 1 = R.ops.size ∧ ∀ j, j < i → (R.deps i).contains j = true := by
  simp only [ok, Bool.and_eq_true] at h
  have h1 := h.1.2
  simp only [consOk, List.all_eq_true, List.mem_range] at h1
  have h2 := h1 i hi
  simp only [hk, Bool.and_eq_true, decide_eq_true_eq, List.all_eq_true, List.mem_range] at h2
  exact h2
theorem ok_select (h : R.ok = true) {i : Nat} {o : Oper} (ho : R.ops[i]? = some o) (cs : Array SelectCase) (b : Bool) : o.op ≠ .select cs b := by
  simp only [ok, Bool.and_eq_true] at h
  exact Region.noSelect_spec h.2 i o cs b ho

/-- The frame when the operations of L have run. -/
structure Frame (R : Plan) (a0 : Act) (L : Nat → Prop) (vals : Nat → Value) (a : Act) : Prop where
  defers : a.defers = a0.defers
  size : a.tmps.size = a0.tmps.size
  hit : ∀ j t, R.dst j = some t → L j → t < a0.tmps.size → a.tmps[t]? = some (vals j)
  miss : ∀ t, (∀ j, R.dst j = some t → ¬ L j) → a.tmps[t]? = a0.tmps[t]?

theorem Frame.start (vals : Nat → Value) : Frame R a0 (fun _ => False) vals a0 := ⟨rfl, rfl, fun _ _ _ h => h.elim, fun _ _ => rfl⟩

theorem Frame.put {L : Nat → Prop} {vals : Nat → Value} {a : Act} (hok : R.ok = true) (h : Frame R a0 L vals a) (i : Nat) (v : Value) (_hL : ¬ L i) :
    Frame R a0 (fun j => L j ∨ j = i) (Plan.put vals i v) (a.put (R.dst i) v) := by
  cases hd : R.dst i with
  | none =>
    refine ⟨h.defers, h.size, fun j t hj hl ht => ?_, fun t ht => h.miss t fun j hj hl => ht j hj (.inl hl)⟩
    have hne : j ≠ i := fun e => by rw [e, hd] at hj; cases hj
    rw [show a.put none v = a from rfl, h.hit j t hj (hl.resolve_right hne) ht]
    simp [Plan.put, hne]
  | some d =>
    refine ⟨h.defers, by simp [Act.put, h.size], fun j t hj hl ht => ?_, fun t ht => ?_⟩
    · by_cases hji : j = i
      · subst hji
        rw [hd] at hj
        obtain rfl := Option.some.inj hj
        simp [Act.put, Plan.put, h.size, ht]
      · have hne : d ≠ t := fun e => hji (ok_uniq hok hj (e ▸ hd))
        simp only [Act.put, Array.getElem?_setIfInBounds_ne hne, Plan.put, if_neg hji]
        exact h.hit j t hj (hl.resolve_right hji) ht
    · have hne : d ≠ t := fun e => ht i (e ▸ hd) (.inr rfl)
      simp only [Act.put, Array.getElem?_setIfInBounds_ne hne]
      exact h.miss t fun j hj hl => ht j hj (.inl hl)

theorem Frame.unique {L : Nat → Prop} {vals : Nat → Value} {a b : Act} (h : Frame R a0 L vals a) (k : Frame R a0 L vals b) : a = b := by
  cases a with | mk ta da => cases b with | mk tb db =>
  have hd : da = db := h.defers.trans k.defers.symm
  subst hd
  congr 1
  apply Array.ext_getElem?
  intro t
  by_cases hw : ∃ j, R.dst j = some t ∧ L j
  · obtain ⟨j, hj, hl⟩ := hw
    by_cases ht : t < a0.tmps.size
    · exact (h.hit j t hj hl ht).trans (k.hit j t hj hl ht).symm
    · have h1 := h.size; have h2 := k.size
      simp only at h1 h2
      have hs' : a0.tmps.size ≤ t := Nat.le_of_not_lt ht
      rw [Array.getElem?_eq_none (Nat.le_trans (Nat.le_of_eq h1) hs'), Array.getElem?_eq_none (Nat.le_trans (Nat.le_of_eq h2) hs')]
  · have hm : ∀ j, R.dst j = some t → ¬ L j := fun j hj hl => hw ⟨j, hj, hl⟩
    exact (h.miss t hm).trans (k.miss t hm).symm

theorem Frame.congr {L L' : Nat → Prop} {vals vals' : Nat → Value} {a : Act} (h : Frame R a0 L vals a) (hL : ∀ j, L j ↔ L' j) (hv : ∀ j, L j → vals j = vals' j) : Frame R a0 L' vals' a :=
  ⟨h.defers, h.size, fun j t hj hl ht => by rw [h.hit j t hj ((hL j).2 hl) ht, hv j ((hL j).2 hl)], fun t ht => h.miss t fun j hj hl => ht j hj ((hL j).1 hl)⟩

/-- What operation i looks at is the same in two frames that both hold what it hangs on. -/
theorem Frame.same {L L' : Nat → Prop} {vals vals' : Nat → Value} {a a' : Act} (hok : R.ok = true) (h : Frame R a0 L vals a) (h' : Frame R a0 L' vals' a') {i : Nat} {o : Oper} (ho : R.ops[i]? = some o)
    (hd : ∀ j, (R.deps i).contains j = true → L j ∧ L' j ∧ vals j = vals' j) (hn : ∀ j, (j = i ∨ (R.deps j).contains i = true) → ¬ L j) (hn' : ∀ j, i ≤ j → ¬ L' j) :
    ∀ t ∈ o.looksAt R.ops, a.tmps[t]? = a'.tmps[t]? := by
  intro t ht
  by_cases hw : ∃ j, R.dst j = some t
  · obtain ⟨j, hj⟩ := hw
    rcases ok_slots hok ho ht hj with ⟨h1, _⟩ | ⟨h1, h2⟩
    · obtain ⟨l1, l2, e⟩ := hd j h1
      by_cases hs : t < a0.tmps.size
      · rw [h.hit j t hj l1 hs, h'.hit j t hj l2 hs, e]
      · have s1 := h.size
        have s2 := h'.size
        have hs' : a0.tmps.size ≤ t := Nat.le_of_not_lt hs
        rw [Array.getElem?_eq_none (Nat.le_trans (Nat.le_of_eq s1) hs'), Array.getElem?_eq_none (Nat.le_trans (Nat.le_of_eq s2) hs')]
    · have e : ∀ k, R.dst k = some t → k = j := fun k hk => ok_uniq hok hk hj
      rw [h.miss t fun k hk => by rw [e k hk]; exact hn j h2, h'.miss t fun k hk => by rw [e k hk]; exact hn' j h1]
  · have hm : ∀ j, R.dst j = some t → False := fun j hj => hw ⟨j, hj⟩
    rw [h.miss t fun j hj => (hm j hj).elim, h'.miss t fun j hj => (hm j hj).elim]

theorem eval_same {a a' : Act} {o : Oper} (h : ∀ t ∈ o.looksAt R.ops, a.tmps[t]? = a'.tmps[t]?) (hs : ∀ cs b, o.op ≠ .select cs b) : execOp a.eval o = execOp a'.eval o :=
  execOp_congr o hs fun x hx => by
    cases x with
    | tmp t =>
      have := h t (List.mem_append_left _ (List.mem_filterMap.2 ⟨.tmp t, by simpa using hx, rfl⟩))
      simp [Act.eval, this]
    | _ => rfl
theorem wanted_same {a a' : Act} {o : Oper} (h : ∀ t ∈ o.looksAt R.ops, a.tmps[t]? = a'.tmps[t]?) : Region.wanted o (yielded R.ops a.tmps) = Region.wanted o (yielded R.ops a'.tmps) := by
  unfold Region.wanted
  cases hg : o.guard with
  | none => rfl
  | some gw =>
    obtain ⟨g, want⟩ := gw
    have : yielded R.ops a.tmps g = yielded R.ops a'.tmps g := by
      unfold yielded
      cases ht : (R.ops[g]?).bind (·.dst) with
      | none => rfl
      | some t =>
        have := h t (by unfold Oper.looksAt; rw [hg]; exact List.mem_append_right _ (by simp [ht]))
        simp [this]
    simp only [this]

/-- An operation, shown in one frame, holds in another in which it looks at the same. -/
theorem wp_same {o : Oper} {a a' : Act} {w : World} {T : Value → World → Prop} {Q' : Exit → Act → World → Prop} (he : execOp a'.eval o = execOp a.eval o) (hdst : ∃ d, o.dst = some d ∧ d < a.tmps.size) (h : o.wp P a w (fun b w' => ∃ v, b = a.put o.dst v ∧ T v w') NoQ)
    (K : Act → World → Prop) (hK : ∀ v w', T v w' → K (a'.put o.dst v) w') : o.wp P a' w K Q' := by
  have hinj : ∀ v v' w', T v w' → a.put o.dst v = a.put o.dst v' → T v' w' := by
    obtain ⟨d, hd, hlt⟩ := hdst
    intro v v' w' ht he
    have := congrArg (fun b : Act => b.tmps[d]?) he
    simp [Act.put, hd, hlt] at this
    rw [← this]; exact ht
  unfold Oper.wp at *
  rw [he]
  generalize (execOp a.eval o).run P w = r at *
  cases r with
  | ok n w' =>
    cases n <;> simp only [Oper.upon] at h ⊢
    case value u => obtain ⟨v, e, ht⟩ := h; exact hK _ _ (hinj _ _ _ ht e.symm)
    case skip => obtain ⟨v, e, ht⟩ := h; exact hK _ _ (hinj _ _ _ ht e.symm)
    case defer d =>
      obtain ⟨v, e, ht⟩ := h
      have e2 := congrArg Act.defers e
      cases hd : o.dst <;> simp [Act.put, hd] at e2
    case enter f args =>
      refine Calls.mono h fun e w'' he => ?_
      cases e with
      | returned u => obtain ⟨v, e, ht⟩ := he; exact hK _ _ (hinj _ _ _ ht e.symm)
      | panicked c => exact he.elim
      | outgrown => obtain ⟨_, _, hh⟩ := he; exact hh.elim
    case row row args => exact Rows.mono h fun u w'' he => by obtain ⟨v, e, ht⟩ := he; exact hK _ _ (hinj _ _ _ ht e.symm)
  | halt x w' =>
    cases x <;> simp only [Oper.upon] at h ⊢
    case panic u => exact h.elim

/-- The same for a store. -/
theorem wp_sameN {o : Oper} {a a' : Act} {w : World} {T : World → Prop} {Q' : Exit → Act → World → Prop} (he : execOp a'.eval o = execOp a.eval o) (hdst : o.dst = none) (h : o.wp P a w (fun b w' => b = a ∧ T w') NoQ)
    (K : Act → World → Prop) (hK : ∀ w', T w' → K a' w') : o.wp P a' w K Q' := by
  have hp : ∀ (b : Act) v, b.put o.dst v = b := fun b v => by rw [hdst]; rfl
  unfold Oper.wp at *
  rw [he]
  generalize (execOp a.eval o).run P w = r at *
  cases r with
  | ok n w' =>
    cases n <;> simp only [Oper.upon, hp] at h ⊢
    case value u => exact hK _ h.2
    case skip => exact hK _ h.2
    case defer d =>
      have e2 := congrArg Act.defers h.1
      simp at e2
    case enter f args =>
      refine Calls.mono h fun e w'' he => ?_
      cases e with
      | returned u => exact hK _ he.2
      | panicked c => exact he.elim
      | outgrown => obtain ⟨_, _, hh⟩ := he; exact hh.elim
    case row row args => exact Rows.mono h fun u w'' he => hK _ he.2
  | halt x w' =>
    cases x <;> simp only [Oper.upon] at h ⊢
    case panic u => exact h.elim

/-- The text's own frame in front of operation i. -/
def pre (R : Plan) (a0 : Act) (vals : Nat → Value) : Nat → Act
  | 0 => a0
  | i + 1 => (pre R a0 vals i).put (R.dst i) (vals i)
theorem pre_frame (hok : R.ok = true) (vals : Nat → Value) : ∀ i, Frame R a0 (fun j => j < i) vals (pre R a0 vals i)
  | 0 => (Frame.start vals).congr (fun j => by simp) (fun j h => h.elim)
  | i + 1 => ((pre_frame hok vals i).put hok i (vals i) (by simp)).congr (fun j => by omega) (fun j h => by simp only [Plan.put]; split <;> simp_all)
theorem pre_congr {vals vals' : Nat → Value} : ∀ i, (∀ j, j < i → vals j = vals' j) → pre R a0 vals i = pre R a0 vals' i
  | 0, _ => rfl
  | i + 1, h => by simp only [pre]; rw [pre_congr i fun j hj => h j (by omega), h i (by omega)]

theorem Facts.congr {i : Nat} {vals vals' : Nat → Value} {F : Nat → Nat → Prop} {w : World} (h : R.Facts Φ i vals F w) (e : ∀ j, (R.deps i).contains j = true → vals j = vals' j) : R.Facts Φ i vals' F w :=
  fun j h1 h2 h3 => by rw [← e j h1]; exact h j h1 h2 h3

/-- What is kept of an operation whose value is determined: a world in which it has run. -/
def Record (R : Plan) (P : Program) (B : Nat) (w0 : World) (Φ : Nat → Value → (Nat → Prop) → World → Prop) (a0 : Act) (vals : Nat → Value) (i : Nat) : Prop :=
  ∃ o F w, R.ops[i]? = some o ∧ Below B w0 w ∧ R.Facts Φ i vals F w ∧ (execOp (pre R a0 vals i).eval o).run P w = .ok (.value (vals i)) w

/-- What holds while the region runs: L has run. -/
structure Inv (R : Plan) (P : Program) (B : Nat) (w0 : World) (Φ : Nat → Value → (Nat → Prop) → World → Prop) (Ψ : Nat → Value → Prop) (a0 : Act) (L : Nat → Prop) (vals : Nat → Value) (F : Nat → Nat → Prop) (a : Act) (w : World) : Prop where
  frame : Frame R a0 L vals a
  below : Below B w0 w
  closed : ∀ i j, L i → (R.deps i).contains j = true → L j
  facts : ∀ j, L j → (R.kinds j).isNew = true → (∀ i, R.cons j = some i → ¬ L i) → Φ j (vals j) (F j) w
  foot : ∀ j, L j → (R.kinds j).isNew = true → ∀ k, F j k → k < B ∨ k < w.heap.size
  apart : ∀ i j, L i → L j → (R.kinds i).isNew = true → (R.kinds j).isNew = true → i ≠ j → (∀ x, R.cons i = some x → ¬ L x) → (∀ x, R.cons j = some x → ¬ L x) → ∀ k, F i k → F j k → k < B
  det : ∀ i, L i → R.kinds i = .det → Record R P B w0 Φ a0 vals i
  skip : ∀ i, L i → R.kinds i = .skip → vals i = undef
  pure : ∀ i, L i → (R.kinds i).isNew = true → Ψ i (vals i)
  res : ∀ j, L j → (R.kinds j).isNew = true → (∀ x, R.cons j = some x → ¬ L x) → ∀ i, ¬ L i → ∀ k, F j k → R.own i k → k < B
  held : ∀ i, ¬ L i → ∀ k, R.own i k → w.heap[k]? = w0.heap[k]?
  link : ∀ i c, L i → i < R.ops.size → R.kinds i = .st c → vals i = R.linkV vals i

/-- From the text's own order: at operation i, with the values that are there already. -/
theorem reach (hok : R.ok = true) (h0 : R.Runs P Q B w0 Φ Ψ 0 R.ops.toList a0 (fun _ => undef)) {L : Nat → Prop} {vals : Nat → Value} (hcl : ∀ i j, L i → (R.deps i).contains j = true → L j)
    (hdet : ∀ i, L i → R.kinds i = .det → Record R P B w0 Φ a0 vals i) (hskip : ∀ i, L i → R.kinds i = .skip → vals i = undef) (hpure : ∀ i, L i → (R.kinds i).isNew = true → Ψ i (vals i)) (hlink : ∀ i c, L i → i < R.ops.size → R.kinds i = .st c → vals i = R.linkV vals i) (hne : ∀ i, ∃ v, Ψ i v) :
    ∀ i, i ≤ R.ops.size → (∀ j, j < i → R.kinds j ≠ .fin) → ∃ vals' V, (∀ j, L j → vals' j = vals j) ∧ (∀ j, j < i → V j = vals' j) ∧ R.Runs P Q B w0 Φ Ψ i (R.ops.toList.drop i) (pre R a0 vals' i) V := by
  intro i
  induction i with
  | zero => exact fun _ _ => ⟨vals, fun _ => undef, fun _ _ => rfl, fun j hj => by omega, by simpa [pre] using h0⟩
  | succ i ih =>
    intro hi hf
    obtain ⟨vals', V, e1, e2, h⟩ := ih (by omega) (fun j hj => hf j (by omega))
    have hlt : i < R.ops.size := by omega
    have hdrop : R.ops.toList.drop i = R.ops[i] :: R.ops.toList.drop (i + 1) := by
      rw [List.drop_eq_getElem_cons (by simpa using hlt)]; simp
    have hg : R.ops[i]? = some R.ops[i] := by simp [hlt]
    have hd : R.dst i = R.ops[i].dst := by simp [dst, hg]
    rw [hdrop] at h
    simp only [Runs] at h
    have fin : ∀ v, (L i → v = vals i) → R.Runs P Q B w0 Φ Ψ (i + 1) (R.ops.toList.drop (i + 1)) ((pre R a0 vals' i).put R.ops[i].dst v) (Plan.put V i v) →
        ∃ vals' V, (∀ j, L j → vals' j = vals j) ∧ (∀ j, j < i + 1 → V j = vals' j) ∧ R.Runs P Q B w0 Φ Ψ (i + 1) (R.ops.toList.drop (i + 1)) (pre R a0 vals' (i + 1)) V := by
      intro v hv hr
      refine ⟨Plan.put vals' i v, Plan.put V i v, fun j hj => ?_, fun j hj => ?_, ?_⟩
      · by_cases hji : j = i
        · subst hji; simp [Plan.put, hv hj]
        · simp [Plan.put, hji, e1 j hj]
      · by_cases hji : j = i
        · simp [Plan.put, hji]
        · simp [Plan.put, hji, e2 j (by omega)]
      · simp only [pre]
        have e : pre R a0 (Plan.put vals' i v) i = pre R a0 vals' i := pre_congr i fun j hj => if_neg (Nat.ne_of_lt hj)
        rw [hd, e]
        simpa [Plan.put] using hr
    cases hk : R.kinds i with
    | skip => rw [hk] at h; exact fin _ (fun hl => (hskip i hl hk).symm) h.2
    | det =>
      rw [hk] at h
      obtain ⟨_, v, hv, hr⟩ := h
      refine fin v (fun hl => ?_) hr
      obtain ⟨o, F, w, ho, hb, hfa, hrun⟩ := hdet i hl hk
      obtain rfl : R.ops[i] = o := by rw [hg] at ho; exact Option.some.inj ho
      have dd := (ok_deps hok hg).2
      have hfa' : R.Facts Φ i V F w := hfa.congr fun j hj => by rw [e2 j (dd j hj).1, e1 j (hcl i j hl hj)]
      have hrun' := hv F w hb hfa'
      have same : ∀ t ∈ (R.ops[i]).looksAt R.ops, (pre R a0 vals' i).tmps[t]? = (pre R a0 vals i).tmps[t]? :=
        (pre_frame hok vals' i).same hok (pre_frame hok vals i) hg (fun j hj => ⟨(dd j hj).1, (dd j hj).1, e1 j (hcl i j hl hj)⟩)
          (fun j hj => by
            rcases hj with rfl | hj
            · omega
            · intro hlt'
              have hjl : j < R.ops.size := by omega
              have := ((ok_deps hok (show R.ops[j]? = some R.ops[j] by simp [hjl])).2 i hj).1
              omega) (fun j hj => by omega)
      rw [eval_same (R := R) same (ok_select hok hg)] at hrun'
      rw [hrun] at hrun'
      injection hrun' with h1
      injection h1 with h2
      exact h2.symm
    | new =>
      rw [hk] at h
      by_cases hl : L i
      · exact fin (vals i) (fun _ => rfl) (h.2.2.2 _ (hpure i hl (by rw [hk]; rfl)))
      · obtain ⟨v, hv⟩ := hne i
        exact fin v (fun h' => absurd h' hl) (h.2.2.2 _ hv)
    | upd c =>
      rw [hk] at h
      by_cases hl : L i
      · exact fin (vals i) (fun _ => rfl) (h.2.2.2 _ (hpure i hl (by rw [hk]; rfl)))
      · obtain ⟨v, hv⟩ := hne i
        exact fin v (fun h' => absurd h' hl) (h.2.2.2 _ hv)
    | st c =>
      rw [hk] at h
      obtain ⟨_, hdn, _, _, hr⟩ := h
      have dd := (ok_deps hok hg).2
      refine fin (R.linkV V i) (fun hl => ?_) (by rw [hdn]; exact hr)
      rw [hlink i c hl hlt hk]
      refine link_congr fun j hj => ?_
      have hdj := ok_lnk hok hlt hk hj
      rw [e2 j (dd j hdj).1, e1 j (hcl i j hl hdj)]
    | fin => exact absurd hk (hf i (by omega))

theorem Inv.end (hok : R.ok = true) (hne : ∀ i, ∃ v, Ψ i v) (h0 : R.Runs P Q B w0 Φ Ψ 0 R.ops.toList a0 (fun _ => undef)) {L : Nat → Prop} {vals : Nat → Value} {F : Nat → Nat → Prop} {a : Act} {w : World} (h : Inv R P B w0 Φ Ψ a0 L vals F a w)
    (hall : ∀ j, L j ↔ j < R.ops.size) (hf : ∀ j, j < R.ops.size → R.kinds j ≠ .fin) (hc : ∀ j i, R.cons j = some i → i < R.ops.size ∨ R.ops.size ≤ j) : Q .normal a w := by
  obtain ⟨vals', V, e1, e2, hr⟩ := reach hok h0 h.closed h.det h.skip h.pure h.link hne R.ops.size (Nat.le_refl _) hf
  rw [List.drop_of_length_le (by simp)] at hr
  simp only [Runs] at hr
  have ha : a = pre R a0 vals' R.ops.size := h.frame.unique ((pre_frame hok vals' R.ops.size).congr (fun j => (hall j).symm) (fun j hj => e1 j ((hall j).2 hj)))
  rw [ha]
  refine hr F w h.below ⟨fun j hj hn hcj => ?_, fun i j hi hj hin hjn hci hcj hij k h1 h2 => ?_⟩
  · rw [e2 j hj, e1 j ((hall j).2 hj)]
    exact h.facts j ((hall j).2 hj) hn fun i hi => by rw [hcj] at hi; cases hi
  · exact h.apart i j ((hall i).2 hi) ((hall j).2 hj) hin hjn hij (fun x hx => by rw [hci] at hx; cases hx) (fun x hx => by rw [hcj] at hx; cases hx) k h1 h2

/-- One operation runs. -/
theorem Inv.step (hok : R.ok = true) (hne : ∀ i, ∃ v, Ψ i v) (hst : ∀ j v F w w', Φ j v F w → (∀ k, F k → w'.heap[k]? = w.heap[k]?) → Φ j v F w')
    (h0 : R.Runs P Q B w0 Φ Ψ 0 R.ops.toList a0 (fun _ => undef)) (hB : B ≤ w0.heap.size) (hG1 : ∀ i j k, i ≠ j → R.own i k → R.own j k → False) (hG2 : ∀ i k, R.own i k → k < w0.heap.size) {L : Nat → Prop} {vals : Nat → Value} {F : Nat → Nat → Prop} {a : Act} {w : World} (h : Inv R P B w0 Φ Ψ a0 L vals F a w)
    {i : Nat} (hi : i < R.ops.size) (hL : ¬ L i) (hready : ∀ j, (R.deps i).contains j = true → L j) (hLn : ∀ j, L j → j < R.ops.size) (hf : ∀ j, j < i → R.kinds j ≠ .fin) (hk : R.kinds i ≠ .fin)
    (K : Act → World → Prop) (hK : ∀ vals' F' a' w', Inv R P B w0 Φ Ψ a0 (fun j => L j ∨ j = i) vals' F' a' w' → K a' w') : wpOp P R.ops Q i K a w := by
  obtain ⟨vals', V, e1, e2, hr⟩ := reach hok h0 h.closed h.det h.skip h.pure h.link hne i (by omega) hf
  have hg : R.ops[i]? = some R.ops[i] := by simp [hi]
  have hd : R.dst i = R.ops[i].dst := by simp [dst, hg]
  rw [show R.ops.toList.drop i = R.ops[i] :: R.ops.toList.drop (i + 1) by rw [List.drop_eq_getElem_cons (by simpa using hi)]; simp] at hr
  simp only [Runs] at hr
  have dd := (ok_deps hok hg).2
  have later : ∀ j, (j = i ∨ (R.deps j).contains i = true) → ¬ L j := fun j hj hl => by
    rcases hj with rfl | hj
    · exact hL hl
    · exact hL (h.closed j i hl hj)
  have same : ∀ t ∈ (R.ops[i]).looksAt R.ops, a.tmps[t]? = (pre R a0 vals' i).tmps[t]? :=
    h.frame.same hok (pre_frame hok vals' i) hg (fun j hj => ⟨hready j hj, (dd j hj).1, (e1 j (hready j hj)).symm⟩) later (fun j hj => by omega)
  have sameE := eval_same (R := R) same (ok_select hok hg)
  have sameW := wanted_same (R := R) (o := R.ops[i]) same
  have hfacts : R.Facts Φ i V F w := fun j h1 h2 h3 => by
    rw [e2 j (dd j h1).1, e1 j (hready j h1)]
    refine h.facts j (hready j h1) h2 fun x hx hlx => ?_
    rcases h3 with h3 | h3
    · rw [h3] at hx; cases hx
    · rw [h3] at hx; obtain rfl := Option.some.inj hx; exact hL hlx
  have psize : (pre R a0 vals' i).tmps.size = a.tmps.size := (pre_frame hok vals' i).size.trans h.frame.size.symm
  have closed' : ∀ x j, (L x ∨ x = i) → (R.deps x).contains j = true → (L j ∨ j = i) := fun x j hx hj => by
    rcases hx with hx | rfl
    · exact .inl (h.closed x j hx hj)
    · exact .inl (hready j hj)
  have keepRec : ∀ v, ∀ x, L x → R.kinds x = .det → Record R P B w0 Φ a0 (Plan.put vals i v) x := fun v x hx hkx => by
    obtain ⟨o, F1, w1, ho, hb, hfa, hrun⟩ := h.det x hx hkx
    have hne : ∀ j, L j → j ≠ i := fun j hj e => hL (e ▸ hj)
    have dx := (ok_deps hok ho).2
    refine ⟨o, F1, w1, ho, hb, hfa.congr fun j hj => by simp [Plan.put, hne j (h.closed x j hx hj)], ?_⟩
    have s2 : ∀ t ∈ o.looksAt R.ops, (pre R a0 (Plan.put vals i v) x).tmps[t]? = (pre R a0 vals x).tmps[t]? :=
      (pre_frame hok (Plan.put vals i v) x).same hok (pre_frame hok vals x) ho (fun j hj => ⟨(dx j hj).1, (dx j hj).1, by simp [Plan.put, hne j (h.closed x j hx hj)]⟩)
        (fun j hj => by
          rcases hj with rfl | hj
          · omega
          · intro hlt'
            have hxl := (Array.getElem?_eq_some_iff.1 ho).1
            have hjl : j < R.ops.size := by omega
            have := ((ok_deps hok (show R.ops[j]? = some R.ops[j] by simp [hjl])).2 x hj).1
            omega) (fun j hj => by omega)
    rw [eval_same (R := R) s2 (ok_select hok ho), hrun]
    simp [Plan.put, hne x hx]
  have keepFrame : ∀ v, Frame R a0 (fun j => L j ∨ j = i) (Plan.put vals i v) (a.put R.ops[i].dst v) := fun v => by rw [← hd]; exact h.frame.put hok i v hL
  have keepSkip : ∀ v, ∀ x, L x → R.kinds x = .skip → Plan.put vals i v x = undef := fun v x hx hkx => by
    have : x ≠ i := fun e => hL (e ▸ hx)
    simp [Plan.put, this, h.skip x hx hkx]
  have keepPure : ∀ v, Ψ i v → ∀ x, (L x ∨ x = i) → (R.kinds x).isNew = true → Ψ x (Plan.put vals i v x) := fun v hv x hx hxn => by
    by_cases e : x = i
    · subst e; simpa [Plan.put] using hv
    · have := h.pure x (hx.resolve_right e) hxn
      simpa [Plan.put, e] using this
  have keepLink : ∀ v, (∀ c, R.kinds i = .st c → v = R.linkV vals i) → ∀ x c, (L x ∨ x = i) → x < R.ops.size → R.kinds x = .st c → Plan.put vals i v x = R.linkV (Plan.put vals i v) x := fun v hv x c hx hxs hkx => by
    by_cases e : x = i
    · subst e
      have hd2 : ∀ j ∈ R.lnk x, vals j = Plan.put vals x v j := fun j hj => by
        have hdj := ok_lnk hok hxs hkx hj
        have : j ≠ x := by have := (dd j hdj).1; omega
        simp [Plan.put, this]
      rw [← link_congr hd2, ← hv c hkx]
      simp [Plan.put]
    · have hlx := hx.resolve_right e
      have hd2 : ∀ j ∈ R.lnk x, vals j = Plan.put vals i v j := fun j hj => by
        have hdj := ok_lnk hok hxs hkx hj
        have hlj := h.closed x j hlx hdj
        have : j ≠ i := fun e => hL (e ▸ hlj)
        simp [Plan.put, this]
      rw [← link_congr hd2, ← h.link x c hlx hxs hkx]
      simp [Plan.put, e]
  -- an operation that leaves memory as it is
  have plain : ∀ v, (R.kinds i).isNew = false → (R.kinds i = .det → Record R P B w0 Φ a0 (Plan.put vals i v) i) → (R.kinds i = .skip → v = undef) →
      Inv R P B w0 Φ Ψ a0 (fun j => L j ∨ j = i) (Plan.put vals i v) F (a.put R.ops[i].dst v) w := fun v hn hrec hsk => by
    have ne : ∀ j, (R.kinds j).isNew = true → j ≠ i := fun j hj e => by rw [e, hn] at hj; cases hj
    refine ⟨keepFrame v, h.below, closed', fun j hj hjn hc => ?_, fun j hj hjn => h.foot j (hj.resolve_right (ne j hjn)) hjn, fun x y hx hy hxn hyn hxy cx cy => ?_, fun x hx hkx => ?_, fun x hx hkx => ?_, fun x hx hxn => ?_,
      fun j hj hjn hc y hy k hF hO => h.res j (hj.resolve_right (ne j hjn)) hjn (fun x hx hlx => hc x hx (.inl hlx)) y (fun hl => hy (.inl hl)) k hF hO, fun y hy k hO => h.held y (fun hl => hy (.inl hl)) k hO, keepLink v (fun c hkc => by rw [hkc] at hn; cases hn)⟩
    · have := h.facts j (hj.resolve_right (ne j hjn)) hjn fun x hx hlx => hc x hx (.inl hlx)
      simpa [Plan.put, ne j hjn] using this
    · exact h.apart x y (hx.resolve_right (ne x hxn)) (hy.resolve_right (ne y hyn)) hxn hyn hxy (fun z hz hlz => cx z hz (.inl hlz)) (fun z hz hlz => cy z hz (.inl hlz))
    · by_cases e : x = i
      · subst e; exact hrec hkx
      · exact keepRec v x (hx.resolve_right e) hkx
    · by_cases e : x = i
      · subst e; simp [Plan.put, hsk hkx]
      · exact keepSkip v x (hx.resolve_right e) hkx
    · have := h.pure x (hx.resolve_right (ne x hxn)) hxn
      simpa [Plan.put, ne x hxn] using this
  unfold wpOp
  rw [hg]
  simp only
  cases hki : R.kinds i with
  | fin => exact absurd hki hk
  | skip =>
    rw [hki] at hr
    rw [sameW, hr.1]
    simp only [Bool.false_eq_true, if_false]
    exact hK _ _ _ _ (plain undef (by rw [hki]; rfl) (by rw [hki]; intro h; cases h) (fun _ => rfl))
  | det =>
    rw [hki] at hr
    obtain ⟨hw, v, hv, _⟩ := hr
    rw [sameW, hw]
    simp only [if_true]
    refine .inl ?_
    have hrun := hv F w h.below hfacts
    unfold Oper.wp
    rw [sameE, hrun]
    refine hK _ _ _ _ (plain v (by rw [hki]; rfl) (fun _ => ?_) (by rw [hki]; intro h; cases h))
    refine ⟨R.ops[i], F, w, hg, h.below, ?_, ?_⟩
    · refine hfacts.congr fun j hj => ?_
      have : j ≠ i := by have := (dd j hj).1; omega
      rw [e2 j (dd j hj).1, e1 j (hready j hj)]
      simp [Plan.put, this]
    · have e : pre R a0 (Plan.put vals i v) i = pre R a0 vals i := pre_congr i fun j hj => if_neg (Nat.ne_of_lt hj)
      have s2 : ∀ t ∈ (R.ops[i]).looksAt R.ops, (pre R a0 vals i).tmps[t]? = a.tmps[t]? := fun t ht =>
        (h.frame.same hok (pre_frame hok vals i) hg (fun j hj => ⟨hready j hj, (dd j hj).1, rfl⟩) later (fun j hj => by omega) t ht).symm
      rw [e, eval_same (R := R) s2 (ok_select hok hg), sameE, hrun]
      simp [Plan.put]
  | new =>
    rw [hki] at hr
    obtain ⟨hw, hdst, hwp, _⟩ := hr
    rw [sameW, hw]
    simp only [if_true]
    refine .inl ?_
    have h1 := hwp F w h.below (h.held i hL) hfacts
    refine wp_same (T := fun v w' => ∃ F', Ψ i v ∧ Below w.heap.size w w' ∧ Φ i v F' w' ∧ ∀ k, F' k → k < B ∨ R.own i k ∨ (w.heap.size ≤ k ∧ k < w'.heap.size)) sameE hdst (Oper.wp_mono (fun b w' hb => ?_) h1) K fun v w' hT => ?_
    · obtain ⟨v, F', e, r⟩ := hb; exact ⟨v, e, F', r⟩
    · obtain ⟨F', hpsi, hbel, hphi, hfoot⟩ := hT
      have hsz := hbel.size
      have hBw : B ≤ w.heap.size := Nat.le_trans hB h.below.size
      have hw0 := h.below.size
      refine hK (Plan.put vals i v) (fun j => if j = i then F' else F j) _ _ ⟨keepFrame v, h.below.trans (hbel.mono hBw), closed', fun j hj hjn hc => ?_, fun j hj hjn k hF => ?_, fun x y hx hy hxn hyn hxy cx cy k hx1 hy1 => ?_, fun x hx hkx => ?_, fun x hx hkx => ?_, keepPure v hpsi, fun j hj hjn hc y hy k hF hO => ?_, fun y hy k hO => ?_, keepLink v (fun c' hkc => by rw [hki] at hkc; cases hkc)⟩
      · by_cases e : j = i
        · subst e; simpa [Plan.put] using hphi
        · have hlj := hj.resolve_right e
          have := hst j _ (F j) w w' (h.facts j hlj hjn fun x hx hlx => hc x hx (.inl hlx)) fun k hkF => hbel.block k (by rcases h.foot j hlj hjn k hkF with h | h <;> omega)
          simpa [Plan.put, e] using this
      · by_cases e : j = i
        · simp only [e, if_true] at hF
          rcases hfoot k hF with h | h | h
          · omega
          · have := hG2 i k h; omega
          · omega
        · simp only [e, if_false] at hF
          rcases h.foot j (hj.resolve_right e) hjn k hF with h | h <;> omega
      · by_cases ex : x = i
        · by_cases ey : y = i
          · exact absurd (ex.trans ey.symm) hxy
          · simp only [ex, if_true] at hx1
            simp only [ey, if_false] at hy1
            rcases hfoot k hx1 with h2 | h2 | h2
            · exact h2
            · exact h.res y (hy.resolve_right ey) hyn (fun z hz hlz => cy z hz (.inl hlz)) i hL k hy1 h2
            · rcases h.foot y (hy.resolve_right ey) hyn k hy1 with h3 | h3
              · exact h3
              · omega
        · simp only [ex, if_false] at hx1
          by_cases ey : y = i
          · simp only [ey, if_true] at hy1
            rcases hfoot k hy1 with h2 | h2 | h2
            · exact h2
            · exact h.res x (hx.resolve_right ex) hxn (fun z hz hlz => cx z hz (.inl hlz)) i hL k hx1 h2
            · rcases h.foot x (hx.resolve_right ex) hxn k hx1 with h3 | h3
              · exact h3
              · omega
          · simp only [ey, if_false] at hy1
            exact h.apart x y (hx.resolve_right ex) (hy.resolve_right ey) hxn hyn hxy (fun z hz hlz => cx z hz (.inl hlz)) (fun z hz hlz => cy z hz (.inl hlz)) k hx1 hy1
      · have e : x ≠ i := fun e => by rw [e, hki] at hkx; cases hkx
        exact keepRec v x (hx.resolve_right e) hkx
      · have e : x ≠ i := fun e => by rw [e, hki] at hkx; cases hkx
        exact keepSkip v x (hx.resolve_right e) hkx
      · by_cases e : j = i
        · simp only [e, if_true] at hF
          rcases hfoot k hF with h2 | h2 | h2
          · exact h2
          · exact (hG1 i y k (fun e => hy (.inr e.symm)) h2 hO).elim
          · have := hG2 y k hO; omega
        · simp only [e, if_false] at hF
          exact h.res j (hj.resolve_right e) hjn (fun x hx hlx => hc x hx (.inl hlx)) y (fun hl => hy (.inl hl)) k hF hO
      · have := hG2 y k hO
        exact (hbel.block k (by omega)).trans (h.held y (fun hl => hy (.inl hl)) k hO)
  | upd c =>
    rw [hki] at hr
    obtain ⟨hw, hdst, hwp, _⟩ := hr
    rw [sameW, hw]
    simp only [if_true]
    refine .inl ?_
    have h1 := hwp F w h.below hfacts
    obtain ⟨hcons, hcdep⟩ := ok_cons hok hi hki
    have hlc := hready c hcdep
    have hci : c ≠ i := by have := (dd c hcdep).1; omega
    refine wp_same (T := fun v w' => ∃ F', Ψ i v ∧ Below B w w' ∧ (∀ k, k < w.heap.size → ¬ (F c k ∧ B ≤ k) → w'.heap[k]? = w.heap[k]?) ∧ Φ i v F' w' ∧ ∀ k, F' k → k < B ∨ F c k ∨ (w.heap.size ≤ k ∧ k < w'.heap.size)) sameE hdst (Oper.wp_mono (fun b w' hb => ?_) h1) K fun v w' hT => ?_
    · obtain ⟨v, F', e, r⟩ := hb; exact ⟨v, e, F', r⟩
    · obtain ⟨F', hpsi, hbel, hblk, hphi, hfoot⟩ := hT
      have hsz := hbel.size
      have hcnew : (R.kinds c).isNew = true ∨ (R.kinds c).isNew = false := by cases (R.kinds c).isNew <;> simp
      have cnot : ∀ x, R.cons c = some x → ¬ L x := fun x hx => by rw [hcons] at hx; obtain rfl := Option.some.inj hx; exact hL
      -- c's row is apart from all that lives on
      have hap : ∀ j, L j → (R.kinds j).isNew = true → (∀ x, R.cons j = some x → ¬ (L x ∨ x = i)) → ∀ k, F j k → ¬ ((R.kinds c).isNew = true ∧ F c k ∧ B ≤ k) := fun j hj hjn hjc k hkF ⟨hcn, hkc, hkB⟩ => by
        have hjne : j ≠ c := fun e => hjc i (by rw [e]; exact hcons) (.inr rfl)
        have := h.apart j c hj hlc hjn hcn hjne (fun z hz hlz => hjc z hz (.inl hlz)) cnot k hkF hkc
        omega
      rcases hcnew with hcn | hcn
      · have hw0 := h.below.size
        refine hK (Plan.put vals i v) (fun j => if j = i then F' else F j) _ _ ⟨keepFrame v, h.below.trans hbel, closed', fun j hj hjn hc => ?_, fun j hj hjn k hF => ?_, fun x y hx hy hxn hyn hxy cx cy k hx1 hy1 => ?_, fun x hx hkx => ?_, fun x hx hkx => ?_, keepPure v hpsi, fun j hj hjn hc y hy k hF hO => ?_, fun y hy k hO => ?_, keepLink v (fun c' hkc => by rw [hki] at hkc; cases hkc)⟩
        · by_cases e : j = i
          · subst e; simpa [Plan.put] using hphi
          · have hlj := hj.resolve_right e
            have := hst j _ (F j) w w' (h.facts j hlj hjn fun x hx hlx => hc x hx (.inl hlx)) fun k hkF => by
              by_cases hkB : k < B
              · exact hbel.block k hkB
              · refine hblk k (by rcases h.foot j hlj hjn k hkF with h | h <;> omega) fun hx => ?_
                exact hap j hlj hjn hc k hkF ⟨hcn, hx.1, hx.2⟩
            simpa [Plan.put, e] using this
        · by_cases e : j = i
          · simp only [e, if_true] at hF
            rcases hfoot k hF with h2 | h2 | h2
            · omega
            · rcases h.foot c hlc hcn k h2 with h3 | h3 <;> omega
            · omega
          · simp only [e, if_false] at hF
            rcases h.foot j (hj.resolve_right e) hjn k hF with h | h <;> omega
        · by_cases ex : x = i
          · by_cases ey : y = i
            · exact absurd (ex.trans ey.symm) hxy
            · simp only [ex, if_true] at hx1
              simp only [ey, if_false] at hy1
              rcases hfoot k hx1 with h2 | h2 | h2
              · exact h2
              · exact Nat.lt_of_not_le fun hkB => hap y (hy.resolve_right ey) hyn cy k hy1 ⟨hcn, h2, hkB⟩
              · rcases h.foot y (hy.resolve_right ey) hyn k hy1 with h3 | h3
                · exact h3
                · omega
          · simp only [ex, if_false] at hx1
            by_cases ey : y = i
            · simp only [ey, if_true] at hy1
              rcases hfoot k hy1 with h2 | h2 | h2
              · exact h2
              · exact Nat.lt_of_not_le fun hkB => hap x (hx.resolve_right ex) hxn cx k hx1 ⟨hcn, h2, hkB⟩
              · rcases h.foot x (hx.resolve_right ex) hxn k hx1 with h3 | h3
                · exact h3
                · omega
            · simp only [ey, if_false] at hy1
              exact h.apart x y (hx.resolve_right ex) (hy.resolve_right ey) hxn hyn hxy (fun z hz hlz => cx z hz (.inl hlz)) (fun z hz hlz => cy z hz (.inl hlz)) k hx1 hy1
        · have e : x ≠ i := fun e => by rw [e, hki] at hkx; cases hkx
          exact keepRec v x (hx.resolve_right e) hkx
        · have e : x ≠ i := fun e => by rw [e, hki] at hkx; cases hkx
          exact keepSkip v x (hx.resolve_right e) hkx
        · by_cases e : j = i
          · simp only [e, if_true] at hF
            rcases hfoot k hF with h2 | h2 | h2
            · exact h2
            · exact h.res c hlc hcn cnot y (fun hl => hy (.inl hl)) k h2 hO
            · have := hG2 y k hO; omega
          · simp only [e, if_false] at hF
            exact h.res j (hj.resolve_right e) hjn (fun x hx hlx => hc x hx (.inl hlx)) y (fun hl => hy (.inl hl)) k hF hO
        · have hk2 := hG2 y k hO
          refine Eq.trans ?_ (h.held y (fun hl => hy (.inl hl)) k hO)
          by_cases hkB : k < B
          · exact hbel.block k hkB
          · refine hblk k (by omega) fun hx => ?_
            have := h.res c hlc hcn cnot y (fun hl => hy (.inl hl)) k hx.1 hO
            omega
      · exact (hcons_new hok hi hki hcn).elim
  | st c =>
    rw [hki] at hr
    obtain ⟨hw, hdst, hpsi0, hwp, _⟩ := hr
    have hlv : R.linkV V i = R.linkV vals i := link_congr fun j hj => by rw [e2 j (dd j (ok_lnk hok hi hki hj)).1, e1 j (hready j (ok_lnk hok hi hki hj))]
    rw [hlv] at hpsi0 hwp
    rw [sameW, hw]
    simp only [if_true]
    refine .inl ?_
    have h1 := hwp F w h.below hfacts
    obtain ⟨hcons, hcdep, hcn0⟩ := ok_st hok hi hki
    have hlc := hready c hcdep
    have hci : c ≠ i := by have := (dd c hcdep).1; omega
    refine wp_sameN (T := fun w' => ∃ F', Below B w w' ∧ (∀ k, k < w.heap.size → ¬ (F c k ∧ B ≤ k) → w'.heap[k]? = w.heap[k]?) ∧ Φ i (R.linkV vals i) F' w' ∧ ∀ k, F' k → k < B ∨ F c k ∨ (w.heap.size ≤ k ∧ k < w'.heap.size)) sameE hdst h1 K fun w' hT => ?_
    · obtain ⟨F', hbel, hblk, hphi, hfoot⟩ := hT
      have hpa : a.put R.ops[i].dst (R.linkV vals i) = a := by rw [hdst]; rfl
      rw [← hpa]
      have hsz := hbel.size
      have hcnew : (R.kinds c).isNew = true ∨ (R.kinds c).isNew = false := by cases (R.kinds c).isNew <;> simp
      have cnot : ∀ x, R.cons c = some x → ¬ L x := fun x hx => by rw [hcons] at hx; obtain rfl := Option.some.inj hx; exact hL
      -- c's row is apart from all that lives on
      have hap : ∀ j, L j → (R.kinds j).isNew = true → (∀ x, R.cons j = some x → ¬ (L x ∨ x = i)) → ∀ k, F j k → ¬ ((R.kinds c).isNew = true ∧ F c k ∧ B ≤ k) := fun j hj hjn hjc k hkF ⟨hcn, hkc, hkB⟩ => by
        have hjne : j ≠ c := fun e => hjc i (by rw [e]; exact hcons) (.inr rfl)
        have := h.apart j c hj hlc hjn hcn hjne (fun z hz hlz => hjc z hz (.inl hlz)) cnot k hkF hkc
        omega
      rcases hcnew with hcn | hcn
      · have hw0 := h.below.size
        refine hK (Plan.put vals i (R.linkV vals i)) (fun j => if j = i then F' else F j) _ _ ⟨keepFrame _, h.below.trans hbel, closed', fun j hj hjn hc => ?_, fun j hj hjn k hF => ?_, fun x y hx hy hxn hyn hxy cx cy k hx1 hy1 => ?_, fun x hx hkx => ?_, fun x hx hkx => ?_, keepPure _ hpsi0, fun j hj hjn hc y hy k hF hO => ?_, fun y hy k hO => ?_, keepLink _ (fun _ _ => rfl)⟩
        · by_cases e : j = i
          · subst e; simpa [Plan.put] using hphi
          · have hlj := hj.resolve_right e
            have := hst j _ (F j) w w' (h.facts j hlj hjn fun x hx hlx => hc x hx (.inl hlx)) fun k hkF => by
              by_cases hkB : k < B
              · exact hbel.block k hkB
              · refine hblk k (by rcases h.foot j hlj hjn k hkF with h | h <;> omega) fun hx => ?_
                exact hap j hlj hjn hc k hkF ⟨hcn, hx.1, hx.2⟩
            simpa [Plan.put, e] using this
        · by_cases e : j = i
          · simp only [e, if_true] at hF
            rcases hfoot k hF with h2 | h2 | h2
            · omega
            · rcases h.foot c hlc hcn k h2 with h3 | h3 <;> omega
            · omega
          · simp only [e, if_false] at hF
            rcases h.foot j (hj.resolve_right e) hjn k hF with h | h <;> omega
        · by_cases ex : x = i
          · by_cases ey : y = i
            · exact absurd (ex.trans ey.symm) hxy
            · simp only [ex, if_true] at hx1
              simp only [ey, if_false] at hy1
              rcases hfoot k hx1 with h2 | h2 | h2
              · exact h2
              · exact Nat.lt_of_not_le fun hkB => hap y (hy.resolve_right ey) hyn cy k hy1 ⟨hcn, h2, hkB⟩
              · rcases h.foot y (hy.resolve_right ey) hyn k hy1 with h3 | h3
                · exact h3
                · omega
          · simp only [ex, if_false] at hx1
            by_cases ey : y = i
            · simp only [ey, if_true] at hy1
              rcases hfoot k hy1 with h2 | h2 | h2
              · exact h2
              · exact Nat.lt_of_not_le fun hkB => hap x (hx.resolve_right ex) hxn cx k hx1 ⟨hcn, h2, hkB⟩
              · rcases h.foot x (hx.resolve_right ex) hxn k hx1 with h3 | h3
                · exact h3
                · omega
            · simp only [ey, if_false] at hy1
              exact h.apart x y (hx.resolve_right ex) (hy.resolve_right ey) hxn hyn hxy (fun z hz hlz => cx z hz (.inl hlz)) (fun z hz hlz => cy z hz (.inl hlz)) k hx1 hy1
        · have e : x ≠ i := fun e => by rw [e, hki] at hkx; cases hkx
          exact keepRec _ x (hx.resolve_right e) hkx
        · have e : x ≠ i := fun e => by rw [e, hki] at hkx; cases hkx
          exact keepSkip _ x (hx.resolve_right e) hkx
        · by_cases e : j = i
          · simp only [e, if_true] at hF
            rcases hfoot k hF with h2 | h2 | h2
            · exact h2
            · exact h.res c hlc hcn cnot y (fun hl => hy (.inl hl)) k h2 hO
            · have := hG2 y k hO; omega
          · simp only [e, if_false] at hF
            exact h.res j (hj.resolve_right e) hjn (fun x hx hlx => hc x hx (.inl hlx)) y (fun hl => hy (.inl hl)) k hF hO
        · have hk2 := hG2 y k hO
          refine Eq.trans ?_ (h.held y (fun hl => hy (.inl hl)) k hO)
          by_cases hkB : k < B
          · exact hbel.block k hkB
          · refine hblk k (by omega) fun hx => ?_
            have := h.res c hlc hcn cnot y (fun hl => hy (.inl hl)) k hx.1 hO
            omega
      · rw [hcn0] at hcn; cases hcn

theorem filter_le (l : List Nat) (p q : Nat → Bool) (h : ∀ x, q x = true → p x = true) : (l.filter q).length ≤ (l.filter p).length := by
  induction l with
  | nil => simp
  | cons x l ih =>
    cases hq : q x with
    | true => simp [List.filter_cons, hq, h x hq, ih]
    | false =>
      cases hp : p x <;> simp [List.filter_cons, hq, hp] <;> omega
theorem filter_lt (l : List Nat) (p q : Nat → Bool) (h : ∀ x, q x = true → p x = true) {i : Nat} (hi : i ∈ l) (h1 : p i = true) (h2 : q i = false) : (l.filter q).length < (l.filter p).length := by
  induction l with
  | nil => cases hi
  | cons x l ih =>
    have hle := filter_le l p q h
    cases hi with
    | head => simp [List.filter_cons, h1, h2]; omega
    | tail _ hi =>
      have := ih hi
      cases hq : q x with
      | true => simp [List.filter_cons, hq, h x hq, this]
      | false => cases hp : p x <;> simp [List.filter_cons, hq, hp] <;> omega

def left (R : Plan) (listed : Array Bool) : Nat := ((List.range R.ops.size).filter fun j => !listed.getD j false).length

theorem all_listed (hok : R.ok = true) {listed : Array Bool} (hs : listed.size = R.ops.size) (hr : Region.ready .any R.ops listed = []) : ∀ j, j < R.ops.size → listed.getD j false = true := by
  intro j
  induction j using Nat.strongRecOn with
  | _ j ih =>
    intro hj
    cases hl : listed.getD j false with
    | true => rfl
    | false =>
      have hg : R.ops[j]? = some R.ops[j] := by simp [hj]
      have : j ∈ Region.ready .any R.ops listed := mem_ready.2 ⟨by simp [hs, hj] at hl ⊢; exact hl, _, hg, fun e he hb => ih e.on ((ok_deps hok hg).1 e he hb) (by have := (ok_deps hok hg).1 e he hb; omega)⟩
      rw [hr] at this
      cases this

theorem sound (hok : R.ok = true) (hne : ∀ i, ∃ v, Ψ i v) (hst : ∀ j v F w w', Φ j v F w → (∀ k, F k → w'.heap[k]? = w.heap[k]?) → Φ j v F w') (hcons : ∀ j, j < R.ops.size → ∀ i, R.cons j = some i → i < R.ops.size)
    (h0 : R.Runs P Q B w0 Φ Ψ 0 R.ops.toList a0 (fun _ => undef)) (hB : B ≤ w0.heap.size) (hG1 : ∀ i j k, i ≠ j → R.own i k → R.own j k → False) (hG2 : ∀ i k, R.own i k → k < w0.heap.size) :
    ∀ (fuel : Nat) (listed : Array Bool) (vals : Nat → Value) (F : Nat → Nat → Prop) (a : Act) (w : World), listed.size = R.ops.size → R.left listed ≤ fuel →
      Inv R P B w0 Φ Ψ a0 (fun j => listed.getD j false = true) vals F a w → (∀ j, j < R.ops.size → R.kinds j = .fin → listed.getD j false = false) → wpAny P .any R.ops Q fuel listed a w := by
  have lt_of : ∀ {listed : Array Bool} {j : Nat}, listed.size = R.ops.size → listed.getD j false = true → j < R.ops.size := fun {listed j} hs h => by
    rcases Nat.lt_or_ge j listed.size with h' | h'
    · omega
    · simp [Array.getElem?_eq_none h'] at h
  have done : ∀ (listed : Array Bool) (vals : Nat → Value) (F : Nat → Nat → Prop) (a : Act) (w : World), listed.size = R.ops.size → Region.ready .any R.ops listed = [] →
      Inv R P B w0 Φ Ψ a0 (fun j => listed.getD j false = true) vals F a w → (∀ j, j < R.ops.size → R.kinds j = .fin → listed.getD j false = false) → Q .normal a w := fun listed vals F a w hs hr hinv hfin => by
    have hall := all_listed hok hs hr
    exact hinv.end hok hne h0 (fun j => ⟨fun h => lt_of hs h, fun h => hall j h⟩) (fun j hj hk => by have := hfin j hj hk; rw [hall j hj] at this; cases this)
      (fun j i hi => by
        rcases Nat.lt_or_ge j R.ops.size with h | h
        · exact .inl (hcons j h i hi)
        · exact .inr h)
  intro fuel
  induction fuel with
  | zero =>
    intro listed vals F a w hs hl hinv hfin
    have hr : Region.ready .any R.ops listed = [] := by
      cases hr : Region.ready .any R.ops listed with
      | nil => rfl
      | cons i l =>
        have hi : i ∈ Region.ready .any R.ops listed := by rw [hr]; exact List.mem_cons_self
        obtain ⟨h1, o, ho, _⟩ := mem_ready.1 hi
        have hlt := (Array.getElem?_eq_some_iff.1 ho).1
        have : 0 < R.left listed := by
          unfold left
          refine List.length_pos_of_mem (a := i) (List.mem_filter.2 ⟨List.mem_range.2 hlt, ?_⟩)
          simp [hs, hlt] at h1 ⊢; exact h1
        omega
    exact ⟨hr, done listed vals F a w hs hr hinv hfin⟩
  | succ fuel ih =>
    intro listed vals F a w hs hl hinv hfin
    refine ⟨fun hr => done listed vals F a w hs hr hinv hfin, fun i hi => ?_⟩
    obtain ⟨h1, o, ho, hall⟩ := mem_ready.1 hi
    have hlt := (Array.getElem?_eq_some_iff.1 ho).1
    have hli : listed.getD i false = false := by simp [hs, hlt] at h1 ⊢; exact h1
    have hset : ∀ j, (listed.setIfInBounds i true).getD j false = true ↔ (listed.getD j false = true ∨ j = i) := fun j => by
      by_cases e : i = j
      · subst e; simp [hs, hlt]
      · rw [getD_set_ne false e]; simp [show j ≠ i from fun h => e h.symm]
    have hleft : R.left (listed.setIfInBounds i true) ≤ fuel := by
      have : R.left (listed.setIfInBounds i true) < R.left listed := by
        unfold left
        refine filter_lt _ _ _ (fun x hx => ?_) (List.mem_range.2 hlt) (by rw [hli]; rfl) (by rw [(hset i).2 (.inr rfl)]; rfl)
        cases hx' : listed.getD x false with
        | true => rw [(hset x).2 (.inl hx')] at hx; cases hx
        | false => rfl
      omega
    have hready : ∀ j, (R.deps i).contains j = true → listed.getD j false = true := fun j hj => by
      obtain ⟨_, e, he, hb, h2⟩ := (ok_deps hok ho).2 j hj
      have h3 := hall e he hb
      rcases h2 with h2 | h2
      · rw [← h2]; exact h3
      · exact hinv.closed e.on j h3 h2
    by_cases hk : R.kinds i = .fin
    · -- the last one, behind all others
      obtain ⟨hn, hdall⟩ := ok_fin hok hlt hk
      have hothers : ∀ j, j < i → listed.getD j false = true := fun j hj => hready j (hdall j hj)
      have hnf : ∀ j, j < i → R.kinds j ≠ .fin := fun j hj hkj => by
        have := hfin j (by omega) hkj
        rw [hothers j hj] at this; cases this
      obtain ⟨vals', V, e1, e2, hr⟩ := reach hok h0 hinv.closed hinv.det hinv.skip hinv.pure hinv.link hne i (by omega) hnf
      have hg : R.ops[i]? = some R.ops[i] := by simp [hlt]
      rw [show R.ops.toList.drop i = R.ops[i] :: R.ops.toList.drop (i + 1) by rw [List.drop_eq_getElem_cons (by simpa using hlt)]; simp] at hr
      simp only [Runs] at hr
      rw [hk] at hr
      obtain ⟨hw, _, hwp⟩ := hr
      have ha : a = pre R a0 vals' i := hinv.frame.unique ((pre_frame hok vals' i).congr (fun j => ⟨fun h => hothers j h, fun h => by
        have h1 := lt_of hs h
        have h2 : j ≠ i := fun e => by rw [e, hli] at h; cases h
        omega⟩) (fun j hj => e1 j (hothers j hj)))
      have hlt' : ∀ j, j < R.ops.size → (R.kinds j).isNew = true → j < i := fun j hj hjn => by
        have hji : j ≠ i := fun e => by rw [e, hk] at hjn; cases hjn
        omega
      have hrest : R.Rest B Φ V F w := by
        refine ⟨fun j hj hjn hjc => ?_, fun x y hx hy hxn hyn hxc hyc hxy k h1 h2 => ?_⟩
        · have hjlt := hlt' j hj hjn
          rw [e2 j hjlt, e1 j (hothers j hjlt)]
          exact hinv.facts j (hothers j hjlt) hjn fun x hx => by rw [hjc] at hx; cases hx
        · exact hinv.apart x y (hothers x (hlt' x hx hxn)) (hothers y (hlt' y hy hyn)) hxn hyn hxy (fun z hz => by rw [hxc] at hz; cases hz) (fun z hz => by rw [hyc] at hz; cases hz) k h1 h2
      unfold wpOp
      rw [hg]
      simp only
      rw [ha, hw]
      simp only [if_true]
      refine .inl (Oper.wp_mono (fun b w' hq => ?_) (hwp F w hinv.below hrest))
      have hr' : Region.ready .any R.ops (listed.setIfInBounds i true) = [] := by
        cases hr : Region.ready .any R.ops (listed.setIfInBounds i true) with
        | nil => rfl
        | cons j l =>
          have hj : j ∈ Region.ready .any R.ops (listed.setIfInBounds i true) := by rw [hr]; exact List.mem_cons_self
          obtain ⟨h1, oj, hoj, _⟩ := mem_ready.1 hj
          have hjl := (Array.getElem?_eq_some_iff.1 hoj).1
          have : (listed.setIfInBounds i true).getD j false = true := (hset j).2 (by
            rcases Nat.lt_or_ge j i with h | h
            · exact .inl (hothers j h)
            · exact .inr (by omega))
          simp [hs, hjl] at h1 this
          rw [h1] at this; cases this
      cases fuel with
      | zero => exact ⟨hr', hq⟩
      | succ fuel => exact ⟨fun _ => hq, fun j hj => by rw [hr'] at hj; cases hj⟩
    · have hnf : ∀ j, j < i → R.kinds j ≠ .fin := fun j hj hkj => by
        have := (ok_fin hok (by omega) hkj).1
        omega
      refine hinv.step hok hne hst h0 hB hG1 hG2 hlt (by rw [hli]; simp) hready (fun j hj => lt_of hs hj) hnf hk _ fun vals' F' a' w' hinv' => ?_
      refine ih (listed.setIfInBounds i true) vals' F' a' w' (by simpa using hs) hleft ?_ (fun j hj hkj => ?_)
      · have e : (fun j => (listed.setIfInBounds i true).getD j false = true) = fun j => listed.getD j false = true ∨ j = i := funext fun j => propext (hset j)
        rw [e]
        exact hinv'
      · have := hfin j hj hkj
        cases hx : (listed.setIfInBounds i true).getD j false with
        | false => rfl
        | true =>
          rcases (hset j).1 hx with h | h
          · rw [this] at h; cases h
          · rw [h] at hkj; exact absurd hkj hk

/-- A REGION THAT DRAWS ITS ORDER. -/
theorem wp_plan {id : Nat} {a : Act} {w : World} (R : Plan) (hmix : P.follows .mixedOrders = true) (hok : R.ok = true) (hne : ∀ i, ∃ v, Ψ i v) (hst : ∀ j v F w w', Φ j v F w → (∀ k, F k → w'.heap[k]? = w.heap[k]?) → Φ j v F w')
    (hcl : R.consLt = true) (h0 : R.Runs P Q B w Φ Ψ 0 R.ops.toList a (fun _ => undef)) (hB : B ≤ w.heap.size) (hG1 : ∀ i j k, i ≠ j → R.own i k → R.own j k → False) (hG2 : ∀ i k, R.own i k → k < w.heap.size) : (Code.region id R.ops true).wp P Q a w := by
  have hcons : ∀ j, j < R.ops.size → ∀ i, R.cons j = some i → i < R.ops.size := fun j hj i hi => by
    simp only [consLt, List.all_eq_true, List.mem_range] at hcl
    simpa [hi] using hcl j hj
  refine wp_region_any hmix (sound hok hne hst hcons h0 hB hG1 hG2 R.ops.size _ (fun _ => undef) (fun _ _ => False) a _ (by simp) ?_ ?_ ?_)
  · unfold left
    exact Nat.le_trans (List.length_filter_le _ _) (by simp)
  · have hno : ∀ j, ¬ (Array.replicate R.ops.size false).getD j false = true := fun j h => by
      rcases Nat.lt_or_ge j R.ops.size with h' | h' <;> simp [h'] at h
    refine ⟨(Frame.start (fun _ => undef)).congr (fun j => ⟨fun h => h.elim, fun h => (hno j h).elim⟩) (fun j _ => rfl), (Below.refl B w).drew, fun i j h => (hno i h).elim, fun j h => (hno j h).elim, fun j h => (hno j h).elim, fun i j h => (hno i h).elim, fun i h => (hno i h).elim, fun i h => (hno i h).elim, fun i h => (hno i h).elim, fun j h => (hno j h).elim, fun _ _ _ _ => rfl, fun j _ h => (hno j h).elim⟩
  · intro j hj _
    simp [hj]
end Plan

/-- kinds: the operations that are not det, by number. -/
def mkPlan (ops : Array Oper) (ks : List (Nat × RKind)) (cs : List (Nat × Nat)) (ls : List (Nat × List Nat) := []) : Plan where
  ops := ops
  deps i := (closure ops.toList).getD i []
  kinds i := (ks.lookup i).getD .det
  cons i := cs.lookup i
  lnk i := (ls.lookup i).getD []

namespace Plan
set_option linter.unusedVariables false
set_option linter.unusedSimpArgs false
variable {R : Plan} {P : Program} {Q : Exit → Act → World → Prop} {B : Nat} {w0 : World} {fs : List (Nat × FactT)} {i : Nat} {o : Oper} {l : List Oper} {a : Act} {vals : Nat → Value}

abbrev RunsF (R : Plan) (P : Program) (Q : Exit → Act → World → Prop) (B : Nat) (w0 : World) (fs : List (Nat × FactT)) := R.Runs P Q B w0 (fun j => (phi fs j).p) (fun j => (phi fs j).q)
abbrev FactsF (R : Plan) (fs : List (Nat × FactT)) := R.Facts (fun j => (phi fs j).p)

theorem runs_det {v : Value} (hk : R.kinds i = .det) (hw : Region.wanted o (yielded R.ops a.tmps) = true) (hv : ∀ F w, Below B w0 w → R.FactsF fs i vals F w → (execOp a.eval o).run P w = .ok (.value v) w)
    (h : R.RunsF P Q B w0 fs (i + 1) l (a.put o.dst v) (put vals i v)) : R.RunsF P Q B w0 fs i (o :: l) a vals := by
  simp only [RunsF, Runs]; rw [hk]; exact ⟨hw, v, hv, h⟩
theorem runs_skip (hk : R.kinds i = .skip) (hw : Region.wanted o (yielded R.ops a.tmps) = false)
    (h : R.RunsF P Q B w0 fs (i + 1) l (a.put o.dst undef) (put vals i undef)) : R.RunsF P Q B w0 fs i (o :: l) a vals := by
  simp only [RunsF, Runs]; rw [hk]; exact ⟨hw, h⟩
/-- An operation that makes memory and writes none that is there. K: what follows. -/
theorem runs_new (hk : R.kinds i = .new) (hw : Region.wanted o (yielded R.ops a.tmps) = true) (d : Tmp) (hd1 : o.dst = some d) (hd2 : Nat.ble (d + 1) a.tmps.size = true)
    (hv : ∀ F w, Below B w0 w → R.FactsF fs i vals F w → ∀ K : Act → World → Prop, (∀ v w' F', (phi fs i).q v → Below w.heap.size w w' → (phi fs i).p v F' w' → (∀ k, F' k → k < B ∨ (w.heap.size ≤ k ∧ k < w'.heap.size)) → K (a.put o.dst v) w') → o.wp P a w K NoQ)
    (h : ∀ v, (phi fs i).q v → R.RunsF P Q B w0 fs (i + 1) l (a.put o.dst v) (put vals i v)) : R.RunsF P Q B w0 fs i (o :: l) a vals := by
  simp only [RunsF, Runs]; rw [hk]
  exact ⟨hw, ⟨d, hd1, Nat.le_of_ble_eq_true hd2⟩, fun F w h1 _ h2 => hv F w h1 h2 _ fun v w' F' e0 e1 e2 e3 => ⟨v, F', rfl, e0, e1, e2, fun k hk => (e3 k hk).imp_right .inr⟩, h⟩
/-- An operation that takes over blocks that are there already. -/
theorem runs_own (hk : R.kinds i = .new) (hw : Region.wanted o (yielded R.ops a.tmps) = true) (d : Tmp) (hd1 : o.dst = some d) (hd2 : Nat.ble (d + 1) a.tmps.size = true) (v : Value)
    (hv : ∀ F w, Below B w0 w → (∀ k, R.own i k → w.heap[k]? = w0.heap[k]?) → R.FactsF fs i vals F w → (execOp a.eval o).run P w = .ok (.value v) w ∧ (phi fs i).q v ∧ (phi fs i).p v (R.own i) w)
    (h : ∀ u, (phi fs i).q u → R.RunsF P Q B w0 fs (i + 1) l (a.put o.dst u) (put vals i u)) : R.RunsF P Q B w0 fs i (o :: l) a vals := by
  simp only [RunsF, Runs]; rw [hk]
  refine ⟨hw, ⟨d, hd1, Nat.le_of_ble_eq_true hd2⟩, fun F w h1 h2 h3 => ?_, fun u hu => h u hu⟩
  obtain ⟨e1, e2, e3⟩ := hv F w h1 h2 h3
  unfold Oper.wp
  rw [e1]
  exact ⟨v, R.own i, rfl, e2, Below.refl _ _, e3, fun k hk => .inr (.inl hk)⟩
/-- An operation that may write the row that operation c has made. -/
theorem runs_upd {c : Nat} (hk : R.kinds i = .upd c) (hw : Region.wanted o (yielded R.ops a.tmps) = true) (d : Tmp) (hd1 : o.dst = some d) (hd2 : Nat.ble (d + 1) a.tmps.size = true)
    (hv : ∀ F w, Below B w0 w → R.FactsF fs i vals F w → ∀ K : Act → World → Prop, (∀ v w' F', (phi fs i).q v → Below B w w' → (∀ k, k < w.heap.size → ¬ (F c k ∧ B ≤ k) → w'.heap[k]? = w.heap[k]?) → (phi fs i).p v F' w' → (∀ k, F' k → k < B ∨ F c k ∨ (w.heap.size ≤ k ∧ k < w'.heap.size)) → K (a.put o.dst v) w') → o.wp P a w K NoQ)
    (h : ∀ v, (phi fs i).q v → R.RunsF P Q B w0 fs (i + 1) l (a.put o.dst v) (put vals i v)) : R.RunsF P Q B w0 fs i (o :: l) a vals := by
  simp only [RunsF, Runs]; rw [hk]
  exact ⟨hw, ⟨d, hd1, Nat.le_of_ble_eq_true hd2⟩, fun F w h1 h2 => hv F w h1 h2 _ fun v w' F' e0 e1 e2 e3 e4 => ⟨v, F', rfl, e0, e1, e2, e3, e4⟩, h⟩
/-- A store into the block that operation c has made. -/
theorem runs_st {c : Nat} (hk : R.kinds i = .st c) (hw : Region.wanted o (yielded R.ops a.tmps) = true) (hd : o.dst = none) (hq : (phi fs i).q (R.linkV vals i))
    (hv : ∀ F w, Below B w0 w → R.FactsF fs i vals F w → ∀ K : Act → World → Prop, (∀ w' F', Below B w w' → (∀ k, k < w.heap.size → ¬ (F c k ∧ B ≤ k) → w'.heap[k]? = w.heap[k]?) → (phi fs i).p (R.linkV vals i) F' w' → (∀ k, F' k → k < B ∨ F c k ∨ (w.heap.size ≤ k ∧ k < w'.heap.size)) → K a w') → o.wp P a w K NoQ)
    (h : R.RunsF P Q B w0 fs (i + 1) l a (put vals i (R.linkV vals i))) : R.RunsF P Q B w0 fs i (o :: l) a vals := by
  simp only [RunsF, Runs]; rw [hk]
  exact ⟨hw, hd, hq, fun F w h1 h2 => hv F w h1 h2 _ fun w' F' e1 e2 e3 e4 => ⟨rfl, F', e1, e2, e3, e4⟩, h⟩
theorem runs_fin (hk : R.kinds i = .fin) (hw : Region.wanted o (yielded R.ops a.tmps) = true) (hv : ∀ F w, Below B w0 w → R.Rest B (fun j => (phi fs j).p) vals F w → o.wp P a w (Q .normal) Q) : R.RunsF P Q B w0 fs i [o] a vals := by
  simp only [RunsF, Runs]; rw [hk]; exact ⟨hw, trivial, hv⟩
theorem runs_nil (hv : ∀ F w, Below B w0 w → R.Rest B (fun j => (phi fs j).p) vals F w → Q .normal a w) : R.RunsF P Q B w0 fs i [] a vals := hv

theorem facts_own {α : Type} {E : Enc α} {base : Nat} {e : TypeId} {L : List α} {F : Nat → Nat → Prop} {w : World} (h : R.FactsF fs i vals F w) (c : Nat) (hc : phi fs c = ownF E base e L) (hcd : (R.deps i).contains c = true) (hcn : (R.kinds c).isNew = true) (hcc : R.cons c = none ∨ R.cons c = some i) : OwnE E base e w (vals c) L := by
  have hf := h c hcd hcn hcc
  dsimp only at hf
  rw [hc] at hf
  exact hf.1
theorem facts_call {D : Nat → World → Value → Prop} {F : Nat → Nat → Prop} {w : World} (h : R.FactsF fs i vals F w) (c : Nat) (hc : phi fs c = callF B D) (hcd : (R.deps i).contains c = true) (hcn : (R.kinds c).isNew = true) (hcc : R.cons c = none ∨ R.cons c = some i) : ∃ lo w1, B ≤ lo ∧ Keep lo w1 w ∧ D lo w1 (vals c) := by
  have hf := h c hcd hcn hcc
  dsimp only at hf
  rw [hc] at hf
  obtain ⟨lo, w1, hB, _, hK, hD⟩ := hf
  exact ⟨lo, w1, hB, hK, hD⟩
theorem rest_own {α : Type} {E : Enc α} {base : Nat} {e : TypeId} {L : List α} {F : Nat → Nat → Prop} {w : World} (h : R.Rest B (fun j => (phi fs j).p) vals F w) (c : Nat) (hc : phi fs c = ownF E base e L) (hcd : c < R.ops.size) (hcn : (R.kinds c).isNew = true) (hcc : R.cons c = none) : OwnE E base e w (vals c) L := by
  have hf := h.1 c hcd hcn hcc
  dsimp only at hf
  rw [hc] at hf
  exact hf.1
theorem rest_call {D : Nat → World → Value → Prop} {F : Nat → Nat → Prop} {w : World} (h : R.Rest B (fun j => (phi fs j).p) vals F w) (c : Nat) (hc : phi fs c = callF B D) (hcd : c < R.ops.size) (hcn : (R.kinds c).isNew = true) (hcc : R.cons c = none) : ∃ lo w1, B ≤ lo ∧ Keep lo w1 w ∧ D lo w1 (vals c) := by
  have hf := h.1 c hcd hcn hcc
  dsimp only at hf
  rw [hc] at hf
  obtain ⟨lo, w1, hB, _, hK, hD⟩ := hf
  exact ⟨lo, w1, hB, hK, hD⟩

/-- A slice literal. -/
theorem runs_lit {α : Type} (E : Enc α) (base : Nat) (e : TypeId) (L : List α) (cs : Array Value) (n : Nat) (hk : R.kinds i = .new) (hw : Region.wanted o (yielded R.ops a.tmps) = true) (d : Tmp) (hd1 : o.dst = some d) (hd2 : Nat.ble (d + 1) a.tmps.size = true)
    (hrun : ∀ w, (execOp a.eval o).run P w = .ok (.value (.slice (some ⟨w.heap.size, 0, none⟩) n n)) (w.alloc (.cells cs e)))
    (hi : phi fs i = ownF E base e L) (hn : n = L.length) (hc : cs.toList = L.flatMap E.enc) (hs : L.length ≤ 1000) (hbw : base ≤ w0.heap.size)
    (h : ∀ v, R.RunsF P Q B w0 fs (i + 1) l (a.put o.dst v) (put vals i v)) : R.RunsF P Q B w0 fs i (o :: l) a vals := by
  refine runs_new hk hw d hd1 hd2 (fun F w h1 h2 K hK => ?_) (fun v _ => h v)
  unfold Oper.wp
  rw [hrun w]
  refine hK _ _ (fun k => k = w.heap.size) (by rw [hi]; exact ⟨_, _, by rw [hn]⟩) ((Below.refl _ _).alloc (Nat.le_refl _) _) ?_ (fun k hk => .inr (by subst hk; simp))
  rw [hi]
  exact ⟨OwnE.lit E w base e L cs _ n rfl (Nat.le_trans hbw h1.size) hn hc hs, fun k => by simp only [Value.ownBlock, Option.some.injEq]; exact eq_comm⟩

/-- A call that makes memory of its own alone. -/
theorem runs_call (f : FuncId) (args : Array Value) (D : Nat → World → Value → Prop) (hk : R.kinds i = .new) (hw : Region.wanted o (yielded R.ops a.tmps) = true) (d : Tmp) (hd1 : o.dst = some d) (hd2 : Nat.ble (d + 1) a.tmps.size = true)
    (hrun : ∀ F w, Below B w0 w → R.FactsF fs i vals F w → (execOp a.eval o).run P w = .ok (.enter f args) w)
    (hi : phi fs i = callF B D) (hB : B ≤ w0.heap.size)
    (hcall : ∀ F w, Below B w0 w → R.FactsF fs i vals F w → Calls P f args w fun e w' => ∃ v, e = .returned v ∧ D w.heap.size w' v ∧ Below w.heap.size w w')
    (h : ∀ v, R.RunsF P Q B w0 fs (i + 1) l (a.put o.dst v) (put vals i v)) : R.RunsF P Q B w0 fs i (o :: l) a vals := by
  refine runs_new hk hw d hd1 hd2 (fun F w h1 h2 K hK => ?_) (fun v _ => h v)
  unfold Oper.wp
  rw [hrun F w h1 h2]
  refine Calls.mono (hcall F w h1 h2) ?_
  rintro e w' ⟨v, rfl, hD, hb⟩
  refine hK v w' (fun k => w.heap.size ≤ k ∧ k < w'.heap.size) (by rw [hi]; trivial) hb ?_ (fun k hk => .inr hk)
  rw [hi]
  exact ⟨_, w', Nat.le_trans hB h1.size, fun k => Iff.rfl, Keep.refl _ _, hD⟩

theorem facts_sl {α : Type} [Inhabited α] {E : Enc α} {lo : Nat} {L : List α} {F : Nat → Nat → Prop} {w : World} (h : R.FactsF fs i vals F w) (c : Nat) (hc : phi fs c = slF E lo L) (hcd : (R.deps i).contains c = true) (hcn : (R.kinds c).isNew = true) (hcc : R.cons c = none ∨ R.cons c = some i) : SlE E lo w (vals c) L := by
  have hf := h c hcd hcn hcc
  dsimp only at hf
  rw [hc] at hf
  exact hf.1
theorem rest_sl {α : Type} [Inhabited α] {E : Enc α} {lo : Nat} {L : List α} {F : Nat → Nat → Prop} {w : World} (h : R.Rest B (fun j => (phi fs j).p) vals F w) (c : Nat) (hc : phi fs c = slF E lo L) (hcd : c < R.ops.size) (hcn : (R.kinds c).isNew = true) (hcc : R.cons c = none) : SlE E lo w (vals c) L := by
  have hf := h.1 c hcd hcn hcc
  dsimp only at hf
  rw [hc] at hf
  exact hf.1
/-- A call whose result is a new slice. -/
theorem runs_call_sl {α : Type} [Inhabited α] (E : Enc α) (lo : Nat) (L : List α) (f : FuncId) (args : Array Value) (hk : R.kinds i = .new) (hw : Region.wanted o (yielded R.ops a.tmps) = true) (d : Tmp) (hd1 : o.dst = some d) (hd2 : Nat.ble (d + 1) a.tmps.size = true)
    (hrun : ∀ F w, Below B w0 w → R.FactsF fs i vals F w → (execOp a.eval o).run P w = .ok (.enter f args) w)
    (hi : phi fs i = slF E lo L)
    (hcall : ∀ F w, Below B w0 w → R.FactsF fs i vals F w → Calls P f args w fun e w' => ∃ v, e = .returned v ∧ SlE E lo w' v L ∧ Below w.heap.size w w' ∧ ∀ k, 0 < L.length → v.ownBlock = some k → k < B ∨ w.heap.size ≤ k)
    (h : ∀ v, R.RunsF P Q B w0 fs (i + 1) l (a.put o.dst v) (put vals i v)) : R.RunsF P Q B w0 fs i (o :: l) a vals := by
  refine runs_new hk hw d hd1 hd2 (fun F w h1 h2 K hK => ?_) (fun v _ => h v)
  unfold Oper.wp
  rw [hrun F w h1 h2]
  refine Calls.mono (hcall F w h1 h2) ?_
  rintro e w' ⟨v, rfl, hD, hb, hv⟩
  refine hK v w' (fun k => 0 < L.length ∧ v.ownBlock = some k) (by rw [hi]; trivial) hb ?_ (fun k hk => ?_)
  · rw [hi]
    exact ⟨hD, fun h0 k hk => ⟨h0, hk⟩⟩
  · rcases hv k hk.1 hk.2 with h3 | h3
    · exact .inl h3
    · exact .inr ⟨h3, (hD.blk hk.1 k hk.2).2⟩
/-- A call whose result is a new slice, or lies where operation c's value does. -/
theorem runs_call_alias {α : Type} [Inhabited α] (E : Enc α) (lo lo' c : Nat) (L L' : List α) (f : FuncId) (args : Array Value) (hk : R.kinds i = .upd c) (hw : Region.wanted o (yielded R.ops a.tmps) = true) (d : Tmp) (hd1 : o.dst = some d) (hd2 : Nat.ble (d + 1) a.tmps.size = true)
    (hrun : ∀ F w, Below B w0 w → R.FactsF fs i vals F w → (execOp a.eval o).run P w = .ok (.enter f args) w)
    (hc : phi fs c = slF E lo' L') (hi : phi fs i = slF E lo L) (hcd : (R.deps i).contains c = true) (hcn : (R.kinds c).isNew = true) (hcc : R.cons c = some i) (hB : B ≤ w0.heap.size) (hL : L = [] ∨ 0 < L'.length)
    (hcall : ∀ F w, Below B w0 w → R.FactsF fs i vals F w → Calls P f args w fun e w' => ∃ v, e = .returned v ∧ SlE E lo w' v L ∧ Below w.heap.size w w' ∧ ∀ k, v.ownBlock = some k → (vals c).ownBlock = some k ∨ w.heap.size ≤ k)
    (h : ∀ v, R.RunsF P Q B w0 fs (i + 1) l (a.put o.dst v) (put vals i v)) : R.RunsF P Q B w0 fs i (o :: l) a vals := by
  refine runs_upd hk hw d hd1 hd2 (fun F w h1 h2 K hK => ?_) (fun v _ => h v)
  have hf := h2 c hcd hcn (.inr hcc)
  dsimp only at hf
  rw [hc] at hf
  unfold Oper.wp
  rw [hrun F w h1 h2]
  refine Calls.mono (hcall F w h1 h2) ?_
  rintro e w' ⟨v, rfl, hD, hb, hv⟩
  refine hK v w' (fun k => 0 < L.length ∧ v.ownBlock = some k) (by rw [hi]; trivial) (hb.mono (Nat.le_trans hB h1.size)) (fun k hk _ => hb.block k hk) ?_ (fun k hk => ?_)
  · rw [hi]
    exact ⟨hD, fun h0 k hk => ⟨h0, hk⟩⟩
  · rcases hv k hk.2 with h3 | h3
    · rcases hL with hL | hL
      · have := hk.1; rw [hL] at this; cases this
      · exact .inr (.inl (hf.2 hL k h3))
    · exact .inr (.inr ⟨h3, (hD.blk hk.1 k hk.2).2⟩)

/-- A call whose result is known. -/
theorem runs_call_val (x : Value) (f : FuncId) (args : Array Value) (hk : R.kinds i = .new) (hw : Region.wanted o (yielded R.ops a.tmps) = true) (d : Tmp) (hd1 : o.dst = some d) (hd2 : Nat.ble (d + 1) a.tmps.size = true)
    (hrun : ∀ F w, Below B w0 w → R.FactsF fs i vals F w → (execOp a.eval o).run P w = .ok (.enter f args) w)
    (hi : phi fs i = valF x)
    (hcall : ∀ F w, Below B w0 w → R.FactsF fs i vals F w → Calls P f args w fun e w' => e = .returned x ∧ Below w.heap.size w w')
    (h : R.RunsF P Q B w0 fs (i + 1) l (a.put o.dst x) (put vals i x)) : R.RunsF P Q B w0 fs i (o :: l) a vals := by
  refine runs_new hk hw d hd1 hd2 (fun F w h1 h2 K hK => ?_) (fun v hv => ?_)
  · unfold Oper.wp
    rw [hrun F w h1 h2]
    refine Calls.mono (hcall F w h1 h2) ?_
    rintro e w' ⟨rfl, hb⟩
    exact hK x w' (fun _ => False) (by rw [hi]; rfl) hb (by rw [hi]; trivial) (fun k hk => hk.elim)
  · rw [hi] at hv
    obtain rfl : v = x := hv
    exact h

theorem anySlice_of {α : Type} {E : Enc α} {base : Nat} {e : TypeId} {w : World} {v : Value} {l : List α} (h : OwnE E base e w v l) : ∃ a c, v = .slice a l.length c := by
  rcases h.2 with ⟨hv, hn⟩ | ⟨g, cap, cur, hv, hb, hg, _⟩
  · exact ⟨none, 0, by rw [hv, hn]⟩
  · exact ⟨_, _, hv⟩

/-- append onto the row that operation c has made. -/
theorem runs_append {α : Type} [Inhabited α] (E : Enc α) (c : Nat) (s x : Operand) (t : TypeId) (base lo : Nat) (e : TypeId) (z : Value) (bytes : Nat) (L r : List α)
    (hk : R.kinds i = .upd c) (hw : Region.wanted o (yielded R.ops a.tmps) = true) (d : Tmp) (hd1 : o.dst = some d) (hd2 : Nat.ble (d + 1) a.tmps.size = true)
    (ho : o.op = .call { callee := .builtin .append, args := #[s, x], argTypes := #[t, t] })
    (ht : P.underlying t = some (.slice e)) (hinfo : (P.info? e).map (fun i => (i.zero, i.size, i.bytes)) = some (some z, E.sz, bytes)) (hz : z.cells.size = E.sz)
    (hc : (phi fs c) = ownF E base e L) (hi : (phi fs i) = ownF E base e (L ++ r)) (hcv : vals c = a.eval s) (hcd : (R.deps i).contains c = true) (hcn : (R.kinds c).isNew = true) (hcc : R.cons c = some i) (hB : B ≤ w0.heap.size) (hbB : B ≤ base) (hbw : base ≤ w0.heap.size)
    (hb : (L.length + r.length) * bytes ≤ 140737488355328) (hm : L.length + r.length ≤ maxLen)
    (hsrc : ∀ F w, Below B w0 w → R.FactsF fs i vals F w → SlE E lo w (a.eval x) r)
    (h : ∀ v, R.RunsF P Q B w0 fs (i + 1) l (a.put o.dst v) (put vals i v)) : R.RunsF P Q B w0 fs i (o :: l) a vals := by
  refine runs_upd hk hw d hd1 hd2 (fun F w h1 h2 K hK => ?_) (fun v _ => h v)
  have hf := h2 c hcd hcn (.inr hcc)
  dsimp only at hf
  rw [hc, hcv] at hf
  obtain ⟨hown, hF⟩ := hf
  obtain ⟨v', w', e1, e2, e3, e4⟩ := run_append_E (P := P) E w base lo t o.type e z bytes ht hinfo hz _ L hown _ r (hsrc F w h1 h2) hb hm (Nat.le_trans hbw h1.size)
  unfold Oper.wp
  simp only [execOp, ho, resolve, invoke, builtin, Sem.run_bind, Sem.run_pure, Result.andThen_ok, List.map_toArray, List.map_cons, List.map_nil, e1]
  have hlt := hown.lt
  refine hK v' w' (fun k => v'.ownBlock = some k) (by rw [hi]; exact anySlice_of e2) (Below.grown (Below.refl _ _) e3 (Nat.le_trans hB h1.size) fun k hk => Nat.le_trans hbB (hlt k hk).1) (fun k hk hn => e3.block k hk fun he => hn ⟨(hF k).2 he.symm, Nat.le_trans hbB (hlt k he.symm).1⟩)
    (by rw [hi]; exact ⟨e2, fun k => Iff.rfl⟩) fun k hk => ?_
  rcases e4 k hk with he | he
  · exact .inr (.inl ((hF k).2 he))
  · exact .inr (.inr ⟨he, (e2.lt k hk).2⟩)

/-- The same, with the value's form. -/
theorem runs_append_s {α : Type} [Inhabited α] (E : Enc α) (c : Nat) (s x : Operand) (t : TypeId) (base lo : Nat) (e : TypeId) (z : Value) (bytes : Nat) (L r : List α)
    (hk : R.kinds i = .upd c) (hw : Region.wanted o (yielded R.ops a.tmps) = true) (d : Tmp) (hd1 : o.dst = some d) (hd2 : Nat.ble (d + 1) a.tmps.size = true)
    (ho : o.op = .call { callee := .builtin .append, args := #[s, x], argTypes := #[t, t] })
    (ht : P.underlying t = some (.slice e)) (hinfo : (P.info? e).map (fun i => (i.zero, i.size, i.bytes)) = some (some z, E.sz, bytes)) (hz : z.cells.size = E.sz)
    (hc : (phi fs c) = ownF E base e L) (hi : (phi fs i) = ownF E base e (L ++ r)) (hcv : vals c = a.eval s) (hcd : (R.deps i).contains c = true) (hcn : (R.kinds c).isNew = true) (hcc : R.cons c = some i) (hB : B ≤ w0.heap.size) (hbB : B ≤ base) (hbw : base ≤ w0.heap.size)
    (hb : (L.length + r.length) * bytes ≤ 140737488355328) (hm : L.length + r.length ≤ maxLen)
    (hsrc : ∀ F w, Below B w0 w → R.FactsF fs i vals F w → SlE E lo w (a.eval x) r)
    (h : ∀ b m, R.RunsF P Q B w0 fs (i + 1) l (a.put o.dst (.slice b (L ++ r).length m)) (put vals i (.slice b (L ++ r).length m))) : R.RunsF P Q B w0 fs i (o :: l) a vals := by
  refine runs_upd hk hw d hd1 hd2 (fun F w h1 h2 K hK => ?_) (fun v hv => ?_)
  rotate_left
  · rw [hi] at hv
    obtain ⟨b, m, rfl⟩ := hv
    exact h b m
  have hf := h2 c hcd hcn (.inr hcc)
  dsimp only at hf
  rw [hc, hcv] at hf
  obtain ⟨hown, hF⟩ := hf
  obtain ⟨v', w', e1, e2, e3, e4⟩ := run_append_E (P := P) E w base lo t o.type e z bytes ht hinfo hz _ L hown _ r (hsrc F w h1 h2) hb hm (Nat.le_trans hbw h1.size)
  unfold Oper.wp
  simp only [execOp, ho, resolve, invoke, builtin, Sem.run_bind, Sem.run_pure, Result.andThen_ok, List.map_toArray, List.map_cons, List.map_nil, e1]
  have hlt := hown.lt
  refine hK v' w' (fun k => v'.ownBlock = some k) (by rw [hi]; exact anySlice_of e2) (Below.grown (Below.refl _ _) e3 (Nat.le_trans hB h1.size) fun k hk => Nat.le_trans hbB (hlt k hk).1) (fun k hk hn => e3.block k hk fun he => hn ⟨(hF k).2 he.symm, Nat.le_trans hbB (hlt k he.symm).1⟩)
    (by rw [hi]; exact ⟨e2, fun k => Iff.rfl⟩) fun k hk => ?_
  rcases e4 k hk with he | he
  · exact .inr (.inl ((hF k).2 he))
  · exact .inr (.inr ⟨he, (e2.lt k hk).2⟩)

/-- A REGION THAT DRAWS ITS ORDER: R is the plan by its name, the facts fs by the operations' numbers. -/
theorem wp_facts {id : Nat} {l : List Oper} {a : Act} {w : World} (R : Plan) (fs : List (Nat × FactT)) (hmix : P.follows .mixedOrders = true) (hops : R.ops = l.toArray)
    (hok : R.ok = true) (hcl : R.consLt = true) (hB : B ≤ w.heap.size) (h0 : R.RunsF P Q B w fs 0 l a (fun _ => undef)) (hown : R.own = fun _ _ => False := by rfl) : (Code.region id l.toArray true).wp P Q a w := by
  rw [← hops]
  exact wp_plan R hmix hok (fun j => (phi fs j).ne) (fun j => (phi fs j).st) hcl (by rw [hops]; exact h0) hB (by rw [hown]; intro _ _ _ _ h; exact h.elim) (by rw [hown]; intro _ _ h; exact h.elim)

/-- The same plan, where operation i takes over the blocks G i that are there already. -/
def holding (R : Plan) (G : Nat → Nat → Prop) : Plan := { R with own := G }
theorem wp_facts_own {id : Nat} {l : List Oper} {a : Act} {w : World} (R : Plan) (G : Nat → Nat → Prop) (fs : List (Nat × FactT)) (hmix : P.follows .mixedOrders = true) (hops : R.ops = l.toArray)
    (hok : R.ok = true) (hcl : R.consLt = true) (hB : B ≤ w.heap.size) (hG1 : ∀ i j k, i ≠ j → G i k → G j k → False) (hG2 : ∀ i k, G i k → k < w.heap.size) (h0 : (R.holding G).RunsF P Q B w fs 0 l a (fun _ => undef)) : (Code.region id l.toArray true).wp P Q a w := by
  rw [← hops]
  exact wp_plan (R.holding G) hmix hok (fun j => (phi fs j).ne) (fun j => (phi fs j).st) hcl (by rw [show (R.holding G).ops.toList = l by show R.ops.toList = l; rw [hops]]; exact h0) hB hG1 hG2

end Plan

end Go.Proofs.Ytealeofgfgbheaa.RegS
