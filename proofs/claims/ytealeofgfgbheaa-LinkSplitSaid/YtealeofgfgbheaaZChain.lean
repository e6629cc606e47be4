/-
  A region that draws its order, in which all operations that touch memory hang on one another: it runs as in the text's own order.
-/
import Derived.Test.YtealeofgfgbheaaZRegion
namespace Go.Proofs.Ytealeofgfgbheaa
set_option linter.unusedVariables false
set_option linter.unusedSimpArgs false
open Go.RowKit

def dstIn (o : Oper) (a : Act) : Bool := match o.dst with
  | none => true
  | some d => Nat.ble (d + 1) a.tmps.size

namespace Plan
set_option linter.unusedVariables false
set_option linter.unusedSimpArgs false

/-- All operations that touch memory (kind new) hang on one another. -/
def chainOk (R : Plan) : Bool := (List.range R.ops.size).all fun i => (match R.kinds i with
  | .upd _ => false
  | _ => true) && (List.range i).all fun j => !(R.kinds i).isNew || (!(R.kinds j).isNew || (R.deps i).contains j)

/-- What the text's own order settles of the operations whose value hangs on no memory. -/
def RunsW (R : Plan) (P : Program) (G : World → Prop) : Nat → List Oper → Act → Prop
  | _, [], _ => True
  | i, o :: l, a => match R.kinds i with
    | .skip => Region.wanted o (yielded R.ops a.tmps) = false ∧ RunsW R P G (i + 1) l (a.put o.dst undef)
    | .det => Region.wanted o (yielded R.ops a.tmps) = true ∧ ∃ v, (∀ w', G w' → (execOp a.eval o).run P w' = .ok (.value v) w') ∧ RunsW R P G (i + 1) l (a.put o.dst v)
    | .new => ∃ v, RunsW R P G (i + 1) l (a.put o.dst v)
    | .fin => l = []
    | _ => False

/-- A panic, whatever else of the region has run. -/
def PanQ (Q : Exit → Act → World → Prop) : Exit → Act → World → Prop := fun x a w => match x with
  | .panic c => ∀ b : Act, b.defers = a.defers → Q (.panic c) b w
  | _ => False

/-- The text's own order, the world included. -/
def RunsG (R : Plan) (P : Program) (Q : Exit → Act → World → Prop) (G : World → Prop) : Nat → List Oper → Act → World → Prop
  | _, [], a, w => Q .normal a w
  | i, o :: l, a, w => match R.kinds i with
    | .skip => Region.wanted o (yielded R.ops a.tmps) = false ∧ RunsG R P Q G (i + 1) l (a.put o.dst undef) w
    | .det => Region.wanted o (yielded R.ops a.tmps) = true ∧ ∃ v, (∀ w', G w' → (execOp a.eval o).run P w' = .ok (.value v) w') ∧ RunsG R P Q G (i + 1) l (a.put o.dst v) w
    | .new => Region.wanted o (yielded R.ops a.tmps) = true ∧ dstIn o a = true ∧ o.wp P a w (fun a' w' => ∃ v, a' = a.put o.dst v ∧ G w' ∧ RunsG R P Q G (i + 1) l (a.put o.dst v) w') (PanQ Q) ∧ ∃ v, RunsW R P G (i + 1) l (a.put o.dst v)
    | .fin => Region.wanted o (yielded R.ops a.tmps) = true ∧ l = [] ∧ o.wp P a w (Q .normal) Q
    | _ => False

variable {R : Plan} {P : Program} {Q : Exit → Act → World → Prop} {G : World → Prop} {a0 : Act}

theorem RunsG.weak : ∀ (l : List Oper) (i : Nat) (a : Act) (w : World), R.RunsG P Q G i l a w → R.RunsW P G i l a
  | [], _, _, _, _ => trivial
  | o :: l, i, a, w, h => by
    simp only [RunsG] at h
    simp only [RunsW]
    cases hk : R.kinds i with
    | skip => rw [hk] at h; exact ⟨h.1, RunsG.weak l _ _ _ h.2⟩
    | det => rw [hk] at h; obtain ⟨h1, v, h2, h3⟩ := h; exact ⟨h1, v, h2, RunsG.weak l _ _ _ h3⟩
    | new => rw [hk] at h; exact h.2.2.2
    | upd c => rw [hk] at h; exact h.elim
    | fin => rw [hk] at h; exact h.2.1

/-- An operation, shown in one frame, holds in another in which it looks at the same. -/
theorem wp_same2 {o : Oper} {a a' : Act} {w : World} {T : Value → World → Prop} {Q' : Exit → Act → World → Prop} (he : execOp a'.eval o = execOp a.eval o) (hdst : dstIn o a = true) (hdef : a'.defers = a.defers) (h : o.wp P a w (fun b w' => ∃ v, b = a.put o.dst v ∧ T v w') (PanQ Q'))
    (K : Act → World → Prop) (hK : ∀ v w', T v w' → K (a'.put o.dst v) w') : o.wp P a' w K Q' := by
  have key : ∀ u v w', a.put o.dst u = a.put o.dst v → T v w' → K (a'.put o.dst u) w' := by
    intro u v w' e ht
    cases hd : o.dst with
    | none => have := hK v w' ht; rw [hd] at this; exact this
    | some d =>
      have hlt : d < a.tmps.size := by
        unfold dstIn at hdst
        rw [hd] at hdst
        exact Nat.le_of_ble_eq_true hdst
      rw [hd] at e
      have := congrArg (fun b : Act => b.tmps[d]?) e
      simp [Act.put, hlt] at this
      have h2 := hK v w' ht
      rw [hd] at h2
      rw [this]; exact h2
  unfold Oper.wp at *
  rw [he]
  generalize (execOp a.eval o).run P w = r at *
  cases r with
  | ok n w' =>
    cases n <;> simp only [Oper.upon] at h ⊢
    case value u => obtain ⟨v, e, ht⟩ := h; exact key _ _ _ e ht
    case skip => obtain ⟨v, e, ht⟩ := h; exact key _ _ _ e ht
    case defer d =>
      obtain ⟨v, e, ht⟩ := h
      have e2 := congrArg Act.defers e
      cases hd : o.dst <;> simp [Act.put, hd] at e2
    case enter f args =>
      refine Calls.mono h fun e w'' he => ?_
      cases e with
      | returned u => obtain ⟨v, e, ht⟩ := he; exact key _ _ _ e ht
      | panicked c => exact he a' hdef
      | outgrown => obtain ⟨_, _, hh⟩ := he; exact hh.elim
    case row row args => exact Rows.mono h fun u w'' he => by obtain ⟨v, e, ht⟩ := he; exact key _ _ _ e ht
  | halt x w' =>
    cases x <;> simp only [Oper.upon] at h ⊢
    case panic u => exact h a' hdef

/-- What the text's own order has settled in front of operation i. -/
def Text (R : Plan) (P : Program) (G : World → Prop) (a0 : Act) (vals : Nat → Value) (i : Nat) : Prop :=
  ∀ j o, j < i → R.ops[j]? = some o →
    (R.kinds j = .det → Region.wanted o (yielded R.ops (pre R a0 vals j).tmps) = true ∧ ∀ w', G w' → (execOp (pre R a0 vals j).eval o).run P w' = .ok (.value (vals j)) w') ∧
    (R.kinds j = .skip → Region.wanted o (yielded R.ops (pre R a0 vals j).tmps) = false ∧ vals j = undef)

def RecC (R : Plan) (P : Program) (G : World → Prop) (a0 : Act) (vals : Nat → Value) (i : Nat) : Prop :=
  ∃ o w, R.ops[i]? = some o ∧ G w ∧ (execOp (pre R a0 vals i).eval o).run P w = .ok (.value (vals i)) w

structure InvC (R : Plan) (P : Program) (Q : Exit → Act → World → Prop) (G : World → Prop) (a0 : Act) (L : Nat → Prop) (vals : Nat → Value) (a : Act) (w : World) : Prop where
  frame : Frame R a0 L vals a
  closed : ∀ i j, L i → (R.deps i).contains j = true → L j
  det : ∀ i, L i → R.kinds i = .det → RecC R P G a0 vals i
  skip : ∀ i, L i → R.kinds i = .skip → vals i = undef
  below : G w
  prog : ∃ i vals', i ≤ R.ops.size ∧ (∀ j, j < i → R.kinds j ≠ .fin) ∧ (∀ j, L j → j < i → vals' j = vals j) ∧ (∀ j, j < R.ops.size → (R.kinds j).isNew = true → (L j ↔ j < i)) ∧ Text R P G a0 vals' i ∧ R.RunsG P Q G i (R.ops.toList.drop i) (pre R a0 vals' i) w

theorem drop_at (R : Plan) {i : Nat} (hlt : i < R.ops.size) : R.ops.toList.drop i = R.ops[i] :: R.ops.toList.drop (i + 1) := by
  rw [List.drop_eq_getElem_cons (by simpa using hlt)]; simp

theorem Text.put {vals : Nat → Value} {i : Nat} (h : Text R P G a0 vals i) (v : Value)
    (hn : ∀ o, R.ops[i]? = some o → (R.kinds i = .det → Region.wanted o (yielded R.ops (pre R a0 vals i).tmps) = true ∧ ∀ w', G w' → (execOp (pre R a0 vals i).eval o).run P w' = .ok (.value v) w') ∧
      (R.kinds i = .skip → Region.wanted o (yielded R.ops (pre R a0 vals i).tmps) = false ∧ v = undef)) : Text R P G a0 (Plan.put vals i v) (i + 1) := by
  have e : ∀ j, j ≤ i → pre R a0 (Plan.put vals i v) j = pre R a0 vals j := fun j hj => pre_congr j fun k hk => if_neg (by omega)
  intro j o hj ho
  by_cases hji : j = i
  · subst hji
    have := hn o ho
    rw [e j (Nat.le_refl _)]
    simpa [Plan.put] using this
  · have := h j o (by omega) ho
    rw [e j (by omega)]
    simpa [Plan.put, hji] using this

/-- One operation further in the text's own order. -/
theorem advanceW (hok : R.ok = true) {L : Nat → Prop} {vals vals' : Nat → Value} {i : Nat} (hcl : ∀ i j, L i → (R.deps i).contains j = true → L j)
    (hdet : ∀ i, L i → R.kinds i = .det → RecC R P G a0 vals i) (hskip : ∀ i, L i → R.kinds i = .skip → vals i = undef) (hlt : i < R.ops.size) (hkf : R.kinds i ≠ .fin)
    (hag : ∀ j, L j → j < i → vals' j = vals j) (hnew : (R.kinds i).isNew = true → ¬ L i) (ht : Text R P G a0 vals' i) (hr : R.RunsW P G i (R.ops.toList.drop i) (pre R a0 vals' i)) :
    ∃ v, (∀ j, L j → j < i + 1 → Plan.put vals' i v j = vals j) ∧ Text R P G a0 (Plan.put vals' i v) (i + 1) ∧ R.RunsW P G (i + 1) (R.ops.toList.drop (i + 1)) (pre R a0 (Plan.put vals' i v) (i + 1)) := by
  have hg : R.ops[i]? = some R.ops[i] := by simp [hlt]
  have hd : R.dst i = R.ops[i].dst := by simp [dst, hg]
  have ep : ∀ v, pre R a0 (Plan.put vals' i v) (i + 1) = (pre R a0 vals' i).put R.ops[i].dst v := by
    intro v
    simp only [pre]
    rw [hd, show pre R a0 (Plan.put vals' i v) i = pre R a0 vals' i from pre_congr i fun j hj => if_neg (Nat.ne_of_lt hj)]
    simp [Plan.put]
  rw [drop_at R hlt] at hr
  simp only [RunsW] at hr
  cases hk : R.kinds i with
  | skip =>
    rw [hk] at hr
    refine ⟨undef, fun j hj hji => ?_, ht.put _ fun o ho => ⟨(by rw [hk]; intro h; cases h), fun _ => ⟨?_, rfl⟩⟩, ?_⟩
    · by_cases e : j = i
      · subst e; simp [Plan.put, hskip j hj hk]
      · simp [Plan.put, e, hag j hj (by omega)]
    · obtain rfl : R.ops[i] = o := by rw [hg] at ho; exact Option.some.inj ho
      exact hr.1
    · rw [ep]; exact hr.2
  | det =>
    rw [hk] at hr
    obtain ⟨hw, v, hv, hr⟩ := hr
    refine ⟨v, fun j hj hji => ?_, ht.put _ fun o ho => ⟨fun _ => ?_, (by rw [hk]; intro h; cases h)⟩, ?_⟩
    · by_cases e : j = i
      · subst e
        obtain ⟨o, w1, ho, hb, hrun⟩ := hdet j hj hk
        obtain rfl : R.ops[j] = o := by rw [hg] at ho; exact Option.some.inj ho
        have dd := (ok_deps hok hg).2
        have hrun' := hv w1 hb
        have same : ∀ t ∈ (R.ops[j]).looksAt R.ops, (pre R a0 vals' j).tmps[t]? = (pre R a0 vals j).tmps[t]? :=
          (pre_frame hok vals' j).same hok (pre_frame hok vals j) hg (fun k hkk => ⟨(dd k hkk).1, (dd k hkk).1, hag k (hcl j k hj hkk) (dd k hkk).1⟩)
            (fun k hkk => by
              rcases hkk with rfl | hkk
              · omega
              · intro hlt'
                have hkl : k < R.ops.size := by omega
                have := ((ok_deps hok (show R.ops[k]? = some R.ops[k] by simp [hkl])).2 j hkk).1
                omega) (fun k hkk => by omega)
        rw [eval_same (R := R) same (ok_select hok hg)] at hrun'
        rw [hrun] at hrun'
        injection hrun' with h1
        injection h1 with h2
        simp [Plan.put, h2]
      · simp [Plan.put, e, hag j hj (by omega)]
    · obtain rfl : R.ops[i] = o := by rw [hg] at ho; exact Option.some.inj ho
      exact ⟨hw, hv⟩
    · rw [ep]; exact hr
  | new =>
    rw [hk] at hr
    obtain ⟨v, hr⟩ := hr
    refine ⟨v, fun j hj hji => ?_, ht.put _ fun o ho => ⟨(by rw [hk]; intro h; cases h), (by rw [hk]; intro h; cases h)⟩, ?_⟩
    · have e : j ≠ i := fun e => hnew (by rw [hk]; rfl) (e ▸ hj)
      simp [Plan.put, e, hag j hj (by omega)]
    · rw [ep]; exact hr
  | upd c => rw [hk] at hr; exact hr.elim
  | fin => exact absurd hk hkf

/-- One operation further in the text's own order. -/
theorem advanceC (hok : R.ok = true) {L : Nat → Prop} {vals vals' : Nat → Value} {i : Nat} {w : World} (hcl : ∀ i j, L i → (R.deps i).contains j = true → L j)
    (hdet : ∀ i, L i → R.kinds i = .det → RecC R P G a0 vals i) (hskip : ∀ i, L i → R.kinds i = .skip → vals i = undef) (hlt : i < R.ops.size) (hkf : R.kinds i ≠ .fin)
    (hag : ∀ j, L j → j < i → vals' j = vals j) (hnew : (R.kinds i).isNew = false) (ht : Text R P G a0 vals' i) (hr : R.RunsG P Q G i (R.ops.toList.drop i) (pre R a0 vals' i) w) :
    ∃ v, (∀ j, L j → j < i + 1 → Plan.put vals' i v j = vals j) ∧ Text R P G a0 (Plan.put vals' i v) (i + 1) ∧ R.RunsG P Q G (i + 1) (R.ops.toList.drop (i + 1)) (pre R a0 (Plan.put vals' i v) (i + 1)) w := by
  have hg : R.ops[i]? = some R.ops[i] := by simp [hlt]
  have hd : R.dst i = R.ops[i].dst := by simp [dst, hg]
  have ep : ∀ v, pre R a0 (Plan.put vals' i v) (i + 1) = (pre R a0 vals' i).put R.ops[i].dst v := by
    intro v
    simp only [pre]
    rw [hd, show pre R a0 (Plan.put vals' i v) i = pre R a0 vals' i from pre_congr i fun j hj => if_neg (Nat.ne_of_lt hj)]
    simp [Plan.put]
  rw [drop_at R hlt] at hr
  simp only [RunsG] at hr
  cases hk : R.kinds i with
  | skip =>
    rw [hk] at hr
    refine ⟨undef, fun j hj hji => ?_, ht.put _ fun o ho => ⟨(by rw [hk]; intro h; cases h), fun _ => ⟨?_, rfl⟩⟩, ?_⟩
    · by_cases e : j = i
      · subst e; simp [Plan.put, hskip j hj hk]
      · simp [Plan.put, e, hag j hj (by omega)]
    · obtain rfl : R.ops[i] = o := by rw [hg] at ho; exact Option.some.inj ho
      exact hr.1
    · rw [ep]; exact hr.2
  | det =>
    rw [hk] at hr
    obtain ⟨hw, v, hv, hr⟩ := hr
    refine ⟨v, fun j hj hji => ?_, ht.put _ fun o ho => ⟨fun _ => ?_, (by rw [hk]; intro h; cases h)⟩, ?_⟩
    · by_cases e : j = i
      · subst e
        obtain ⟨o, w1, ho, hb, hrun⟩ := hdet j hj hk
        obtain rfl : R.ops[j] = o := by rw [hg] at ho; exact Option.some.inj ho
        have dd := (ok_deps hok hg).2
        have hrun' := hv w1 hb
        have same : ∀ t ∈ (R.ops[j]).looksAt R.ops, (pre R a0 vals' j).tmps[t]? = (pre R a0 vals j).tmps[t]? :=
          (pre_frame hok vals' j).same hok (pre_frame hok vals j) hg (fun k hkk => ⟨(dd k hkk).1, (dd k hkk).1, hag k (hcl j k hj hkk) (dd k hkk).1⟩)
            (fun k hkk => by
              rcases hkk with rfl | hkk
              · omega
              · intro hlt'
                have hkl : k < R.ops.size := by omega
                have := ((ok_deps hok (show R.ops[k]? = some R.ops[k] by simp [hkl])).2 j hkk).1
                omega) (fun k hkk => by omega)
        rw [eval_same (R := R) same (ok_select hok hg)] at hrun'
        rw [hrun] at hrun'
        injection hrun' with h1
        injection h1 with h2
        simp [Plan.put, h2]
      · simp [Plan.put, e, hag j hj (by omega)]
    · obtain rfl : R.ops[i] = o := by rw [hg] at ho; exact Option.some.inj ho
      exact ⟨hw, hv⟩
    · rw [ep]; exact hr
  | new => rw [hk] at hnew; cases hnew
  | upd c => rw [hk] at hr; exact hr.elim
  | fin => exact absurd hk hkf

theorem reachW (hok : R.ok = true) {L : Nat → Prop} {vals : Nat → Value} (hcl : ∀ i j, L i → (R.deps i).contains j = true → L j)
    (hdet : ∀ i, L i → R.kinds i = .det → RecC R P G a0 vals i) (hskip : ∀ i, L i → R.kinds i = .skip → vals i = undef) {i : Nat} (hnew : ∀ j, i ≤ j → j < R.ops.size → (R.kinds j).isNew = true → ¬ L j) :
    ∀ (n : Nat) (vals' : Nat → Value), i + n ≤ R.ops.size → (∀ j, j < i + n → R.kinds j ≠ .fin) → (∀ j, L j → j < i → vals' j = vals j) → Text R P G a0 vals' i → R.RunsW P G i (R.ops.toList.drop i) (pre R a0 vals' i) →
      ∃ vals'', (∀ j, L j → j < i + n → vals'' j = vals j) ∧ Text R P G a0 vals'' (i + n) ∧ R.RunsW P G (i + n) (R.ops.toList.drop (i + n)) (pre R a0 vals'' (i + n)) := by
  intro n
  induction n with
  | zero => exact fun vals' _ _ h1 h2 h3 => ⟨vals', h1, h2, h3⟩
  | succ n ih =>
    intro vals' hle hkf h1 h2 h3
    obtain ⟨v1, a1, a2, a3⟩ := ih vals' (by omega) (fun j hj => hkf j (by omega)) h1 h2 h3
    obtain ⟨v, b1, b2, b3⟩ := advanceW hok hcl hdet hskip (by omega : i + n < R.ops.size) (hkf _ (by omega)) a1 (fun hn => hnew _ (by omega) (by omega) hn) a2 a3
    exact ⟨Plan.put v1 (i + n) v, b1, b2, b3⟩
theorem reachC (hok : R.ok = true) {L : Nat → Prop} {vals : Nat → Value} (hcl : ∀ i j, L i → (R.deps i).contains j = true → L j)
    (hdet : ∀ i, L i → R.kinds i = .det → RecC R P G a0 vals i) (hskip : ∀ i, L i → R.kinds i = .skip → vals i = undef) {i : Nat} :
    ∀ (n : Nat) (vals' : Nat → Value) (w : World), i + n ≤ R.ops.size → (∀ j, j < i + n → R.kinds j ≠ .fin) → (∀ j, i ≤ j → j < i + n → (R.kinds j).isNew = false) → (∀ j, L j → j < i → vals' j = vals j) → Text R P G a0 vals' i → R.RunsG P Q G i (R.ops.toList.drop i) (pre R a0 vals' i) w →
      ∃ vals'', (∀ j, L j → j < i + n → vals'' j = vals j) ∧ Text R P G a0 vals'' (i + n) ∧ R.RunsG P Q G (i + n) (R.ops.toList.drop (i + n)) (pre R a0 vals'' (i + n)) w := by
  intro n
  induction n with
  | zero => exact fun vals' w _ _ _ h1 h2 h3 => ⟨vals', h1, h2, h3⟩
  | succ n ih =>
    intro vals' w hle hkf hnn h1 h2 h3
    obtain ⟨v1, a1, a2, a3⟩ := ih vals' w (by omega) (fun j hj => hkf j (by omega)) (fun j h h' => hnn j h (by omega)) h1 h2 h3
    obtain ⟨v, b1, b2, b3⟩ := advanceC hok hcl hdet hskip (by omega : i + n < R.ops.size) (hkf _ (by omega)) a1 (hnn _ (by omega) (by omega)) a2 a3
    exact ⟨Plan.put v1 (i + n) v, b1, b2, b3⟩

theorem InvC.end (hok : R.ok = true) {L : Nat → Prop} {vals : Nat → Value} {a : Act} {w : World} (h : InvC R P Q G a0 L vals a w) (hall : ∀ j, L j ↔ j < R.ops.size) (hf : ∀ j, j < R.ops.size → R.kinds j ≠ .fin) : Q .normal a w := by
  obtain ⟨i, vals', hi, hpf, hag, hch, ht, hr⟩ := h.prog
  have hno : ∀ j, i ≤ j → j < R.ops.size → (R.kinds j).isNew = true → ¬ L j := fun j h1 h2 h3 hl => by
    have := (hch j h2 h3).1 hl; omega
  obtain ⟨v2, b1, _, b3⟩ := reachC hok h.closed h.det h.skip (R.ops.size - i) vals' w (by omega) (fun j hj => hf j (by omega)) (fun j h1 h2 => by
    cases hn : (R.kinds j).isNew with
    | false => rfl
    | true => exact absurd ((hall j).2 (by omega)) (hno j h1 (by omega) hn)) hag ht hr
  rw [show i + (R.ops.size - i) = R.ops.size by omega] at b1 b3
  rw [List.drop_of_length_le (by simp)] at b3
  simp only [RunsG] at b3
  have ea : a = pre R a0 v2 R.ops.size := h.frame.unique ((pre_frame hok v2 R.ops.size).congr (fun j => (hall j).symm) (fun j hj => b1 j ((hall j).2 hj) hj))
  rw [ea]
  exact b3

theorem kinds_ok (hch0 : R.chainOk = true) {x : Nat} (hx : x < R.ops.size) (hk : (match R.kinds x with
  | .upd _ => false
  | _ => true) = false) : False := by
  simp only [chainOk, List.all_eq_true, List.mem_range, Bool.and_eq_true] at hch0
  have := (hch0 x hx).1
  rw [hk] at this
  cases this
theorem chain_deps (hch0 : R.chainOk = true) {x j : Nat} (hx : x < R.ops.size) (hj : j < x) : (!(R.kinds x).isNew || (!(R.kinds j).isNew || (R.deps x).contains j)) = true := by
  simp only [chainOk, List.all_eq_true, List.mem_range, Bool.and_eq_true] at hch0
  exact (hch0 x hx).2 j hj

theorem InvC.step (hok : R.ok = true) (hch0 : R.chainOk = true) {L : Nat → Prop} {vals : Nat → Value} {a : Act} {w : World} (h : InvC R P Q G a0 L vals a w)
    {x : Nat} (hx : x < R.ops.size) (hL : ¬ L x) (hready : ∀ j, (R.deps x).contains j = true → L j) (hLn : ∀ j, L j → j < R.ops.size) (hkx : R.kinds x ≠ .fin)
    (K : Act → World → Prop) (hK : ∀ vals' a' w', InvC R P Q G a0 (fun j => L j ∨ j = x) vals' a' w' → K a' w') : wpOp P R.ops Q x K a w := by
  obtain ⟨i, vals', hi, hpf, hag, hch, ht, hr⟩ := h.prog
  have hno : ∀ j, i ≤ j → j < R.ops.size → (R.kinds j).isNew = true → ¬ L j := fun j h1 h2 h3 hl => by
    have := (hch j h2 h3).1 hl; omega
  have hg : R.ops[x]? = some R.ops[x] := by simp [hx]
  have hd : R.dst x = R.ops[x].dst := by simp [dst, hg]
  have dd := (ok_deps hok hg).2
  have later : ∀ j, (j = x ∨ (R.deps j).contains x = true) → ¬ L j := fun j hj hl => by
    rcases hj with rfl | hj
    · exact hL hl
    · exact hL (h.closed j x hl hj)
  have closed' : ∀ y j, (L y ∨ y = x) → (R.deps y).contains j = true → (L j ∨ j = x) := fun y j hy hj => by
    rcases hy with hy | rfl
    · exact .inl (h.closed y j hy hj)
    · exact .inl (hready j hj)
  have keepFrame : ∀ v, Frame R a0 (fun j => L j ∨ j = x) (Plan.put vals x v) (a.put R.ops[x].dst v) := fun v => by rw [← hd]; exact h.frame.put hok x v hL
  have keepSkip : ∀ v, ∀ y, L y → R.kinds y = .skip → Plan.put vals x v y = undef := fun v y hy hky => by
    have : y ≠ x := fun e => hL (e ▸ hy)
    simp [Plan.put, this, h.skip y hy hky]
  have keepRec : ∀ v, ∀ y, L y → R.kinds y = .det → RecC R P G a0 (Plan.put vals x v) y := fun v y hy hky => by
    obtain ⟨o, w1, ho, hb, hrun⟩ := h.det y hy hky
    have hne : ∀ j, L j → j ≠ x := fun j hj e => hL (e ▸ hj)
    have dx := (ok_deps hok ho).2
    refine ⟨o, w1, ho, hb, ?_⟩
    have s2 : ∀ t ∈ o.looksAt R.ops, (pre R a0 (Plan.put vals x v) y).tmps[t]? = (pre R a0 vals y).tmps[t]? :=
      (pre_frame hok (Plan.put vals x v) y).same hok (pre_frame hok vals y) ho (fun j hj => ⟨(dx j hj).1, (dx j hj).1, by simp [Plan.put, hne j (h.closed y j hy hj)]⟩)
        (fun j hj => by
          rcases hj with rfl | hj
          · omega
          · intro hlt'
            have hxl := (Array.getElem?_eq_some_iff.1 ho).1
            have hjl : j < R.ops.size := by omega
            have := ((ok_deps hok (show R.ops[j]? = some R.ops[j] by simp [hjl])).2 y hj).1
            omega) (fun j hj => by omega)
    rw [eval_same (R := R) s2 (ok_select hok ho), hrun]
    simp [Plan.put, hne y hy]
  -- the text's own frame at x, and what is known there
  have same : ∀ vals'', (∀ j, L j → j < x → vals'' j = vals j) → ∀ t ∈ (R.ops[x]).looksAt R.ops, a.tmps[t]? = (pre R a0 vals'' x).tmps[t]? := fun vals'' hag'' =>
    h.frame.same hok (pre_frame hok vals'' x) hg (fun j hj => ⟨hready j hj, (dd j hj).1, (hag'' j (hready j hj) (dd j hj).1).symm⟩) later (fun j hj => by omega)
  have selfRec : ∀ v, (execOp a.eval R.ops[x]).run P w = .ok (.value v) w → RecC R P G a0 (Plan.put vals x v) x := fun v hrun => by
    refine ⟨R.ops[x], w, hg, h.below, ?_⟩
    have e : pre R a0 (Plan.put vals x v) x = pre R a0 vals x := pre_congr x fun j hj => if_neg (Nat.ne_of_lt hj)
    rw [e, eval_same (R := R) (fun t ht => (same vals (fun _ _ _ => rfl) t ht).symm) (ok_select hok hg), hrun]
    simp [Plan.put]
  -- an operation that leaves memory as it is
  have plain : ∀ v, (R.kinds x).isNew = false → (R.kinds x = .det → RecC R P G a0 (Plan.put vals x v) x) → (R.kinds x = .skip → v = undef) → (x < i → vals' x = v) →
      InvC R P Q G a0 (fun j => L j ∨ j = x) (Plan.put vals x v) (a.put R.ops[x].dst v) w := fun v hn hrec hsk hxi => by
    refine ⟨keepFrame v, closed', fun y hy hky => ?_, fun y hy hky => ?_, h.below, i, vals', hi, hpf, fun j hj hji => ?_, fun j hj hjn => ?_, ht, hr⟩
    · by_cases e : y = x
      · subst e; exact hrec hky
      · exact keepRec v y (hy.resolve_right e) hky
    · by_cases e : y = x
      · subst e; simp [Plan.put, hsk hky]
      · exact keepSkip v y (hy.resolve_right e) hky
    · by_cases e : j = x
      · subst e; simp [Plan.put, hxi hji]
      · simp [Plan.put, e, hag j (hj.resolve_right e) hji]
    · have : j ≠ x := fun e => by rw [e, hn] at hjn; cases hjn
      rw [← hch j hj hjn]
      exact ⟨fun h => h.resolve_right this, .inl⟩
  unfold wpOp
  rw [hg]
  simp only
  by_cases hxi : x < i
  · -- passed in the text already
    obtain ⟨t1, t2⟩ := ht x _ hxi hg
    have sm := same vals' fun j hj hjx => hag j hj (by omega)
    have sameE := eval_same (R := R) sm (ok_select hok hg)
    have sameW := wanted_same (R := R) (o := R.ops[x]) sm
    have hnn : (R.kinds x).isNew = false := by
      cases hn : (R.kinds x).isNew with
      | false => rfl
      | true => exact absurd ((hch x hx hn).2 hxi) hL
    cases hki : R.kinds x with
    | skip =>
      obtain ⟨u1, u2⟩ := t2 hki
      rw [sameW, u1]
      simp only [Bool.false_eq_true, if_false]
      exact hK _ _ _ (plain undef hnn (by rw [hki]; intro h; cases h) (fun _ => rfl) (fun _ => u2))
    | det =>
      obtain ⟨u1, u2⟩ := t1 hki
      rw [sameW, u1]
      simp only [if_true]
      refine .inl ?_
      have hrun := u2 w h.below
      rw [← sameE] at hrun
      unfold Oper.wp
      rw [hrun]
      exact hK _ _ _ (plain (vals' x) hnn (fun _ => selfRec _ hrun) (by rw [hki]; intro h; cases h) (fun _ => rfl))
    | new => rw [hki] at hnn; cases hnn
    | upd c => exact (kinds_ok hch0 hx (by rw [hki])).elim
    | fin => exact absurd hki hkx
  · have hxi' : i ≤ x := by omega
    obtain ⟨v2, b1, b2, b3⟩ := reachW hok h.closed h.det h.skip hno (x - i) vals' (by omega) (fun j hj hkj => by have := (ok_fin hok (by omega) hkj).1; omega) hag ht (RunsG.weak _ _ _ _ hr)
    rw [show i + (x - i) = x by omega] at b1 b2 b3
    have sm := same v2 b1
    have sameE := eval_same (R := R) sm (ok_select hok hg)
    have sameW := wanted_same (R := R) (o := R.ops[x]) sm
    rw [drop_at R hx] at b3
    simp only [RunsW] at b3
    cases hki : R.kinds x with
    | skip =>
      rw [hki] at b3
      rw [sameW, b3.1]
      simp only [Bool.false_eq_true, if_false]
      exact hK _ _ _ (plain undef (by rw [hki]; rfl) (by rw [hki]; intro h; cases h) (fun _ => rfl) (fun h => absurd h hxi))
    | det =>
      rw [hki] at b3
      obtain ⟨u1, v, u2, _⟩ := b3
      rw [sameW, u1]
      simp only [if_true]
      refine .inl ?_
      have hrun := u2 w h.below
      rw [← sameE] at hrun
      unfold Oper.wp
      rw [hrun]
      exact hK _ _ _ (plain v (by rw [hki]; rfl) (fun _ => selfRec _ hrun) (by rw [hki]; intro h; cases h) (fun h => absurd h hxi))
    | new =>
      have hprev : ∀ j, j < x → (R.kinds j).isNew = true → L j := fun j hj hjn => by
        refine hready j ?_
        have h1 := chain_deps hch0 hx hj
        rw [hki, hjn] at h1
        simpa [RKind.isNew] using h1
      clear b1 b2 b3 sm sameE sameW
      obtain ⟨v2, b1, b2, b3⟩ := reachC hok h.closed h.det h.skip (x - i) vals' w (by omega) (fun j hj hkj => by have := (ok_fin hok (by omega) hkj).1; omega) (fun j h1 h2 => by
        cases hn : (R.kinds j).isNew with
        | false => rfl
        | true => exact absurd (hprev j (by omega) hn) (hno j h1 (by omega) hn)) hag ht hr
      rw [show i + (x - i) = x by omega] at b1 b2 b3
      have sm := same v2 b1
      have sameE := eval_same (R := R) sm (ok_select hok hg)
      have sameW := wanted_same (R := R) (o := R.ops[x]) sm
      rw [drop_at R hx] at b3
      simp only [RunsG] at b3
      rw [hki] at b3
      obtain ⟨u1, u2, u3, _⟩ := b3
      rw [sameW, u1]
      simp only [if_true]
      refine .inl ?_
      refine wp_same2 (T := fun v w' => G w' ∧ R.RunsG P Q G (x + 1) (R.ops.toList.drop (x + 1)) ((pre R a0 v2 x).put R.ops[x].dst v) w') sameE u2 (h.frame.defers.trans (pre_frame hok v2 x).defers.symm) u3 K fun v w' hT => ?_
      refine hK (Plan.put vals x v) _ _ ⟨keepFrame v, closed', fun y hy hky => ?_, fun y hy hky => ?_, hT.1, x + 1, Plan.put v2 x v, by omega, fun j hj hkj => ?_, fun j hj hjx => ?_, fun j hj hjn => ?_, b2.put _ fun o ho => ⟨(by rw [hki]; intro h; cases h), (by rw [hki]; intro h; cases h)⟩, ?_⟩
      · have e : y ≠ x := fun e => by rw [e, hki] at hky; cases hky
        exact keepRec v y (hy.resolve_right e) hky
      · have e : y ≠ x := fun e => by rw [e, hki] at hky; cases hky
        exact keepSkip v y (hy.resolve_right e) hky
      · rcases Nat.lt_or_ge j x with h1 | h1
        · have := (ok_fin hok (by omega) hkj).1; omega
        · obtain rfl : j = x := by omega
          exact hkx hkj
      · by_cases e : j = x
        · simp [Plan.put, e]
        · simp [Plan.put, e, b1 j (hj.resolve_right e) (by omega)]
      · constructor
        · rintro (hl | rfl)
          · have := (hch j hj hjn).1 hl; omega
          · omega
        · intro hjx
          by_cases e : j = x
          · exact .inr e
          · exact .inl (hprev j (by omega) hjn)
      · simp only [pre]
        rw [hd, show pre R a0 (Plan.put v2 x v) x = pre R a0 v2 x from pre_congr x fun j hj => if_neg (Nat.ne_of_lt hj)]
        simpa [Plan.put] using hT.2
    | upd c => rw [hki] at b3; exact b3.elim
    | fin => exact absurd hki hkx

theorem soundC (hok : R.ok = true) (hch0 : R.chainOk = true) :
    ∀ (fuel : Nat) (listed : Array Bool) (vals : Nat → Value) (a : Act) (w : World), listed.size = R.ops.size → R.left listed ≤ fuel →
      InvC R P Q G a0 (fun j => listed.getD j false = true) vals a w → (∀ j, j < R.ops.size → R.kinds j = .fin → listed.getD j false = false) → wpAny P .any R.ops Q fuel listed a w := by
  have lt_of : ∀ {listed : Array Bool} {j : Nat}, listed.size = R.ops.size → listed.getD j false = true → j < R.ops.size := fun {listed j} hs h => by
    rcases Nat.lt_or_ge j listed.size with h' | h'
    · omega
    · simp [Array.getElem?_eq_none h'] at h
  have done : ∀ (listed : Array Bool) (vals : Nat → Value) (a : Act) (w : World), listed.size = R.ops.size → Region.ready .any R.ops listed = [] →
      InvC R P Q G a0 (fun j => listed.getD j false = true) vals a w → (∀ j, j < R.ops.size → R.kinds j = .fin → listed.getD j false = false) → Q .normal a w := fun listed vals a w hs hr hinv hfin => by
    have hall := all_listed hok hs hr
    exact hinv.end hok (fun j => ⟨fun h => lt_of hs h, fun h => hall j h⟩) (fun j hj hk => by have := hfin j hj hk; rw [hall j hj] at this; cases this)
  intro fuel
  induction fuel with
  | zero =>
    intro listed vals a w hs hl hinv hfin
    have hr : Region.ready .any R.ops listed = [] := by
      cases hr : Region.ready .any R.ops listed with
      | nil => rfl
      | cons i l =>
        have hi : i ∈ Region.ready .any R.ops listed := by rw [hr]; exact List.mem_cons_self
        obtain ⟨h1, o, ho, _⟩ := mem_ready.1 hi
        have hlt := (Array.getElem?_eq_some_iff.1 ho).1
        have : 0 < R.left listed := by
          unfold left
          refine List.length_pos_of_mem (a := i) (List.mem_filter.2 ⟨List.mem_range.2 hlt, ?_⟩)
          simp [hs, hlt] at h1 ⊢; exact h1
        omega
    exact ⟨hr, done listed vals a w hs hr hinv hfin⟩
  | succ fuel ih =>
    intro listed vals a w hs hl hinv hfin
    refine ⟨fun hr => done listed vals a w hs hr hinv hfin, fun i hi => ?_⟩
    obtain ⟨h1, o, ho, hall⟩ := mem_ready.1 hi
    have hlt := (Array.getElem?_eq_some_iff.1 ho).1
    have hli : listed.getD i false = false := by simp [hs, hlt] at h1 ⊢; exact h1
    have hset : ∀ j, (listed.setIfInBounds i true).getD j false = true ↔ (listed.getD j false = true ∨ j = i) := fun j => by
      by_cases e : i = j
      · subst e; simp [hs, hlt]
      · rw [getD_set_ne false e]; simp [show j ≠ i from fun h => e h.symm]
    have hleft : R.left (listed.setIfInBounds i true) ≤ fuel := by
      have : R.left (listed.setIfInBounds i true) < R.left listed := by
        unfold left
        refine filter_lt _ _ _ (fun x hx => ?_) (List.mem_range.2 hlt) (by rw [hli]; rfl) (by rw [(hset i).2 (.inr rfl)]; rfl)
        cases hx' : listed.getD x false with
        | true => rw [(hset x).2 (.inl hx')] at hx; cases hx
        | false => rfl
      omega
    have hready : ∀ j, (R.deps i).contains j = true → listed.getD j false = true := fun j hj => by
      obtain ⟨_, e, he, hb, h2⟩ := (ok_deps hok ho).2 j hj
      have h3 := hall e he hb
      rcases h2 with h2 | h2
      · rw [← h2]; exact h3
      · exact hinv.closed e.on j h3 h2
    by_cases hk : R.kinds i = .fin
    · -- the last one, behind all others
      obtain ⟨hn, hdall⟩ := ok_fin hok hlt hk
      have hothers : ∀ j, j < i → listed.getD j false = true := fun j hj => hready j (hdall j hj)
      have hg : R.ops[i]? = some R.ops[i] := by simp [hlt]
      obtain ⟨i0, vals', hi0, hpf, hag, hch, ht, hr⟩ := hinv.prog
      have hi0i : i0 ≤ i := by
        rcases Nat.lt_or_ge i i0 with h1 | h1
        · exact absurd hk (hpf i h1)
        · exact h1
      have hno : ∀ j, i0 ≤ j → j < R.ops.size → (R.kinds j).isNew = true → ¬ (listed.getD j false = true) := fun j h1 h2 h3 hl' => by
        have := (hch j h2 h3).1 hl'; omega
      obtain ⟨v2, b1, _, b3⟩ := reachC hok hinv.closed hinv.det hinv.skip (i - i0) vals' w (by omega) (fun j hj hkj => by have := (ok_fin hok (by omega) hkj).1; omega) (fun j h1 h2 => by
        cases hn' : (R.kinds j).isNew with
        | false => rfl
        | true => exact absurd (hothers j (by omega)) (hno j h1 (by omega) hn')) hag ht hr
      rw [show i0 + (i - i0) = i by omega] at b1 b3
      rw [drop_at R hlt] at b3
      simp only [RunsG] at b3
      rw [hk] at b3
      obtain ⟨hw, _, hwp⟩ := b3
      have ha : a = pre R a0 v2 i := hinv.frame.unique ((pre_frame hok v2 i).congr (fun j => ⟨fun h => hothers j h, fun h => by
        have h1 := lt_of hs h
        have h2 : j ≠ i := fun e => by rw [e, hli] at h; cases h
        omega⟩) (fun j hj => b1 j (hothers j hj) hj))
      rw [← ha] at hwp
      rw [← ha] at hw
      unfold wpOp
      rw [hg]
      simp only
      rw [hw]
      simp only [if_true]
      refine .inl (Oper.wp_mono (fun b w' hq => ?_) hwp)
      have hr' : Region.ready .any R.ops (listed.setIfInBounds i true) = [] := by
        cases hr : Region.ready .any R.ops (listed.setIfInBounds i true) with
        | nil => rfl
        | cons j l =>
          have hj : j ∈ Region.ready .any R.ops (listed.setIfInBounds i true) := by rw [hr]; exact List.mem_cons_self
          obtain ⟨h1, oj, hoj, _⟩ := mem_ready.1 hj
          have hjl := (Array.getElem?_eq_some_iff.1 hoj).1
          have : (listed.setIfInBounds i true).getD j false = true := (hset j).2 (by
            rcases Nat.lt_or_ge j i with h | h
            · exact .inl (hothers j h)
            · exact .inr (by omega))
          simp [hs, hjl] at h1 this
          rw [h1] at this; cases this
      cases fuel with
      | zero => exact ⟨hr', hq⟩
      | succ fuel => exact ⟨fun _ => hq, fun j hj => by rw [hr'] at hj; cases hj⟩
    · refine hinv.step hok hch0 hlt (by rw [hli]; simp) hready (fun j hj => lt_of hs hj) hk _ fun vals' a' w' hinv' => ?_
      refine ih (listed.setIfInBounds i true) vals' a' w' (by simpa using hs) hleft ?_ (fun j hj hkj => ?_)
      · have e : (fun j => (listed.setIfInBounds i true).getD j false = true) = fun j => listed.getD j false = true ∨ j = i := funext fun j => propext (hset j)
        rw [e]
        exact hinv'
      · have := hfin j hj hkj
        cases hx : (listed.setIfInBounds i true).getD j false with
        | false => rfl
        | true =>
          rcases (hset j).1 hx with h | h
          · rw [this] at h; cases h
          · rw [h] at hkj; exact absurd hkj hk

/-- A REGION THAT DRAWS ITS ORDER, its writes in a chain: in the text's own order. -/
theorem wp_chainG {id : Nat} {l : List Oper} {a : Act} {w : World} (R : Plan) (G : World → Prop) (hG : G w.drew) (hmix : P.follows .mixedOrders = true) (hops : R.ops = l.toArray) (hok : R.ok = true) (hch0 : R.chainOk = true)
    (h0 : R.RunsG P Q G 0 l a w.drew) : (Code.region id l.toArray true).wp P Q a w := by
  rw [← hops]
  refine wp_region_any hmix (soundC (G := G) (a0 := a) hok hch0 R.ops.size _ (fun _ => undef) a _ (by simp) ?_ ?_ ?_)
  · unfold left
    exact Nat.le_trans (List.length_filter_le _ _) (by simp)
  · have hno : ∀ j, ¬ (Array.replicate R.ops.size false).getD j false = true := fun j h => by
      rcases Nat.lt_or_ge j R.ops.size with h' | h' <;> simp [h'] at h
    refine ⟨(Frame.start (fun _ => undef)).congr (fun j => ⟨fun h => h.elim, fun h => (hno j h).elim⟩) (fun j _ => rfl), fun i j h => (hno i h).elim, fun i h => (hno i h).elim, fun i h => (hno i h).elim, hG, 0, fun _ => undef, Nat.zero_le _, fun j hj => by omega, fun j h => (hno j h).elim, fun j _ _ => ⟨fun h => (hno j h).elim, fun h => by omega⟩, fun j o hj => by omega, ?_⟩
    rw [hops]
    simpa [pre] using h0
  · intro j hj _
    simp [hj]

theorem wp_some {o : Oper} {a : Act} {w : World} {K : Act → World → Prop} (h : o.wp P a w K NoQ) : ∃ a' w', K a' w' := by
  unfold Oper.wp at h
  generalize (execOp a.eval o).run P w = r at h
  cases r with
  | ok n w' =>
    cases n <;> simp only [Oper.upon] at h
    case value u => exact ⟨_, _, h⟩
    case skip => exact ⟨_, _, h⟩
    case defer d => exact ⟨_, _, h⟩
    case enter f args =>
      obtain ⟨e, w'', fr, hr, _⟩ := h []
      cases e with
      | returned u => exact ⟨_, _, hr⟩
      | panicked c => exact hr.elim
      | outgrown => obtain ⟨_, _, hh⟩ := hr; exact hh.elim
    case row row args =>
      obtain ⟨u, w'', hr, _⟩ := h (Frame.enter P 0 #[] .normal) []
      exact ⟨_, _, hr⟩
  | halt x w' =>
    cases x <;> simp only [Oper.upon] at h
    case panic u => exact h.elim
theorem wp_noq {o : Oper} {a : Act} {w : World} {K : Act → World → Prop} {Q' : Exit → Act → World → Prop} (h : o.wp P a w K NoQ) : o.wp P a w K Q' := by
  unfold Oper.wp at *
  generalize (execOp a.eval o).run P w = r at *
  cases r with
  | ok n w' =>
    cases n <;> simp only [Oper.upon] at h ⊢
    case value u => exact h
    case skip => exact h
    case defer d => exact h
    case enter f args =>
      refine Calls.mono h fun e w'' he => ?_
      cases e with
      | returned u => exact he
      | panicked c => exact he.elim
      | outgrown => obtain ⟨_, _, hh⟩ := he; exact hh.elim
    case row row args => exact h
  | halt x w' =>
    cases x <;> simp only [Oper.upon] at h ⊢
    case panic u => exact h.elim

variable {i : Nat} {o : Oper} {l : List Oper} {a : Act} {w : World}
theorem chain_det {v : Value} (hk : R.kinds i = .det) (hw : Region.wanted o (yielded R.ops a.tmps) = true) (hv : ∀ w', G w' → (execOp a.eval o).run P w' = .ok (.value v) w')
    (h : R.RunsG P Q G (i + 1) l (a.put o.dst v) w) : R.RunsG P Q G i (o :: l) a w := by
  simp only [RunsG]; rw [hk]; exact ⟨hw, v, hv, h⟩
theorem chain_skip (hk : R.kinds i = .skip) (hw : Region.wanted o (yielded R.ops a.tmps) = false)
    (h : R.RunsG P Q G (i + 1) l (a.put o.dst undef) w) : R.RunsG P Q G i (o :: l) a w := by
  simp only [RunsG]; rw [hk]; exact ⟨hw, h⟩
/-- An operation that touches memory: in the world as it stands. -/
theorem chain_mem (hk : R.kinds i = .new) (hw : Region.wanted o (yielded R.ops a.tmps) = true) (hd : dstIn o a = true)
    (h : ∀ K : Act → World → Prop, (∀ v w', G w' → R.RunsG P Q G (i + 1) l (a.put o.dst v) w' → K (a.put o.dst v) w') → o.wp P a w K NoQ) : R.RunsG P Q G i (o :: l) a w := by
  have h1 := h (fun a' w' => ∃ v, a' = a.put o.dst v ∧ G w' ∧ R.RunsG P Q G (i + 1) l (a.put o.dst v) w') fun v w' h1 h2 => ⟨v, rfl, h1, h2⟩
  simp only [RunsG]; rw [hk]
  refine ⟨hw, hd, wp_noq h1, ?_⟩
  obtain ⟨a', w', v, _, _, h3⟩ := wp_some h1
  exact ⟨v, RunsG.weak _ _ _ _ h3⟩
/-- A call that panics. -/
theorem chain_panic (f : FuncId) (args : Array Value) (hk : R.kinds i = .new) (hw : Region.wanted o (yielded R.ops a.tmps) = true) (hd : dstIn o a = true)
    (hrun : (execOp a.eval o).run P w = .ok (.enter f args) w) (hcall : Calls P f args w fun e w' => ∃ c, e = .panicked c ∧ ∀ b : Act, b.defers = a.defers → Q (.panic c) b w') (v : Value) (hrest : R.RunsW P G (i + 1) l (a.put o.dst v)) : R.RunsG P Q G i (o :: l) a w := by
  simp only [RunsG]; rw [hk]
  refine ⟨hw, hd, ?_, v, hrest⟩
  unfold Oper.wp
  rw [hrun]
  refine Calls.mono hcall ?_
  rintro e w' ⟨c, rfl, hD⟩
  exact hD
theorem weak_det {v : Value} (hk : R.kinds i = .det) (hw : Region.wanted o (yielded R.ops a.tmps) = true) (hv : ∀ w', G w' → (execOp a.eval o).run P w' = .ok (.value v) w') (h : R.RunsW P G (i + 1) l (a.put o.dst v)) : R.RunsW P G i (o :: l) a := by
  simp only [RunsW]; rw [hk]; exact ⟨hw, v, hv, h⟩
theorem weak_skip (hk : R.kinds i = .skip) (hw : Region.wanted o (yielded R.ops a.tmps) = false) (h : R.RunsW P G (i + 1) l (a.put o.dst undef)) : R.RunsW P G i (o :: l) a := by
  simp only [RunsW]; rw [hk]; exact ⟨hw, h⟩
theorem weak_new (v : Value) (hk : R.kinds i = .new) (h : R.RunsW P G (i + 1) l (a.put o.dst v)) : R.RunsW P G i (o :: l) a := by
  simp only [RunsW]; rw [hk]; exact ⟨v, h⟩
theorem weak_fin (hk : R.kinds i = .fin) : R.RunsW P G i [o] a := by
  simp only [RunsW]; rw [hk]; trivial
theorem weak_nil : R.RunsW P G i [] a := trivial
/-- One that ends with one value, by running it. -/
theorem chain_run (v : Value) (w' : World) (hk : R.kinds i = .new) (hw : Region.wanted o (yielded R.ops a.tmps) = true) (hd : dstIn o a = true)
    (hrun : (execOp a.eval o).run P w = .ok (.value v) w') (hb : G w') (h : R.RunsG P Q G (i + 1) l (a.put o.dst v) w') : R.RunsG P Q G i (o :: l) a w :=
  chain_mem hk hw hd fun K hK => by
    unfold Oper.wp
    rw [hrun]
    exact hK v w' hb h
/-- A call. -/
theorem chain_call (f : FuncId) (args : Array Value) (D : Value → World → Prop) (hk : R.kinds i = .new) (hw : Region.wanted o (yielded R.ops a.tmps) = true) (hd : dstIn o a = true)
    (hrun : (execOp a.eval o).run P w = .ok (.enter f args) w) (hcall : Calls P f args w fun e w' => ∃ v, e = .returned v ∧ D v w') (hb : ∀ v w', D v w' → G w')
    (h : ∀ v w', D v w' → R.RunsG P Q G (i + 1) l (a.put o.dst v) w') : R.RunsG P Q G i (o :: l) a w :=
  chain_mem hk hw hd fun K hK => by
    unfold Oper.wp
    rw [hrun]
    refine Calls.mono hcall ?_
    rintro e w' ⟨v, rfl, hD⟩
    exact hK v w' (hb v w' hD) (h v w' hD)
variable {B : Nat} {w0 : World}
/-- The same, the blocks below B unchanged. -/
abbrev RunsC (R : Plan) (P : Program) (Q : Exit → Act → World → Prop) (B : Nat) (w0 : World) := R.RunsG P Q (Below B w0)
theorem wp_chain {id : Nat} {l : List Oper} {a : Act} {w : World} (R : Plan) (B : Nat) (hmix : P.follows .mixedOrders = true) (hops : R.ops = l.toArray) (hok : R.ok = true) (hch0 : R.chainOk = true)
    (h0 : R.RunsC P Q B w 0 l a w.drew) : (Code.region id l.toArray true).wp P Q a w := wp_chainG R (Below B w) (Below.refl B w).drew hmix hops hok hch0 h0
/-- append onto a row of the call's own. -/
theorem chain_append {α : Type} [Inhabited α] (E : Enc α) (s x : Operand) (t : TypeId) (base lo : Nat) (e : TypeId) (z : Value) (bytes : Nat) (L r : List α)
    (hk : R.kinds i = .new) (hw : Region.wanted o (yielded R.ops a.tmps) = true) (hd : dstIn o a = true)
    (ho : o.op = .call { callee := .builtin .append, args := #[s, x], argTypes := #[t, t] })
    (ht : P.underlying t = some (.slice e)) (hinfo : (P.info? e).map (fun i => (i.zero, i.size, i.bytes)) = some (some z, E.sz, bytes)) (hz : z.cells.size = E.sz)
    (hown : OwnE E base e w (a.eval s) L) (hsrc : SlE E lo w (a.eval x) r) (hb : (L.length + r.length) * bytes ≤ 140737488355328) (hm : L.length + r.length ≤ maxLen) (hbase : base ≤ w.heap.size) (hB : B ≤ base) (hbel : Below B w0 w)
    (h : ∀ b m w', OwnE E base e w' (.slice b (L ++ r).length m) (L ++ r) → w.grownBy w' (a.eval s).ownBlock → Below B w0 w' → R.RunsG P Q (Below B w0) (i + 1) l (a.put o.dst (.slice b (L ++ r).length m)) w') : R.RunsG P Q (Below B w0) i (o :: l) a w :=
  chain_mem hk hw hd fun K hK => by
    obtain ⟨v', w', e1, e2, e3, e4⟩ := run_append_E (P := P) E w base lo t o.type e z bytes ht hinfo hz _ L hown _ r hsrc hb hm hbase
    obtain ⟨b, m, rfl⟩ := anySlice_of e2
    have hbel' : Below B w0 w' := Below.grownE hbel hown e3 (Nat.le_trans hB hbase) hB
    unfold Oper.wp
    simp only [execOp, ho, resolve, invoke, builtin, Sem.run_bind, Sem.run_pure, Result.andThen_ok, List.map_toArray, List.map_cons, List.map_nil, e1]
    exact hK _ w' hbel' (h b m w' e2 e3 hbel')
/-- A slice literal. -/
theorem chain_lit {α : Type} (E : Enc α) (base : Nat) (e : TypeId) (L : List α) (cs : Array Value) (n : Nat)
    (hk : R.kinds i = .new) (hw : Region.wanted o (yielded R.ops a.tmps) = true) (hd : dstIn o a = true)
    (hrun : (execOp a.eval o).run P w = .ok (.value (.slice (some ⟨w.heap.size, 0, none⟩) n n)) (w.alloc (.cells cs e))) (hn : n = L.length) (hc : cs.toList = L.flatMap E.enc) (hs : L.length ≤ 1000)
    (hbase : base ≤ w.heap.size) (hB : B ≤ w.heap.size) (hbel : Below B w0 w)
    (h : OwnE E base e (w.alloc (.cells cs e)) (.slice (some ⟨w.heap.size, 0, none⟩) n n) L → Below B w0 (w.alloc (.cells cs e)) → R.RunsG P Q (Below B w0) (i + 1) l (a.put o.dst (.slice (some ⟨w.heap.size, 0, none⟩) n n)) (w.alloc (.cells cs e))) : R.RunsG P Q (Below B w0) i (o :: l) a w :=
  chain_run _ _ hk hw hd hrun (hbel.alloc hB _) (h (OwnE.lit E w base e L cs _ n rfl hbase hn hc hs) (hbel.alloc hB _))
/-- The last one, behind all others. -/
theorem chain_fin {G : World → Prop} (hk : R.kinds i = .fin) (hw : Region.wanted o (yielded R.ops a.tmps) = true) (h : o.wp P a w (Q .normal) Q) : R.RunsG P Q G i [o] a w := by
  simp only [RunsG]; rw [hk]; exact ⟨hw, trivial, h⟩
theorem chain_nil {G : World → Prop} (h : Q .normal a w) : R.RunsG P Q G i [] a w := h

end Plan
end Go.Proofs.Ytealeofgfgbheaa
