/-
  What remains of a valid function is a valid function.
-/
import Derived.Test.YteiohnfmlabelaaGreatZPath
import Derived.Test.YteiohnfmlabelaaGreatZPrB
namespace Go.Proofs.YteiohnfmlabelaaGreat
set_option linter.unusedVariables false
set_option linter.unusedSimpArgs false
open Go.RowKit

/-- A program with new code of a function. -/
def put (p : Prg) (F : Nat) (c : List Ins) : Prg := { p with funcs := p.funcs.set F { nth p.funcs F with code := c } }
theorem put_at (p : Prg) (F : Nat) (c : List Ins) (hF : F < p.funcs.length) : nth (put p F c).funcs F = { nth p.funcs F with code := c } := by
  unfold put nth
  rw [List.getD_eq_getElem?_getD, List.getElem?_set_self hF]
  rfl
theorem put_ne (p : Prg) (F i : Nat) (c : List Ins) (h : i ≠ F) : nth (put p F c).funcs i = nth p.funcs i := by
  unfold put nth
  rw [List.getD_eq_getElem?_getD, List.getElem?_set_ne (by omega)]
  rfl
theorem put_len (p : Prg) (F : Nat) (c : List Ins) : (put p F c).funcs.length = p.funcs.length := by simp [put]
theorem put_sam (p : Prg) (F : Nat) (c : List Ins) : Sam p (put p F c) := by
  refine ⟨put_len p F c, rfl, rfl, rfl, fun i hi => ?_⟩
  by_cases h : i = F
  · subst h; rw [put_at p i c hi]; exact ⟨rfl, rfl, rfl⟩
  · rw [put_ne p F i c h]; exact ⟨rfl, rfl, rfl⟩
theorem put_self (p : Prg) (F : Nat) (hF : F < p.funcs.length) : put p F (nth p.funcs F).code = p := by
  unfold put
  have e : p.funcs.set F (nth p.funcs F) = p.funcs := by rw [nth_eq _ _ hF]; exact List.set_getElem_self hF
  have e2 : ({ nth p.funcs F with code := (nth p.funcs F).code } : Fun) = nth p.funcs F := rfl
  rw [e2, e]
theorem put_put (p : Prg) (F : Nat) (c d : List Ins) (hF : F < p.funcs.length) : put (put p F c) F d = put p F d := by
  have h := put_at p F c hF
  unfold put at h ⊢
  simp only at h ⊢
  rw [h]
  simp

theorem filt_no (l : List Ins) : ∀ i, filt id (fun _ => false) l i = l := by
  induction l with
  | nil => intro i; rfl
  | cons x l ih => intro i; simp only [filt]; rw [ih]; rfl
theorem filt_a (a : Ins → Ins) (l : List Ins) : ∀ i, filt a (fun _ => false) l i = l.map a := by
  induction l with
  | nil => intro i; rfl
  | cons x l ih => intro i; simp only [filt]; rw [ih]; rfl
theorem funcB_parts {p : Prg} {f : Fun} (h : funcB p f = true) : headB f = true ∧ scanB p f f.code 0 = true ∧ (lastOp f = 30 ∨ lastOp f = 16) := by
  have h' := h
  simp only [funcB, Bool.and_eq_true, Bool.or_eq_true, beq_iff_eq] at h'
  exact ⟨h'.1, h'.2.2, h'.2.1⟩
theorem funcB_of {p : Prg} {f : Fun} (h1 : headB f = true) (h2 : scanB p f f.code 0 = true) (h3 : lastOp f = 30 ∨ lastOp f = 16) : funcB p f = true := by
  simp only [funcB, Bool.and_eq_true, Bool.or_eq_true, beq_iff_eq]
  exact ⟨h1, h3, h2⟩
theorem funcB_sam {p p' : Prg} (h : Sam p p') {f : Fun} (hf : funcB p f = true) : funcB p' f = true := by
  obtain ⟨h1, h2, h3⟩ := funcB_parts hf
  have hk := fok_of_funcB hf
  refine funcB_of h1 ?_ h3
  have := scan_filt p p' f f id (fun _ => rfl) (fun _ => rfl) (fun _ => false) f.code 0 0 0 false h2 (fun _ => rfl) (fun _ => Int.le_refl _) (fun h => by omega) (fun _ _ _ _ _ _ => rfl) (fun k hk2 _ => instr_remap h rfl (hk.ins k hk2) (fun _ => rfl) (fun hj => ⟨rfl, instr_jump (hk.ins k hk2) hj⟩))
  rw [filt_no] at this
  exact this
theorem valid_put {p : Prg} (hv : validB p = true) (F : Nat) (hF : F < p.funcs.length) (c : List Ins) (hc : funcB (put p F c) { nth p.funcs F with code := c } = true) : validB (put p F c) = true := by
  have hs := put_sam p F c
  have hv' := hv
  simp only [validB, topB, Bool.and_eq_true, decide_eq_true_eq] at hv ⊢
  obtain ⟨⟨t1, t2, t3, t4, t5, t6⟩, g1, g2⟩ := hv
  refine ⟨⟨by rw [hs.len]; exact t1, t2, t3, t4, by rw [hs.len]; exact t5, ?_⟩, g1, ?_⟩
  · have := (hs.same p.main.toNat (by omega)).2.1
    show ((nth (put p F c).funcs p.main.toNat).params == 0) = true
    rw [this]
    exact t6
  · unfold funsB at g2 ⊢
    rw [hs.len]
    rw [List.all_eq_true] at g2 ⊢
    intro i hi
    have hil : i < p.funcs.length := by simpa using hi
    have := g2 i hi
    unfold funOk at this ⊢
    simp only [Bool.and_eq_true] at this ⊢
    refine ⟨?_, ?_⟩
    · by_cases h : i = F
      · subst h; rw [put_at p i c hil]; exact hc
      · rw [put_ne p F i c h]; exact funcB_sam hs this.1
    · have h2 := this.2
      rw [List.all_eq_true] at h2 ⊢
      intro k hk
      have hkl : k < p.funcs.length := by have : k < i := by simpa using hk
                                          omega
      have := h2 k hk
      rw [(hs.same k hkl).1, (hs.same i hil).1]
      exact this

theorem head_self (c : List Ins) (k : Nat) (h : (nth c k).op ≠ 51) : headN c k = k := by
  cases k with
  | zero => rfl
  | succ k => unfold headN; rw [if_neg h]
theorem head_case (c : List Ins) (k : Nat) (h : (nth c k).op ≠ 51) : ∀ j, (∀ q, q < j → (nth c (k + 1 + q)).op = 51) → headN c (k + j) = k
  | 0, _ => head_self c k h
  | j + 1, hq => by
    show headN c (k + j + 1) = k
    unfold headN
    rw [if_pos (by have := hq j (by omega); rw [show k + j + 1 = k + 1 + j by omega]; exact this)]
    exact head_case c k h j fun q hq' => hq q (by omega)
theorem case_head {p : Prg} {f : Fun} (h : Fok p f) : ∀ k, k < f.code.length → (nth f.code k).op = 51 → ∃ s j : Nat, (nth f.code s).op = 50 ∧ (j : Int) < (nth f.code s).b ∧ k = s + 1 + j
  | 0, _, h51 => absurd h51 h.first
  | k + 1, hk, h51 => by
    by_cases h50 : (nth f.code k).op = 50
    · refine ⟨k, 0, h50, ?_, rfl⟩
      obtain ⟨hb, _⟩ := instr_sel (h.ins k (by omega)) h50
      refine Classical.byContradiction fun hn => ?_
      exact h.past k (by omega) h50 0 (by omega) (by omega) h51
    · by_cases h5 : (nth f.code k).op = 51
      · obtain ⟨s, j, h1, h2, h3⟩ := case_head h k (by omega) h5
        refine ⟨s, j + 1, h1, ?_, by omega⟩
        refine Classical.byContradiction fun hn => ?_
        refine h.past s (by omega) h1 (j + 1) (by push_cast; omega) (by omega) ?_
        rw [show s + 1 + (j + 1) = k + 1 by omega]
        exact h51
      · exact absurd h51 (h.plain k hk h50 h5)
theorem sel_next {p : Prg} {f : Fun} (h : Fok p f) (k : Nat) (hk : k < f.code.length) (h50 : (nth f.code k).op = 50) : ∃ b : Nat, (nth f.code k).b = b ∧ k + 1 + b < f.code.length ∧ ((k + 1 + b : Nat) : Int) ∈ nextL f.code k := by
  obtain ⟨h1, h2, h3⟩ := h.selEnd k hk h50
  have hle := h.le
  refine ⟨(nth f.code k).b.toNat, by omega, by omega, ?_⟩
  rw [nextL_in _ _ hk]
  unfold nextIns
  rw [if_neg (by omega), if_neg (by omega), if_neg (by omega), if_pos h50]
  have e : wrapI ((k : Int) + 1 + (nth f.code k).b) = (k : Int) + 1 + (nth f.code k).b := by unfold wrapI wrap64; omega
  rw [e]
  simp
  omega
/-- No path leads to a case. -/
theorem path_plain {p : Prg} {f : Fun} (h : Fok p f) {k : Nat} (hp : Path f.code (-1) k) : (nth f.code k).op ≠ 51 := by
  cases hp with
  | start _ _ => exact h.first
  | step i _ hi hx _ =>
    have hil := nextL_lt f.code i _ hx
    have hkl := (h.jok.nx i hil _ hx).2
    rw [nextL_in _ _ hil] at hx
    unfold nextIns at hx
    split at hx
    · simp at hx
    · rename_i h1
      split at hx
      · rename_i h2
        simp at hx
        have := instr_jump (h.ins i hil) (.inl h2)
        rw [← hx] at this
        simpa using this.2.2
      · split at hx
        · rename_i h3
          rcases (pairL_mem _ _ _).1 hx with e | e
          · have e2 : k = i + 1 := by omega
            subst e2
            exact h.plain i (by omega) (by omega) (by omega)
          · have := instr_jump (h.ins i hil) (.inr h3)
            rw [← e] at this
            simpa using this.2.2
        · rename_i h2 h3
          split at hx
          · rename_i h4
            simp at hx
            obtain ⟨hb1, hb2, hb3⟩ := h.selEnd i hil h4
            have hle := h.le
            have e : wrapI ((i : Int) + 1 + (nth f.code i).b) = (i : Int) + 1 + (nth f.code i).b := by unfold wrapI wrap64; omega
            rw [e] at hx
            have e2 : k = i + 1 + (nth f.code i).b.toNat := by omega
            rw [e2]
            exact h.past i hil h4 _ (by omega) (by omega)
          · rename_i h4
            simp at hx
            have e2 : k = i + 1 := by omega
            subst e2
            exact h.plain i (by omega) h4 (by omega)

/-- Which instructions may go. -/
structure GoneOk (t : List Ins) (g : Nat → Bool) : Prop where
  sel : ∀ k, k < t.length → (nth t k).op = 50 → ∀ j : Nat, (j : Int) < (nth t k).b → k + 1 + j < t.length → g (k + 1 + j) = g k
  nxt : ∀ k, k < t.length → g k = true → Path t (-1) k → Path t (-1) (k + 1)
  reach : ∀ k, k < t.length → g k = false → nth (reachL t) k = true
theorem GoneOk.kept {t : List Ins} {g : Nat → Bool} (h : GoneOk t g) (hj : Jok t) : ∀ (m i : Nat), t.length - i ≤ m → Path t (-1) i → ∃ k, i ≤ k ∧ k < t.length ∧ g k = false ∧ ∀ j, i ≤ j → j < k → g j = true
  | 0, i, hm, hp => by have := hp.lt hj; omega
  | m + 1, i, hm, hp => by
    have hi := hp.lt hj
    cases hg : g i with
    | false => exact ⟨i, Nat.le_refl _, hi, hg, fun j h1 h2 => by omega⟩
    | true =>
      obtain ⟨k, h1, h2, h3, h4⟩ := h.kept hj m (i + 1) (by omega) (h.nxt i hi hg hp)
      refine ⟨k, by omega, h2, h3, fun j h5 h6 => ?_⟩
      rcases Nat.lt_or_ge j (i + 1) with h7 | h7
      · rw [show j = i by omega]; exact hg
      · exact h4 j h7 h6
/-- Targets behind the removal. -/
def reN (g : Nat → Bool) (x : Ins) : Ins := if jumps x.op then { x with c := (keepN g x.c.toNat : Nat) } else x
theorem reN_op (g : Nat → Bool) (x : Ins) : (reN g x).op = x.op := by unfold reN; split <;> rfl
theorem reN_b (g : Nat → Bool) (x : Ins) : (reN g x).b = x.b := by unfold reN; split <;> rfl
def outC (t : List Ins) (g : Nat → Bool) : List Ins := filt (reN g) g t 0

open Classical in
theorem head_path {p : Prg} {f : Fun} (h : Fok p f) {g : Nat → Bool} (hg : GoneOk f.code g) (k : Nat) (hk : k < f.code.length) (hgk : g k = false) : Path f.code (-1) (headN f.code k) := by
  have h1 := hg.reach k hk hgk
  rw [reachL_at _ _ hk] at h1
  have hl : headN f.code k < f.code.length := by have := headN_le f.code k; omega
  rw [reachB_at _ _ _ hl] at h1
  exact of_decide_eq_true h1
theorem out_func {p p' : Prg} {f : Fun} (hs : Sam p p') (hf : funcB p f = true) {g : Nat → Bool} (hg : GoneOk f.code g) : funcB p' { f with code := outC f.code g } = true := by
  have hk := fok_of_funcB hf
  obtain ⟨h1, h2, h3⟩ := funcB_parts hf
  have hjok := hk.jok
  have hlen : (outC f.code g).length = keepN g f.code.length := filt_len0 _ _ _
  have hat : ∀ k, k < f.code.length → g k = false → keepN g k < (outC f.code g).length ∧ nth (outC f.code g) (keepN g k) = reN g (nth f.code k) := fun k h4 h5 => filt_at _ _ _ _ h4 h5
  have h0 : Path f.code (-1) 0 := .start (by omega) hk.pos
  obtain ⟨k0, _, hk0, hg0, _⟩ := hg.kept hjok _ 0 (Nat.le_refl _) h0
  have hpos := (hat k0 hk0 hg0).1
  -- a target that is reached
  have htg : ∀ a : Nat, Path f.code (-1) a → Tg (outC f.code g) (keepN g a : Nat) := fun a ha => by
    obtain ⟨k, b1, b2, b3, b4⟩ := hg.kept hjok _ a (Nat.le_refl _) ha
    have e : keepN g k = keepN g a := by
      have := keepN_gone g a (k - a) fun j hj => b4 (a + j) (by omega) (by omega)
      rw [show a + (k - a) = k by omega] at this
      exact this
    obtain ⟨c1, c2⟩ := hat k b2 b3
    rw [e] at c1 c2
    refine ⟨by omega, by omega, ?_⟩
    rw [Int.toNat_natCast, c2, reN_op]
    intro h51
    obtain ⟨s, j, d1, d2, d3⟩ := case_head hk k b2 h51
    have hsl : s < f.code.length := by omega
    have hgs := hg.sel s hsl d1 j d2 (by omega)
    rw [← d3, b3] at hgs
    rcases Nat.lt_or_ge s a with h6 | h6
    · have h7 : (nth f.code a).op = 51 := by
        have := hk.sel s hsl d1 (a - (s + 1)) (by omega) (by omega)
        rw [show s + 1 + (a - (s + 1)) = a by omega] at this
        exact this
      exact path_plain hk ha h7
    · rw [b4 s h6 (by omega)] at hgs
      cases hgs
  have hins : ∀ k, k < f.code.length → g k = false → instrB p' { f with code := outC f.code g } (reN g (nth f.code k)) = true := fun k h4 h5 => by
    refine instr_remap (f := f) hs rfl (hk.ins k h4) (fun hn => by unfold reN; rw [if_neg hn]) (fun hj => ?_)
    have e : reN g (nth f.code k) = { nth f.code k with c := (keepN g (nth f.code k).c.toNat : Nat) } := by unfold reN; rw [if_pos hj]
    rw [e]
    refine ⟨rfl, htg _ ?_⟩
    have hne : (nth f.code k).op ≠ 51 := by rcases hj with h | h | h <;> omega
    have hp := head_path hk hg k h4 h5
    rw [head_self _ _ hne] at hp
    obtain ⟨j1, j2, _⟩ := instr_jump (hk.ins k h4) hj
    refine .step k _ hp ?_ (by omega)
    rw [nextL_in _ _ h4, Int.toNat_of_nonneg j1]
    unfold nextIns
    rcases hj with h | h | h
    · rw [if_neg (by omega), if_pos h]; simp
    · rw [if_neg (by omega), if_neg (by omega), if_pos (.inl h)]; exact (pairL_mem _ _ _).2 (.inr rfl)
    · rw [if_neg (by omega), if_neg (by omega), if_pos (.inr h)]; exact (pairL_mem _ _ _).2 (.inr rfl)
  refine funcB_of ?_ ?_ ?_
  · simp only [headB, Bool.and_eq_true, decide_eq_true_eq] at h1 ⊢
    obtain ⟨a1, a2, a3, a4, a5, a6⟩ := h1
    refine ⟨a1, a2, a3, a4, by omega, ?_⟩
    show (outC f.code g).length ≤ 1000
    have := keepN_le g f.code.length
    omega
  · exact scan_filt p p' f _ (reN g) (reN_op g) (reN_b g) g f.code 0 0 0 false h2 (fun _ => rfl) (fun _ => Int.le_refl _) (fun h => by omega) (fun k h4 h5 j h6 h7 => by simpa using hg.sel k h4 h5 j h6 h7) (fun k h4 h5 => hins k h4 (by simpa using h5))
  · obtain ⟨k, b1, b2, b3⟩ := filt_from (reN g) g f.code ((outC f.code g).length - 1) (by show _ < (outC f.code g).length; omega)
    have e : lastOp { f with code := outC f.code g } = (nth f.code k).op := by
      show (nth (outC f.code g) ((outC f.code g).length - 1)).op = _
      rw [← b3, (hat k b1 b2).2, reN_op]
    rw [e]
    refine Classical.byContradiction fun hn => ?_
    have hbeyond : ∀ a, k < a → ¬ Path f.code (-1) a := fun a ha hp => by
      obtain ⟨q, c1, c2, c3, _⟩ := hg.kept hjok _ a (Nat.le_refl _) hp
      have c4 := (hat q c2 c3).1
      have c5 := keepN_mono g (k + 1) (q - (k + 1))
      rw [show k + 1 + (q - (k + 1)) = q by omega] at c5
      have c6 : keepN g (k + 1) = keepN g k + 1 := by
        show keepN g k + (if g k = true then 0 else 1) = _
        rw [b2]; rfl
      omega
    have hp := head_path hk hg k b1 b2
    by_cases h51 : (nth f.code k).op = 51
    · obtain ⟨s, j, d1, d2, d3⟩ := case_head hk k b1 h51
      have hsl : s < f.code.length := by omega
      have e2 : headN f.code k = s := by
        rw [d3, show s + 1 + j = s + (j + 1) by omega]
        exact head_case _ s (by omega) (j + 1) fun q hq => hk.sel s hsl d1 q (by omega) (by omega)
      rw [e2] at hp
      obtain ⟨b, e3, e4, e5⟩ := sel_next hk s hsl d1
      exact hbeyond (s + 1 + b) (by omega) (.step s _ hp e5 (by omega))
    · rw [head_self _ _ h51] at hp
      by_cases h50 : (nth f.code k).op = 50
      · obtain ⟨b, e3, e4, e5⟩ := sel_next hk k b1 h50
        exact hbeyond (k + 1 + b) (by omega) (.step k _ hp e5 (by omega))
      · refine hbeyond (k + 1) (by omega) (.step k _ hp ?_ (by omega))
        rw [nextL_in _ _ b1]
        unfold nextIns
        rw [if_neg (by omega), if_neg (by omega)]
        split
        · exact (pairL_mem _ _ _).2 (.inl (by push_cast; rfl))
        · first | (rw [if_neg h50]; simp) | simp
theorem targ_func {p p' : Prg} {f : Fun} (hs : Sam p p') (hf : funcB p f = true) : funcB p' { f with code := targL f.code } = true := by
  have hk := fok_of_funcB hf
  obtain ⟨h1, h2, h3⟩ := funcB_parts hf
  have htg := fok_tgs hk
  have hT := targL_tgs htg
  refine funcB_of ?_ ?_ ?_
  · simp only [headB, Bool.and_eq_true, decide_eq_true_eq] at h1 ⊢
    rw [targL_len]
    exact h1
  · have := scan_filt p p' f { f with code := targL f.code } (toT f.code) (toT_op _) (toT_b _) (fun _ => false) f.code 0 0 0 false h2 (fun _ => rfl) (fun _ => Int.le_refl _) (fun h => by omega) (fun _ _ _ _ _ _ => rfl) (fun k h4 _ => by
      refine instr_remap (f := f) hs rfl (hk.ins k h4) (fun hn => by unfold toT; rw [if_neg hn]) (fun hj => ?_)
      have e : toT f.code (nth f.code k) = { nth f.code k with c := finL f.code (nth f.code k).c } := by unfold toT; rw [if_pos hj]
      rw [e]
      refine ⟨rfl, ?_⟩
      obtain ⟨a1, a2, a3⟩ := finL_tg htg _ (htg k h4 hj)
      refine ⟨a1, by show _ < ((targL f.code).length : Int); rw [targL_len]; exact a2, ?_⟩
      show (nth (targL f.code) (finL f.code (nth f.code k).c).toNat).op ≠ 51
      rw [targL_op _ _ (by omega)]
      exact a3)
    rw [filt_a] at this
    exact this
  · show (nth (targL f.code) ((targL f.code).length - 1)).op = 30 ∨ (nth (targL f.code) ((targL f.code).length - 1)).op = 16
    have := hk.pos
    rw [targL_len, targL_op _ _ (by omega)]
    exact h3

end Go.Proofs.YteiohnfmlabelaaGreat
