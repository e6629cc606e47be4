/-
  One round, and rounds until nothing changes, in plain words.
-/
import Derived.Test.YteiohnfmlabelaaGreatZOwnP
import Derived.Test.YteiohnfmlabelaaGreatZLvDead
import Derived.Test.YteiohnfmlabelaaGreatZPrC
import Derived.Test.YteiohnfmlabelaaGreatZRDead2
namespace Go.Proofs.YteiohnfmlabelaaGreat
set_option linter.unusedVariables false
set_option linter.unusedSimpArgs false
open Go.RowKit

theorem pass_total {p : Prg} {fn n : Nat} (hv : validB p = true) (hfn : fn < p.funcs.length) {s : List (List Int)} (h : Fine p fn n s) : ∀ d, d ≤ n → Fine p fn n (stepsL p fn n s d) ∧ (stepsL p fn n s d = s ∨ totalS s < totalS (stepsL p fn n s d))
  | 0, _ => ⟨h, .inl rfl⟩
  | d + 1, hd => by
    obtain ⟨h1, h2⟩ := pass_total hv hfn h d (by omega)
    have hi : n - 1 - d < n := by omega
    have e : stepsL p fn n s (d + 1) = passAt p fn (stepsL p fn n s d) (n - 1 - d) := rfl
    rw [e]
    have h3 := Fine.at hv hfn h1 (n - 1 - d) hi
    refine ⟨h3.1, ?_⟩
    rcases h1.step_total hv hfn (n - 1 - d) hi with ⟨_, h4⟩ | ⟨_, h4⟩
    · rw [h4]; exact h2
    · right
      rcases h2 with h5 | h5
      · rw [h5] at h4 ⊢; exact h4
      · omega
theorem live_exists {p : Prg} {F : Nat} (hv : validB p = true) (hF : F < p.funcs.length) (n : Nat) (hn : (nth p.funcs F).code.length = n) : ∃ L, IsLive p F n L := by
  have h : ∀ m k, 64 * n - totalS (iterL p F n k) ≤ m → ∃ L, IsLive p F n L := by
    intro m
    induction m with
    | zero =>
      intro k hm
      have hf : Fine p F n (iterL p F n k) := Fine.iter hv hF k
      have ht := hf.total
      rcases (pass_total hv hF hf n (Nat.le_refl _)).2 with h1 | h1
      · exact ⟨_, ⟨k, rfl⟩, h1⟩
      · have hf2 := Fine.pass hv hF hf
        have ht2 := hf2.total
        have h2 : totalS (iterL p F n k) < totalS (passL p F n (iterL p F n k)) := h1
        omega
    | succ m ih =>
      intro k hm
      have hf : Fine p F n (iterL p F n k) := Fine.iter hv hF k
      rcases (pass_total hv hF hf n (Nat.le_refl _)).2 with h1 | h1
      · exact ⟨_, ⟨k, rfl⟩, h1⟩
      · have h2 : totalS (iterL p F n k) < totalS (iterL p F n (k + 1)) := h1
        exact ih (k + 1) (by omega)
  exact h _ 0 (Nat.le_refl _)
theorem dead_exists {p : Prg} {F : Nat} (hv : validB p = true) (hF : F < p.funcs.length) : ∃ l, DeadIs p F l := by
  obtain ⟨L, hL⟩ := live_exists hv hF _ rfl
  refine ⟨deadL p F L (nth p.funcs F).code.length, .inr ⟨?_, L, hL, rfl⟩⟩
  unfold thereB
  simp only [Bool.and_eq_true, decide_eq_true_eq]
  exact ⟨by omega, by omega, hv⟩
open Classical in
/-- The dead instructions. -/
noncomputable def deadOf (p : Prg) (F : Nat) : List Int := if h : ∃ l, DeadIs p F l then Classical.choose h else []
theorem deadOf_is {p : Prg} {F : Nat} {l : List Int} (h : DeadIs p F l) : deadOf p F = l := by
  have h1 : ∃ l, DeadIs p F l := ⟨l, h⟩
  unfold deadOf
  rw [dif_pos h1]
  exact (Classical.choose_spec h1).unique h

/-- What goes. -/
noncomputable def goneB (D : List Int) (t : List Ins) (i : Nat) : Bool := decide ((i : Int) ∈ D) || (!(nth (reachL t) i) || (((nth t i).op == 16 || (nth t i).op == 17) && ((nth t i).c == (i : Int) + 1)))
/-- The program with its targets final. -/
def targP (p : Prg) (F : Nat) : Prg := put p F (targL (nth p.funcs F).code)
noncomputable def goneP (p : Prg) (F : Nat) : Nat → Bool := goneB (deadOf (targP p F) F) (targL (nth p.funcs F).code)
/-- The code behind one round. -/
noncomputable def newC (p : Prg) (F : Nat) : List Ins := outC (targL (nth p.funcs F).code) (goneP p F)
noncomputable def roundP (p : Prg) (F : Nat) : Prg := put p F (newC p F)

theorem targ_valid {p : Prg} (hv : validB p = true) (F : Nat) (hF : F < p.funcs.length) : validB (targP p F) = true :=
  valid_put hv F hF _ (targ_func (put_sam p F _) (valid_func hv F hF))
theorem targ_code (p : Prg) (F : Nat) (hF : F < p.funcs.length) : (nth (targP p F).funcs F).code = targL (nth p.funcs F).code := by
  unfold targP; rw [put_at p F _ hF]
/-- A dead instruction is reached and pure. -/
theorem dead_pure {p : Prg} {F : Nat} (hv : validB p = true) (hF : F < p.funcs.length) (i : Nat) (h : (i : Int) ∈ deadOf p F) : i < (nth p.funcs F).code.length ∧ pureB (nth (nth p.funcs F).code i).op = true ∧ nth (reachL (nth p.funcs F).code) i = true := by
  obtain ⟨l, hl⟩ := dead_exists hv hF
  rw [deadOf_is hl] at h
  rcases hl with ⟨h1, rfl⟩ | ⟨h1, L, hL, rfl⟩
  · simp at h
  · unfold deadL at h
    simp only [List.mem_map, List.mem_filter, List.mem_range, Int.toNat_natCast] at h
    obtain ⟨k, ⟨h2, h3⟩, h4⟩ := h
    obtain rfl : k = i := by omega
    unfold deadB at h3
    simp only [Bool.and_eq_true] at h3
    exact ⟨h2, h3.2.1, h3.1⟩
theorem pure_plain {op : Int} (h : pureB op = true) : op ≠ 50 ∧ op ≠ 51 ∧ op ≠ 30 ∧ op ≠ 16 ∧ op ≠ 17 ∧ op ≠ 45 := by
  have h' := of_decide_eq_true h
  unfold pureOps at h'
  simp only [List.mem_cons, List.not_mem_nil, or_false] at h'
  omega
theorem gone_ok {p : Prg} (hv : validB p = true) (F : Nat) (hF : F < p.funcs.length) : GoneOk (nth p.funcs F).code (goneB (deadOf p F) (nth p.funcs F).code) := by
  have hk := fok_of_funcB (valid_func hv F hF)
  have hr : ∀ k, k < (nth p.funcs F).code.length → (nth (nth p.funcs F).code k).op ≠ 51 → (nth (reachL (nth p.funcs F).code) k = true ↔ Path (nth p.funcs F).code (-1) k) := fun k h1 h2 => by
    rw [reachL_at _ _ h1, head_self _ _ h2, reachB_at _ _ _ h1]
    simp
  refine ⟨fun k h1 h2 j h3 h4 => ?_, fun k h1 h2 h3 => ?_, fun k h1 h2 => ?_⟩
  · have hc : (nth (nth p.funcs F).code (k + 1 + j)).op = 51 := hk.sel k h1 h2 j h3 h4
    have hd : ∀ i, ((nth (nth p.funcs F).code i).op = 50 ∨ (nth (nth p.funcs F).code i).op = 51) → decide ((i : Int) ∈ deadOf p F) = false := fun i h => by
      refine decide_eq_false fun hm => ?_
      have := pure_plain (dead_pure hv hF i hm).2.1
      omega
    have hre : nth (reachL (nth p.funcs F).code) (k + 1 + j) = nth (reachL (nth p.funcs F).code) k := by
      rw [reachL_at _ _ h4, reachL_at _ _ h1, head_self _ k (by omega)]
      congr 1
      rw [show k + 1 + j = k + (j + 1) by omega]
      exact head_case _ k (by omega) (j + 1) fun q hq => hk.sel k h1 h2 q (by omega) (by omega)
    unfold goneB
    rw [hd k (.inl h2), hd (k + 1 + j) (.inr hc), hre, h2, hc]
    simp
  · unfold goneB at h2
    have hne := path_plain hk h3
    simp only [Bool.or_eq_true, Bool.and_eq_true, decide_eq_true_eq, beq_iff_eq, Bool.not_eq_true'] at h2
    rcases h2 with h2 | h2 | ⟨h2, h4⟩
    · have h5 := pure_plain (dead_pure hv hF k h2).2.1
      refine .step k _ h3 ?_ (by omega)
      rw [nextL_in _ _ h1]
      unfold nextIns
      rw [if_neg (by omega), if_neg (by omega), if_neg (by omega), if_neg (by omega)]
      simp
    · rw [(hr k h1 hne).2 h3] at h2
      cases h2
    · refine .step k _ h3 ?_ (by omega)
      rw [nextL_in _ _ h1]
      unfold nextIns
      rcases h2 with h2 | h2
      · rw [if_neg (by omega), if_pos h2, h4]; simp
      · rw [if_neg (by omega), if_neg (by omega), if_pos (.inl h2)]
        exact (pairL_mem _ _ _).2 (.inl (by push_cast; rfl))
  · unfold goneB at h2
    simp only [Bool.or_eq_false_iff, Bool.not_eq_false'] at h2
    exact h2.2.1
theorem newC_func {p p' : Prg} (hv : validB p = true) (F : Nat) (hF : F < p.funcs.length) (hs : Sam p p') : funcB p' { nth p.funcs F with code := newC p F } = true := by
  have h1 := targ_valid hv F hF
  have hF' : F < (targP p F).funcs.length := by unfold targP; rw [put_len]; exact hF
  have h2 := gone_ok h1 F hF'
  have h3 := valid_func h1 F hF'
  have hs2 : Sam (targP p F) p' := (put_sam p F _).symm.trans hs
  have e : nth (targP p F).funcs F = { nth p.funcs F with code := targL (nth p.funcs F).code } := put_at p F _ hF
  have h4 := out_func hs2 h3 h2
  rw [targ_code p F hF, e] at h4
  exact h4
theorem round_valid {p : Prg} (hv : validB p = true) (F : Nat) (hF : F < p.funcs.length) : validB (roundP p F) = true := valid_put hv F hF _ (newC_func hv F hF (put_sam p F _))
theorem round_sam (p : Prg) (F : Nat) : Sam p (roundP p F) := put_sam p F _
theorem newC_len (p : Prg) (F : Nat) : (newC p F).length = keepN (goneP p F) (nth p.funcs F).code.length := by
  unfold newC outC
  rw [filt_len0, targL_len]
theorem newC_le (p : Prg) (F : Nat) : (newC p F).length ≤ (nth p.funcs F).code.length := by rw [newC_len]; exact keepN_le _ _
/-- No instruction goes: the code is that with final targets. -/
theorem newC_full {p : Prg} (hv : validB p = true) (F : Nat) (hF : F < p.funcs.length) (h : (newC p F).length = (nth p.funcs F).code.length) : newC p F = targL (nth p.funcs F).code ∧ ∀ i, i < (nth p.funcs F).code.length → goneP p F i = false := by
  rw [newC_len] at h
  have hg := keepN_full _ _ h
  have hk := fok_of_funcB (valid_func hv F hF)
  have hT := targL_tgs (fok_tgs hk)
  refine ⟨?_, hg⟩
  have hl : (newC p F).length = (targL (nth p.funcs F).code).length := by rw [newC_len, h, targL_len]
  refine List.ext_getElem hl fun i h1 h2 => ?_
  rw [← nth_eq _ _ h1, ← nth_eq _ _ h2]
  have hi : i < (nth p.funcs F).code.length := by rw [targL_len] at h2; exact h2
  have h3 := filt_at (reN (goneP p F)) (goneP p F) (targL (nth p.funcs F).code) i h2 (hg i hi)
  rw [keepN_all _ i fun j hj => hg j (by omega)] at h3
  have h4 : nth (newC p F) i = reN (goneP p F) (nth (targL (nth p.funcs F).code) i) := h3.2
  rw [h4]
  unfold reN
  split
  · rename_i hj
    obtain ⟨t1, t2, _⟩ := hT i h2 hj
    rw [targL_len] at t2
    rw [keepN_all _ _ fun j hj => hg j (by omega), Int.toNat_of_nonneg t1]
  · rfl

/-- What a round makes smaller. -/
noncomputable def wgt (c : List Ins) : Nat := 2 * c.length + (open Classical in if targL c = c then 0 else 1)
theorem wgt_round {p : Prg} (hv : validB p = true) (F : Nat) (hF : F < p.funcs.length) (h : newC p F ≠ (nth p.funcs F).code) : wgt (newC p F) < wgt (nth p.funcs F).code := by
  have hk := fok_of_funcB (valid_func hv F hF)
  have hle := newC_le p F
  rcases Nat.lt_or_ge (newC p F).length (nth p.funcs F).code.length with h1 | h1
  · unfold wgt
    split <;> split <;> omega
  · obtain ⟨h2, _⟩ := newC_full hv F hF (by omega)
    unfold wgt
    rw [h2, if_pos (targL_idem (fok_tgs hk)), targL_len, if_neg (fun e => h (h2.trans e))]
    omega

/-- A code that a round leaves. -/
theorem fix_targ {p : Prg} (hv : validB p = true) (F : Nat) (hF : F < p.funcs.length) (h : newC p F = (nth p.funcs F).code) : targL (nth p.funcs F).code = (nth p.funcs F).code ∧ targP p F = p ∧ ∀ i, i < (nth p.funcs F).code.length → goneB (deadOf p F) (nth p.funcs F).code i = false := by
  obtain ⟨h1, h2⟩ := newC_full hv F hF (by rw [h])
  have e : targL (nth p.funcs F).code = (nth p.funcs F).code := by rw [← h1, h]
  have e2 : targP p F = p := by unfold targP; rw [e, put_self p F hF]
  refine ⟨e, e2, fun i hi => ?_⟩
  have := h2 i hi
  unfold goneP at this
  rw [e2, e] at this
  exact this
theorem fix_dead {p : Prg} (hv : validB p = true) (F : Nat) (hF : F < p.funcs.length) (h : newC p F = (nth p.funcs F).code) : deadOf p F = [] := by
  obtain ⟨_, _, h3⟩ := fix_targ hv F hF h
  obtain ⟨l, hl⟩ := dead_exists hv hF
  have e := deadOf_is hl
  cases hd : deadOf p F with
  | nil => rfl
  | cons x r =>
    exfalso
    have hx : x ∈ deadOf p F := by rw [hd]; simp
    have hx0 : ∃ i : Nat, x = i := by
      rw [e] at hx
      rcases hl with ⟨_, rfl⟩ | ⟨_, L, _, rfl⟩
      · simp at hx
      · unfold deadL at hx
        simp only [List.mem_map] at hx
        obtain ⟨k, _, rfl⟩ := hx
        exact ⟨k, rfl⟩
    obtain ⟨i, rfl⟩ := hx0
    have h4 := (dead_pure hv hF i hx).1
    have h5 := h3 i h4
    unfold goneB at h5
    rw [decide_eq_true hx] at h5
    simp at h5
theorem fix_reach {p : Prg} (hv : validB p = true) (F : Nat) (hF : F < p.funcs.length) (h : newC p F = (nth p.funcs F).code) (i : Nat) (hi : i < (nth p.funcs F).code.length) : nth (reachL (nth p.funcs F).code) i = true ∧ (((nth (nth p.funcs F).code i).op == 16 || (nth (nth p.funcs F).code i).op == 17) && ((nth (nth p.funcs F).code i).c == (i : Int) + 1)) = false := by
  have h5 := (fix_targ hv F hF h).2.2 i hi
  unfold goneB at h5
  simp only [Bool.or_eq_false_iff, Bool.not_eq_false'] at h5
  refine ⟨h5.2.1, ?_⟩
  have := h5.2.2
  simpa using this

/-- A function's round doesn't look at the other functions' code. -/
theorem uses_sam {p p' : Prg} {F : Nat} (hF : F < p.funcs.length) (h : Sam p p') (he : nth p'.funcs F = nth p.funcs F) (pc : Int) (hp : ∀ x, insAt p F pc = some x → x.op = 26 ∨ x.op = 28 ∨ x.op = 31 → 0 ≤ x.b ∧ x.b < p.funcs.length) : insAt p' F pc = insAt p F pc ∧ usesC p' F pc = usesC p F pc ∧ defsC p' F pc = defsC p F pc := by
  have e1 : insAt p' F pc = insAt p F pc := by
    unfold insAt
    rw [h.len, Int.toNat_natCast, he]
  refine ⟨e1, ?_, ?_⟩
  · unfold usesC
    rw [e1]
    cases hi : insAt p F pc with
    | none => rfl
    | some x =>
      have e2 : extraU p' F pc x = extraU p F pc x := by
        unfold extraU
        rw [Int.toNat_natCast, he]
        by_cases hc : x.op = 26 ∨ x.op = 28 ∨ x.op = 31
        · obtain ⟨b1, b2⟩ := hp x hi hc
          rw [(h.same x.b.toNat (by omega)).2.1]
        · rw [if_neg hc, if_neg hc]
      simp only [e2]
  · unfold defsC
    rw [e1]
theorem call_at {p : Prg} (hv : validB p = true) {F : Nat} (hF : F < p.funcs.length) (pc : Int) (x : Ins) (hx : insAt p F pc = some x) (ho : x.op = 26 ∨ x.op = 28 ∨ x.op = 31) : 0 ≤ x.b ∧ x.b < p.funcs.length := by
  have hk := fok_of_funcB (valid_func hv F hF)
  unfold insAt at hx
  split at hx
  · split at hx
    · rename_i h1 h2
      rw [Int.toNat_natCast] at hx h2
      have e : nth (nth p.funcs F).code pc.toNat = x := by simpa using hx
      have h3 := hk.ins pc.toNat (by omega)
      rw [e] at h3
      simp only [instrB, Bool.and_eq_true] at h3
      have h4 := h3.2.2.2.1
      have hr : roleN x.op 1 = 102 := by rcases ho with h | h | h <;> (rw [h]; rfl)
      rw [hr] at h4
      simp [operandB] at h4
      omega
    · cases hx
  · cases hx
theorem live_sam {p p' : Prg} (hv : validB p = true) {F : Nat} (hF : F < p.funcs.length) (h : Sam p p') (he : nth p'.funcs F = nth p.funcs F) (n : Nat) (L : List (List Int)) : (IsLive p F n L → IsLive p' F n L) ∧ ∀ i, afterL p' F L i = afterL p F L i := by
  have hu := fun pc => uses_sam hF h he pc fun x hx ho => call_at hv hF pc x hx ho
  have ha : ∀ s i, afterL p' F s i = afterL p F s i := fun s i => by unfold afterL; rw [he]
  have hb : ∀ s i, beforeL p' F s i = beforeL p F s i := fun s i => by unfold beforeL; rw [ha, (hu i).2.1, (hu i).2.2]
  have hc : ∀ s i, passAt p' F s i = passAt p F s i := fun s i => by unfold passAt; rw [hb]
  have hs : ∀ s d, stepsL p' F n s d = stepsL p F n s d := fun s d => by
    induction d with
    | zero => rfl
    | succ d ih =>
      show passAt p' F (stepsL p' F n s d) _ = passAt p F (stepsL p F n s d) _
      rw [ih, hc]
  have hp : ∀ s, passL p' F n s = passL p F n s := fun s => hs s n
  have hi : ∀ k, iterL p' F n k = iterL p F n k := fun k => by
    induction k with
    | zero => rfl
    | succ k ih =>
      show passL p' F n (iterL p' F n k) = passL p F n (iterL p F n k)
      rw [ih, hp]
  refine ⟨fun ⟨⟨k, e⟩, h2⟩ => ⟨⟨k, by rw [hi]; exact e⟩, by rw [hp]; exact h2⟩, ha L⟩
theorem dead_sam {p p' : Prg} (hv : validB p = true) (hv' : validB p' = true) {F : Nat} (hF : F < p.funcs.length) (h : Sam p p') (he : nth p'.funcs F = nth p.funcs F) : deadOf p' F = deadOf p F := by
  obtain ⟨l, hl⟩ := dead_exists hv hF
  rw [deadOf_is hl]
  refine deadOf_is ?_
  rcases hl with ⟨h1, rfl⟩ | ⟨h1, L, hL, rfl⟩
  · exfalso
    unfold thereB at h1
    rw [decide_eq_true (by omega : (0 : Int) ≤ (F : Int)), decide_eq_true (by omega : (F : Int) < p.funcs.length), hv] at h1
    cases h1
  · refine .inr ⟨?_, L, ?_, ?_⟩
    · unfold thereB
      rw [decide_eq_true (by omega : (0 : Int) ≤ (F : Int)), decide_eq_true (by rw [h.len]; omega : (F : Int) < p'.funcs.length), hv']
      rfl
    · rw [Int.toNat_natCast] at hL ⊢
      rw [he]
      exact (live_sam hv hF h he _ L).1 hL
    · rw [Int.toNat_natCast] at hL ⊢
      have hB : deadB p F L = deadB p' F L := funext fun i => by unfold deadB; rw [(live_sam hv hF h he 0 L).2 i, he]
      rw [he]
      unfold deadL
      rw [hB]
theorem newC_sam {p p' : Prg} (hv : validB p = true) (hv' : validB p' = true) {F : Nat} (hF : F < p.funcs.length) (h : Sam p p') (he : nth p'.funcs F = nth p.funcs F) : newC p' F = newC p F := by
  have hF' : F < p'.funcs.length := by rw [h.len]; exact hF
  have e : deadOf (targP p' F) F = deadOf (targP p F) F := by
    refine dead_sam (targ_valid hv F hF) (targ_valid hv' F hF') (by unfold targP; rw [put_len]; exact hF) ((put_sam p F _).symm.trans (h.trans (put_sam p' F _))) ?_
    unfold targP
    rw [put_at p F _ hF, put_at p' F _ hF', he]
  unfold newC goneP
  rw [e, he]

/-- Rounds until nothing changes. -/
inductive Prn : Prg → Nat → Prg → Prop
  | done (p : Prg) (F : Nat) : p.funcs.length ≤ F → Prn p F p
  | next (p : Prg) (F : Nat) (q : Prg) : F < p.funcs.length → newC p F = (nth p.funcs F).code → Prn p (F + 1) q → Prn p F q
  | go (p : Prg) (F : Nat) (q : Prg) : F < p.funcs.length → newC p F ≠ (nth p.funcs F).code → Prn (roundP p F) F q → Prn p F q
theorem Prn.unique {p q q' : Prg} {F : Nat} (h : Prn p F q) (h' : Prn p F q') : q = q' := by
  induction h with
  | done p F h1 =>
    cases h' with
    | done => rfl
    | next _ _ _ h2 => omega
    | go _ _ _ h2 => omega
  | next p F q h1 h2 _ ih =>
    cases h' with
    | done _ _ h3 => omega
    | next _ _ _ _ _ h4 => exact ih h4
    | go _ _ _ _ h4 => exact absurd h2 h4
  | go p F q h1 h2 _ ih =>
    cases h' with
    | done _ _ h3 => omega
    | next _ _ _ _ h4 => exact absurd h4 h2
    | go _ _ _ _ _ h4 => exact ih h4
/-- What holds of the pruned program. -/
structure Prnd (p q : Prg) : Prop where
  valid : validB q = true
  sam : Sam p q
  le : ∀ i, i < p.funcs.length → (nth q.funcs i).code.length ≤ (nth p.funcs i).code.length
  fix : ∀ i, i < q.funcs.length → newC q i = (nth q.funcs i).code
theorem Prn.ok {p q : Prg} {F : Nat} (h : Prn p F q) (hv : validB p = true) (hb : ∀ i, i < F → i < p.funcs.length → newC p i = (nth p.funcs i).code) : Prnd p q := by
  induction h with
  | done p F h1 => exact ⟨hv, Sam.refl p, fun i _ => Nat.le_refl _, fun i hi => hb i (by omega) hi⟩
  | next p F q h1 h2 _ ih =>
    refine ih hv fun i h3 h4 => ?_
    rcases Nat.lt_or_ge i F with h5 | h5
    · exact hb i h5 h4
    · rw [show i = F by omega]; exact h2
  | go p F q h1 h2 _ ih =>
    have hv' := round_valid hv F h1
    have hs := round_sam p F
    have h3 := ih hv' fun i h3 h4 => by
      have h5 : i < p.funcs.length := by rw [← hs.len]; exact h4
      have e : nth (roundP p F).funcs i = nth p.funcs i := put_ne p F i _ (by omega)
      rw [newC_sam hv hv' h5 hs e, e]
      exact hb i h3 h5
    refine ⟨h3.valid, hs.trans h3.sam, fun i hi => ?_, h3.fix⟩
    have h4 := h3.le i (by rw [hs.len]; exact hi)
    by_cases hiF : i = F
    · subst hiF
      have e : nth (roundP p i).funcs i = { nth p.funcs i with code := newC p i } := put_at p i _ hi
      rw [e] at h4
      have := newC_le p i
      dsimp only at h4
      omega
    · have e : nth (roundP p F).funcs i = nth p.funcs i := put_ne p F i _ hiF
      rw [e] at h4
      exact h4
/-- A program that every round leaves. -/
theorem Prn.self {q : Prg} (h : ∀ i, i < q.funcs.length → newC q i = (nth q.funcs i).code) : ∀ m F, q.funcs.length - F ≤ m → Prn q F q
  | 0, F, hm => .done q F (by omega)
  | m + 1, F, hm => by
    rcases Nat.lt_or_ge F q.funcs.length with h1 | h1
    · exact .next q F q h1 (h F h1) (Prn.self h m (F + 1) (by omega))
    · exact .done q F h1

end Go.Proofs.YteiohnfmlabelaaGreat

/-
  Numbers and sizes of a program stay in bounds when its code is replaced by the code behind a round.
-/
namespace Go.Proofs.YteiohnfmlabelaaGreat
set_option linter.unusedVariables false
set_option linter.unusedSimpArgs false
open Go.RowKit

theorem put_wf {p : Prg} (h : PrgWf p) (F : Nat) (hF : F < p.funcs.length) (c : List Ins) (hl : c.length ≤ (nth p.funcs F).code.length) (hc : ∀ x ∈ c, InsWf x) : PrgWf (put p F c) := by
  have h0 := h.func _ (nth_mem p.funcs F hF)
  refine { funcs := by rw [put_len]; exact h.funcs, func := forall_nth fun i hi => ?_, globs := h.globs, glob := h.glob, lays := h.lays, lay := h.lay, main := h.main }
  rw [put_len] at hi
  by_cases e : i = F
  · subst e
    rw [put_at p i c hi]
    exact { name := h0.name, params := h0.params, regs := h0.regs, code := by have h1 := h0.code; show c.length * 40 ≤ _; omega, ins := hc }
  · rw [put_ne p F i c e]
    exact h.func _ (nth_mem p.funcs i hi)
theorem targL_wf {c : List Ins} (hc : ∀ x ∈ c, InsWf x) (ht : Tgs c) (hl : c.length ≤ 1000) : ∀ x ∈ targL c, InsWf x := by
  refine forall_nth fun i hi => ?_
  rw [targL_len] at hi
  rw [targL_at c i hi]
  have h0 := hc _ (nth_mem c i hi)
  unfold toT
  split
  · rename_i hj
    obtain ⟨h1, h2, _⟩ := finL_tg ht _ (ht i hi hj)
    exact { op := h0.op, a := h0.a, b := h0.b, c := by unfold I64; show _ ≤ finL c _ ∧ finL c _ ≤ _; omega, pos := h0.pos }
  · exact h0
theorem targ_wf {p : Prg} (hw : PrgWf p) (hv : validB p = true) (F : Nat) (hF : F < p.funcs.length) : PrgWf (targP p F) := by
  have hk := fok_of_funcB (valid_func hv F hF)
  exact put_wf hw F hF _ (by rw [targL_len]; exact Nat.le_refl _) (targL_wf (hw.func _ (nth_mem p.funcs F hF)).ins (fok_tgs hk) hk.le)
theorem round_wf {p : Prg} (hw : PrgWf p) (hv : validB p = true) (F : Nat) (hF : F < p.funcs.length) : PrgWf (roundP p F) := by
  have hk := fok_of_funcB (valid_func hv F hF)
  have ht := targL_wf (hw.func _ (nth_mem p.funcs F hF)).ins (fok_tgs hk) hk.le
  have htt := targL_tgs (fok_tgs hk)
  have hl := hk.le
  refine put_wf hw F hF _ (newC_le p F) (forall_nth fun j hj => ?_)
  unfold newC outC at hj ⊢
  obtain ⟨q, h1, h2, h3⟩ := filt_from (reN (goneP p F)) (goneP p F) (targL (nth p.funcs F).code) j hj
  have h4 := (filt_at (reN (goneP p F)) (goneP p F) (targL (nth p.funcs F).code) q h1 h2).2
  rw [h3] at h4
  rw [h4]
  have h0 := ht _ (nth_mem _ q h1)
  unfold reN
  split
  · rename_i hjm
    obtain ⟨t1, t2, _⟩ := htt q h1 hjm
    rw [targL_len] at t2
    have h5 := keepN_le (goneP p F) (nth (targL (nth p.funcs F).code) q).c.toNat
    exact { op := h0.op, a := h0.a, b := h0.b, c := by unfold I64; show _ ≤ ((keepN (goneP p F) (nth (targL (nth p.funcs F).code) q).c.toNat : Nat) : Int) ∧ ((keepN (goneP p F) (nth (targL (nth p.funcs F).code) q).c.toNat : Nat) : Int) ≤ _; omega, pos := h0.pos }
  · exact h0

end Go.Proofs.YteiohnfmlabelaaGreat
