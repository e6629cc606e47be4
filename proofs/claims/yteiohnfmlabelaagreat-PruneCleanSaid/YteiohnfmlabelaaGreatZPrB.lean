/-
  Final targets, in plain words.
-/
import Derived.Test.YteiohnfmlabelaaGreatZJok
namespace Go.Proofs.YteiohnfmlabelaaGreat
set_option linter.unusedVariables false
set_option linter.unusedSimpArgs false
open Go.RowKit

def finGo (c : List Ins) (pc : Int) : Nat → Int → Int
  | 0, _ => pc
  | n + 1, a => if (nth c a.toNat).op = 16 then finGo c pc n (nth c a.toNat).c else a
/-- The final target. -/
def finL (c : List Ins) (pc : Int) : Int := finGo c pc (c.length + 1) pc
def toT (c : List Ins) (x : Ins) : Ins := if jumps x.op then { x with c := finL c x.c } else x
def targL (c : List Ins) : List Ins := c.map (toT c)
/-- A target. -/
def Tg (c : List Ins) (a : Int) : Prop := 0 ≤ a ∧ a < c.length ∧ (nth c a.toNat).op ≠ 51
def Tgs (c : List Ins) : Prop := ∀ k, k < c.length → jumps (nth c k).op → Tg c (nth c k).c

theorem toT_op (c : List Ins) (x : Ins) : (toT c x).op = x.op := by unfold toT; split <;> rfl
theorem toT_b (c : List Ins) (x : Ins) : (toT c x).b = x.b := by unfold toT; split <;> rfl
theorem targL_len (c : List Ins) : (targL c).length = c.length := by simp [targL]
theorem targL_at (c : List Ins) (k : Nat) (h : k < c.length) : nth (targL c) k = toT c (nth c k) := by
  unfold targL
  rw [nth_eq _ _ (by simpa using h), nth_eq _ _ h]
  simp
theorem targL_op (c : List Ins) (k : Nat) (h : k < c.length) : (nth (targL c) k).op = (nth c k).op := by rw [targL_at c k h, toT_op]
theorem finGo_tg {c : List Ins} (h : Tgs c) (pc : Int) (hp : Tg c pc) : ∀ (n : Nat) (a : Int), Tg c a → Tg c (finGo c pc n a)
  | 0, _, _ => hp
  | n + 1, a, ha => by
    unfold finGo
    split
    · rename_i h16
      refine finGo_tg h pc hp n _ ?_
      obtain ⟨h1, h2, _⟩ := ha
      exact h a.toNat (by omega) (.inl h16)
    · exact ha
theorem finL_tg {c : List Ins} (h : Tgs c) (pc : Int) (hp : Tg c pc) : Tg c (finL c pc) := finGo_tg h pc hp _ _ hp

/-- The chain of jumps. -/
def chn (c : List Ins) (a : Int) : Nat → Int
  | 0 => a
  | k + 1 => (nth c (chn c a k).toNat).c
theorem chn_shift (c : List Ins) (a : Int) : ∀ k, chn c (nth c a.toNat).c k = chn c a (k + 1)
  | 0 => rfl
  | k + 1 => by
    show (nth c (chn c (nth c a.toNat).c k).toNat).c = (nth c (chn c a (k + 1)).toNat).c
    rw [chn_shift c a k]
theorem chn_add (c : List Ins) (a : Int) (i : Nat) : ∀ d, chn c a (i + d) = chn c (chn c a i) d
  | 0 => rfl
  | d + 1 => by
    show (nth c (chn c a (i + d)).toNat).c = (nth c (chn c (chn c a i) d).toNat).c
    rw [chn_add c a i d]
theorem finGo_all (c : List Ins) (pc : Int) : ∀ (n : Nat) (a : Int), (∀ k, k < n → (nth c (chn c a k).toNat).op = 16) → finGo c pc n a = pc
  | 0, _, _ => rfl
  | n + 1, a, h => by
    unfold finGo
    have h0 : (nth c a.toNat).op = 16 := h 0 (by omega)
    rw [if_pos h0]
    refine finGo_all c pc n _ fun k hk => ?_
    rw [chn_shift]
    exact h (k + 1) (by omega)
theorem finGo_some (c : List Ins) (pc : Int) : ∀ (n : Nat) (a : Int) (k : Nat), k < n → (∀ j, j < k → (nth c (chn c a j).toNat).op = 16) → (nth c (chn c a k).toNat).op ≠ 16 → finGo c pc n a = chn c a k
  | 0, _, _, h, _, _ => by omega
  | n + 1, a, 0, _, _, h => by
    unfold finGo
    have h0 : ¬ (nth c a.toNat).op = 16 := h
    rw [if_neg h0]
    rfl
  | n + 1, a, k + 1, hk, h1, h2 => by
    unfold finGo
    have h0 : (nth c a.toNat).op = 16 := h1 0 (by omega)
    rw [if_pos h0]
    rw [← chn_shift] at h2 ⊢
    refine finGo_some c pc n _ k (by omega) (fun j hj => ?_) h2
    rw [chn_shift]
    exact h1 (j + 1) (by omega)
theorem finGo_cases (c : List Ins) (a : Int) (n : Nat) : (∀ k, k < n → (nth c (chn c a k).toNat).op = 16) ∨ ∃ k, k < n ∧ (∀ j, j < k → (nth c (chn c a j).toNat).op = 16) ∧ (nth c (chn c a k).toNat).op ≠ 16 := by
  induction n with
  | zero => exact .inl fun k hk => by omega
  | succ n ih =>
    rcases ih with h | ⟨k, h1, h2, h3⟩
    · by_cases h4 : (nth c (chn c a n).toNat).op = 16
      · refine .inl fun k hk => ?_
        rcases Nat.lt_or_ge k n with h5 | h5
        · exact h k h5
        · rw [show k = n by omega]; exact h4
      · exact .inr ⟨n, by omega, h, h4⟩
    · exact .inr ⟨k, by omega, h2, h3⟩
/-- Pigeons. -/
theorem pigeon : ∀ (n : Nat) (f : Nat → Nat), (∀ k, k ≤ n → f k < n) → ∃ i j, i < j ∧ j ≤ n ∧ f i = f j
  | 0, f, h => by have := h 0 (Nat.le_refl _); omega
  | n + 1, f, h => by
    by_cases he : ∃ i, i ≤ n ∧ f i = f (n + 1)
    · obtain ⟨i, h1, h2⟩ := he
      exact ⟨i, n + 1, by omega, Nat.le_refl _, h2⟩
    · have hne : ∀ i, i ≤ n → f i ≠ f (n + 1) := fun i hi e => he ⟨i, hi, e⟩
      obtain ⟨i, j, h1, h2, h3⟩ := pigeon n (fun k => if f (n + 1) < f k then f k - 1 else f k) (fun k hk => by
        have h4 := h k (by omega)
        have h5 := hne k hk
        have h6 := h (n + 1) (Nat.le_refl _)
        split <;> omega)
      refine ⟨i, j, h1, by omega, ?_⟩
      have h5 := hne i (by omega)
      have h6 := hne j h2
      split at h3 <;> split at h3 <;> omega
theorem chn_tg {c : List Ins} (h : Tgs c) (a : Int) (ha : Tg c a) : ∀ k, (∀ j, j < k → (nth c (chn c a j).toNat).op = 16) → Tg c (chn c a k)
  | 0, _ => ha
  | k + 1, h16 => by
    have h1 := chn_tg h a ha k fun j hj => h16 j (by omega)
    obtain ⟨h2, h3, _⟩ := h1
    exact h _ (by omega) (.inl (h16 k (by omega)))
/-- A chain of length + 1 jumps never ends. -/
theorem chn_ever {c : List Ins} (h : Tgs c) (a : Int) (ha : Tg c a) (h16 : ∀ k, k < c.length + 1 → (nth c (chn c a k).toNat).op = 16) : ∀ m, (nth c (chn c a m).toNat).op = 16 := by
  obtain ⟨i, j, h1, h2, h3⟩ := pigeon c.length (fun k => (chn c a k).toNat) fun k hk => by
    obtain ⟨h4, h5, _⟩ := chn_tg h a ha k fun j hj => h16 j (by omega)
    omega
  have e : chn c a i = chn c a j := by
    obtain ⟨h4, _, _⟩ := chn_tg h a ha i fun j hj => h16 j (by omega)
    obtain ⟨h5, _, _⟩ := chn_tg h a ha j fun j hj => h16 j (by omega)
    omega
  intro m
  induction m using Nat.strongRecOn with
  | ind m ih =>
    rcases Nat.lt_or_ge m (c.length + 1) with h4 | h4
    · exact h16 m h4
    · have h5 : chn c a m = chn c a (i + (m - j)) := by
        rw [show m = j + (m - j) by omega, chn_add, ← e, ← chn_add]
        congr 1
        omega
      rw [h5]
      exact ih _ (by omega)
theorem fin_idem {c : List Ins} (h : Tgs c) (a : Int) (ha : Tg c a) : finL (targL c) (finL c a) = finL c a := by
  have htop : ∀ b : Int, Tg c b → (nth (targL c) b.toNat).op = (nth c b.toNat).op := fun b hb => by
    obtain ⟨h1, h2, _⟩ := hb
    exact targL_op c _ (by omega)
  rcases finGo_cases c a (c.length + 1) with h16 | ⟨k, h1, h2, h3⟩
  · have he := chn_ever h a ha h16
    have ht : ∀ m, Tg c (chn c a m) := fun m => chn_tg h a ha m fun j _ => he j
    have h4 : ∀ m, finL c (chn c a m) = chn c a m := fun m => finGo_all c _ _ _ fun k _ => by rw [← chn_add]; exact he _
    have h5 : finL c a = a := h4 0
    rw [h5]
    have h6 : ∀ m, chn (targL c) a m = chn c a m := by
      intro m
      induction m with
      | zero => rfl
      | succ m ih =>
        show (nth (targL c) (chn (targL c) a m).toNat).c = (nth c (chn c a m).toNat).c
        obtain ⟨h7, h8, _⟩ := ht m
        rw [ih, targL_at c _ (by omega)]
        unfold toT
        rw [if_pos (.inl (he m))]
        exact h4 (m + 1)
    refine finGo_all _ _ _ _ fun k _ => ?_
    rw [h6, htop _ (ht k)]
    exact he k
  · have e : finL c a = chn c a k := finGo_some c a _ a k h1 h2 h3
    have ht := chn_tg h a ha k h2
    rw [e]
    unfold finL
    exact finGo_some (targL c) _ _ (chn c a k) 0 (by omega) (fun j hj => by omega) (by show (nth (targL c) (chn c a k).toNat).op ≠ 16; rw [htop _ ht]; exact h3)
theorem targL_idem {c : List Ins} (h : Tgs c) : targL (targL c) = targL c := by
  refine List.ext_getElem (by rw [targL_len]) fun k h1 h2 => ?_
  have hk : k < c.length := by rw [targL_len] at h2; exact h2
  rw [← nth_eq _ _ h1, ← nth_eq _ _ h2, targL_at _ k h2, targL_at c k hk]
  by_cases hj : jumps (nth c k).op
  · have e : toT c (nth c k) = { nth c k with c := finL c (nth c k).c } := by unfold toT; rw [if_pos hj]
    rw [e]
    unfold toT
    rw [if_pos hj]
    simp only [fin_idem h _ (h k hk hj)]
  · have e : toT c (nth c k) = nth c k := by unfold toT; rw [if_neg hj]
    rw [e]
    unfold toT
    rw [if_neg hj]
theorem targL_tgs {c : List Ins} (h : Tgs c) : Tgs (targL c) := by
  intro k hk hj
  rw [targL_len] at hk
  rw [targL_op c k hk] at hj
  rw [targL_at c k hk]
  unfold toT
  rw [if_pos hj]
  obtain ⟨h1, h2, h3⟩ := finL_tg h _ (h k hk hj)
  refine ⟨h1, by rw [targL_len]; exact h2, ?_⟩
  show (nth (targL c) (finL c (nth c k).c).toNat).op ≠ 51
  rw [targL_op c _ (by omega)]
  exact h3
theorem fok_tgs {p : Prg} {f : Fun} (h : Fok p f) : Tgs f.code := fun k hk hj => instr_jump (h.ins k hk) hj

end Go.Proofs.YteiohnfmlabelaaGreat

/-
  A function without some of its instructions, in plain words.
-/
namespace Go.Proofs.YteiohnfmlabelaaGreat
set_option linter.unusedVariables false
set_option linter.unusedSimpArgs false
open Go.RowKit

/-- The remaining instructions, each changed by a. -/
def filt (a : Ins → Ins) (g : Nat → Bool) : List Ins → Nat → List Ins
  | [], _ => []
  | x :: l, i => if g i then filt a g l (i + 1) else a x :: filt a g l (i + 1)
/-- How many remain before. -/
def keepN (g : Nat → Bool) : Nat → Nat
  | 0 => 0
  | k + 1 => keepN g k + if g k then 0 else 1
theorem filt_append (a : Ins → Ins) (g : Nat → Bool) : ∀ (l r : List Ins) (i : Nat), filt a g (l ++ r) i = filt a g l i ++ filt a g r (i + l.length)
  | [], r, i => rfl
  | x :: l, r, i => by
    simp only [List.cons_append, filt]
    rw [filt_append a g l r (i + 1), show i + 1 + l.length = i + (x :: l).length by simp; omega]
    split <;> simp
theorem filt_len (a : Ins → Ins) (g : Nat → Bool) : ∀ (l : List Ins) (i : Nat), keepN g i + (filt a g l i).length = keepN g (i + l.length)
  | [], i => rfl
  | x :: l, i => by
    have h := filt_len a g l (i + 1)
    rw [show i + (x :: l).length = i + 1 + l.length by simp; omega, ← h]
    simp only [filt, keepN]
    split <;> simp <;> omega
theorem filt_len0 (a : Ins → Ins) (g : Nat → Bool) (l : List Ins) : (filt a g l 0).length = keepN g l.length := by
  have h := filt_len a g l 0
  simpa [keepN] using h
theorem filt_map (a : Ins → Ins) (g : Nat → Bool) : ∀ (l : List Ins) (i : Nat), (filt id g l i).map a = filt a g l i
  | [], _ => rfl
  | x :: l, i => by
    simp only [filt]
    split
    · exact filt_map a g l (i + 1)
    · rw [List.map_cons, filt_map a g l (i + 1)]; rfl
theorem keepN_le (g : Nat → Bool) : ∀ k, keepN g k ≤ k
  | 0 => Nat.le_refl _
  | k + 1 => by have := keepN_le g k; unfold keepN; split <;> omega
theorem keepN_mono (g : Nat → Bool) (i : Nat) : ∀ d, keepN g i ≤ keepN g (i + d)
  | 0 => Nat.le_refl _
  | d + 1 => by have := keepN_mono g i d; show _ ≤ keepN g (i + d) + _; omega
theorem keepN_gone (g : Nat → Bool) (i : Nat) : ∀ d, (∀ j, j < d → g (i + j) = true) → keepN g (i + d) = keepN g i
  | 0, _ => rfl
  | d + 1, h => by
    show keepN g (i + d) + (if g (i + d) = true then 0 else 1) = _
    rw [if_pos (h d (by omega)), keepN_gone g i d fun j hj => h j (by omega)]
    rfl
theorem keepN_all (g : Nat → Bool) : ∀ k, (∀ j, j < k → g j = false) → keepN g k = k
  | 0, _ => rfl
  | k + 1, h => by
    show keepN g k + _ = _
    rw [h k (by omega), keepN_all g k fun j hj => h j (by omega)]
    rfl
theorem keepN_full (g : Nat → Bool) : ∀ k, keepN g k = k → ∀ j, j < k → g j = false
  | 0, _, j, hj => by omega
  | k + 1, h, j, hj => by
    have h1 := keepN_le g k
    unfold keepN at h
    cases hg : g k with
    | true => rw [hg] at h; simp at h; omega
    | false =>
      rw [hg] at h
      rcases Nat.lt_or_ge j k with h2 | h2
      · exact keepN_full g k (by simpa using h) j h2
      · rw [show j = k by omega]; exact hg
theorem filt_at (a : Ins → Ins) (g : Nat → Bool) (t : List Ins) (k : Nat) (hk : k < t.length) (hg : g k = false) : keepN g k < (filt a g t 0).length ∧ nth (filt a g t 0) (keepN g k) = a (nth t k) := by
  have e : t = t.take k ++ nth t k :: t.drop (k + 1) := by
    have h : t.drop k = nth t k :: t.drop (k + 1) := by rw [List.drop_eq_getElem_cons hk, nth_eq _ _ hk]
    rw [← h, List.take_append_drop]
  have hlt : (t.take k).length = k := by rw [List.length_take]; omega
  have e2 : filt a g t 0 = filt a g (t.take k) 0 ++ (a (nth t k) :: filt a g (t.drop (k + 1)) (k + 1)) := by
    have h2 : filt a g t 0 = filt a g (t.take k ++ nth t k :: t.drop (k + 1)) 0 := by rw [← e]
    rw [h2, filt_append, hlt, Nat.zero_add]
    simp only [filt]
    rw [hg]
    rfl
  have h3 := filt_len0 a g (t.take k)
  rw [hlt] at h3
  rw [e2, List.length_append, List.length_cons, h3]
  refine ⟨by omega, ?_⟩
  unfold nth
  rw [List.getD_eq_getElem?_getD, List.getElem?_append_right (by omega), h3, Nat.sub_self]
  rfl
/-- Each of the remaining ones is one of the old ones. -/
theorem filt_from (a : Ins → Ins) (g : Nat → Bool) (t : List Ins) : ∀ j, j < (filt a g t 0).length → ∃ k, k < t.length ∧ g k = false ∧ keepN g k = j := by
  intro j hj
  rw [filt_len0] at hj
  have h : ∀ n, j < keepN g n → ∃ k, k < n ∧ g k = false ∧ keepN g k = j := by
    intro n
    induction n with
    | zero => intro h; simp [keepN] at h
    | succ n ih =>
      intro h
      unfold keepN at h
      cases hg : g n with
      | true =>
        rw [hg] at h
        obtain ⟨k, h1, h2, h3⟩ := ih (by simpa using h)
        exact ⟨k, by omega, h2, h3⟩
      | false =>
        rw [hg] at h
        by_cases h4 : j < keepN g n
        · obtain ⟨k, h1, h2, h3⟩ := ih h4
          exact ⟨k, by omega, h2, h3⟩
        · exact ⟨n, by omega, hg, by simp at h; omega⟩
  exact h _ hj

/-- The order of selects and cases stays. -/
theorem scan_filt (p p' : Prg) (f f' : Fun) (a : Ins → Ins) (hop : ∀ x, (a x).op = x.op) (hb : ∀ x, (a x).b = x.b) (g : Nat → Bool) : ∀ (l : List Ins) (i : Nat) (left left' : Int) (y : Bool),
    scanB p f l left = true → ((0 < left ∧ y = false) → left' = left) → (¬ (0 < left ∧ y = false) → left' ≤ 0) → (0 < left → ∀ k, k < l.length → (k : Int) < left → g (i + k) = y) →
    (∀ k, k < l.length → (nth l k).op = 50 → ∀ j : Nat, (j : Int) < (nth l k).b → k + 1 + j < l.length → g (i + (k + 1 + j)) = g (i + k)) →
    (∀ k, k < l.length → g (i + k) = false → instrB p' f' (a (nth l k)) = true) → scanB p' f' (filt a g l i) left' = true
  | [], _, _, _, _, _, _, _, _, _, _ => rfl
  | x :: l, i, left, left', y, hs, h1, h2, h3, h4, h5 => by
    unfold scanB at hs
    simp only [Bool.and_eq_true] at hs
    obtain ⟨hc, _, hs⟩ := hs
    have h4' : ∀ k, k < l.length → (nth l k).op = 50 → ∀ j : Nat, (j : Int) < (nth l k).b → k + 1 + j < l.length → g (i + 1 + (k + 1 + j)) = g (i + 1 + k) := fun k hk ho j hj hl => by
      have := h4 (k + 1) (by simp; omega) (by simpa [nth] using ho) j (by simpa [nth] using hj) (by simp; omega)
      rw [show i + 1 + (k + 1 + j) = i + (k + 1 + 1 + j) by omega, show i + 1 + k = i + (k + 1) by omega]
      exact this
    have h5' : ∀ k, k < l.length → g (i + 1 + k) = false → instrB p' f' (a (nth l k)) = true := fun k hk hg => by
      have := h5 (k + 1) (by simp; omega) (by rw [show i + (k + 1) = i + 1 + k by omega]; exact hg)
      simpa [nth] using this
    have hx : g i = false → instrB p' f' (a x) = true := fun hg => by
      have := h5 0 (by simp) (by simpa using hg)
      simpa [nth] using this
    by_cases hpos : 0 < left
    · have hop51 : x.op = 51 := by
        rw [decide_eq_true hpos] at hc
        have := (beq_iff_eq.1 hc).symm
        simpa using this
      have hne : ¬ x.op = 50 := by omega
      rw [if_neg hne, if_pos hpos] at hs
      have hgi : g i = y := by have := h3 hpos 0 (by simp) (by simpa using hpos); simpa using this
      have h3' : 0 < left - 1 → ∀ k, k < l.length → (k : Int) < left - 1 → g (i + 1 + k) = y := fun hp k hk hkl => by
        have := h3 hpos (k + 1) (by simp; omega) (by push_cast; omega)
        rw [show i + 1 + k = i + (k + 1) by omega]
        exact this
      unfold filt
      rw [hgi]
      cases y with
      | true =>
        rw [if_pos rfl]
        have hle := h2 (by simp)
        exact scan_filt p p' f f' a hop hb g l (i + 1) (left - 1) left' true hs (by simp) (fun _ => hle) h3' h4' h5'
      | false =>
        have he := h1 ⟨hpos, rfl⟩
        subst he
        rw [if_neg (by simp)]
        unfold scanB
        simp only [Bool.and_eq_true]
        refine ⟨?_, hx hgi, ?_⟩
        · rw [hop, decide_eq_true hpos, hop51]; rfl
        · rw [hop, if_neg hne, if_pos hpos]
          by_cases hl1 : 0 < left' - 1
          · exact scan_filt p p' f f' a hop hb g l (i + 1) (left' - 1) (left' - 1) false hs (fun _ => rfl) (fun h => absurd ⟨hl1, rfl⟩ h) h3' h4' h5'
          · exact scan_filt p p' f f' a hop hb g l (i + 1) (left' - 1) (left' - 1) false hs (fun _ => rfl) (fun _ => by omega) h3' h4' h5'
    · have hn51 : x.op ≠ 51 := by
        rw [decide_eq_false hpos] at hc
        intro e
        rw [e] at hc
        simp at hc
      have hle := h2 (fun h => hpos h.1)
      have hnl : ¬ 0 < left' := by omega
      by_cases h50 : x.op = 50
      · rw [if_pos h50] at hs
        have h3' : 0 < x.b → ∀ k, k < l.length → (k : Int) < x.b → g (i + 1 + k) = g i := fun _ k hk hkb => by
          have := h4 0 (by simp) (by simpa [nth] using h50) k (by simpa [nth] using hkb) (by simp; omega)
          rw [show i + 1 + k = i + (0 + 1 + k) by omega]
          simpa using this
        unfold filt
        cases hgi : g i with
        | true =>
          rw [if_pos rfl]
          exact scan_filt p p' f f' a hop hb g l (i + 1) x.b left' true hs (by simp) (fun _ => hle) (fun h k hk hkb => (h3' h k hk hkb).trans hgi) h4' h5'
        | false =>
          rw [if_neg (by simp)]
          unfold scanB
          simp only [Bool.and_eq_true]
          refine ⟨?_, hx hgi, ?_⟩
          · rw [hop, decide_eq_false hnl, h50]; rfl
          · rw [hop, if_pos h50, hb]
            exact scan_filt p p' f f' a hop hb g l (i + 1) x.b x.b false hs (fun _ => rfl) (fun h => by
              rcases Int.lt_or_le 0 x.b with h6 | h6
              · exact absurd ⟨h6, rfl⟩ h
              · exact h6) (fun h k hk hkb => (h3' h k hk hkb).trans hgi) h4' h5'
      · rw [if_neg h50, if_neg hpos] at hs
        unfold filt
        cases hgi : g i with
        | true =>
          rw [if_pos rfl]
          exact scan_filt p p' f f' a hop hb g l (i + 1) left left' y hs (fun h => absurd h.1 hpos) (fun _ => hle) (fun h => absurd h hpos) h4' h5'
        | false =>
          rw [if_neg (by simp)]
          unfold scanB
          simp only [Bool.and_eq_true]
          refine ⟨?_, hx hgi, ?_⟩
          · rw [hop, decide_eq_false hnl]
            have : (x.op == 51) = false := by simp [hn51]
            rw [this]; rfl
          · rw [hop, if_neg h50, if_neg hnl]
            exact scan_filt p p' f f' a hop hb g l (i + 1) left left' y hs (fun h => absurd h.1 hpos) (fun _ => hle) (fun h => absurd h hpos) h4' h5'

/-- Programs that differ only in the code. -/
structure Sam (p p' : Prg) : Prop where
  len : p'.funcs.length = p.funcs.length
  globs : p'.globals = p.globals
  lays : p'.layouts = p.layouts
  main : p'.main = p.main
  same : ∀ i, i < p.funcs.length → (nth p'.funcs i).name = (nth p.funcs i).name ∧ (nth p'.funcs i).params = (nth p.funcs i).params ∧ (nth p'.funcs i).regs = (nth p.funcs i).regs
theorem Sam.refl (p : Prg) : Sam p p := ⟨rfl, rfl, rfl, rfl, fun _ _ => ⟨rfl, rfl, rfl⟩⟩
theorem Sam.trans {a b c : Prg} (h : Sam a b) (k : Sam b c) : Sam a c :=
  ⟨k.len.trans h.len, k.globs.trans h.globs, k.lays.trans h.lays, k.main.trans h.main, fun i hi => by
    have h1 := h.same i hi
    have h2 := k.same i (by rw [h.len]; exact hi)
    exact ⟨h2.1.trans h1.1, h2.2.1.trans h1.2.1, h2.2.2.trans h1.2.2⟩⟩
theorem Sam.symm {a b : Prg} (h : Sam a b) : Sam b a :=
  ⟨h.len.symm, h.globs.symm, h.lays.symm, h.main.symm, fun i hi => by
    have h1 := h.same i (by rw [← h.len]; exact hi)
    exact ⟨h1.1.symm, h1.2.1.symm, h1.2.2.symm⟩⟩

theorem role_j (n k : Nat) (hn : n < 53) (hk : k < 3) (hj : ¬ jumps (n : Int)) : roleN (n : Int) k ≠ 106 := by
  have h : ∀ n : Fin 53, ∀ k : Fin 3, ¬ jumps (n.val : Int) → roleN (n.val : Int) k.val ≠ 106 := by decide +kernel
  exact h ⟨n, hn⟩ ⟨k, hk⟩ hj
theorem role_none (n : Int) (h : ¬ (0 < n ∧ n < 53)) : (roles n).data.isEmpty = true := by
  unfold roles
  repeat rw [if_neg (by omega)]
  rfl
theorem opd_same {p p' : Prg} {f f' : Fun} {x y : Ins} (h : Sam p p') (hr : f'.regs = f.regs) (hb : y.b = x.b) (hc : y.c = x.c) (r v : Int) (h106 : r ≠ 106) (ho : operandB p f x r v = true) : operandB p' f' y r v = true := by
  rw [← ho]
  unfold operandB
  rw [hr, h.globs, h.lays, h.len, hb, hc, if_neg h106]
  have hp : 0 ≤ v → v < p.funcs.length → (nth p'.funcs v.toNat).params = (nth p.funcs v.toNat).params := fun h1 h2 => (h.same v.toNat (by omega)).2.1
  have e1 : (decide (0 ≤ v) && (decide (v < (p.funcs.length : Int)) && (decide (0 ≤ x.c) && decide (x.c ≤ wrap64 (f.regs - (nth p'.funcs v.toNat).params))))) = (decide (0 ≤ v) && (decide (v < (p.funcs.length : Int)) && (decide (0 ≤ x.c) && decide (x.c ≤ wrap64 (f.regs - (nth p.funcs v.toNat).params))))) := by
    by_cases h1 : 0 ≤ v
    · by_cases h2 : v < p.funcs.length
      · rw [hp h1 h2]
      · rw [decide_eq_false h2]; simp
    · rw [decide_eq_false h1]; rfl
  have e2 : (decide (0 ≤ v) && (decide (v < (p.funcs.length : Int)) && ((nth p'.funcs v.toNat).params == 1))) = (decide (0 ≤ v) && (decide (v < (p.funcs.length : Int)) && ((nth p.funcs v.toNat).params == 1))) := by
    by_cases h1 : 0 ≤ v
    · by_cases h2 : v < p.funcs.length
      · rw [hp h1 h2]
      · rw [decide_eq_false h2]; simp
    · rw [decide_eq_false h1]; rfl
  rw [e1, e2, if_neg h106]
/-- An instruction whose target is new. -/
theorem instr_remap {p p' : Prg} {f f' : Fun} {x y : Ins} (h : Sam p p') (hr : f'.regs = f.regs) (hx : instrB p f x = true) (hnj : ¬ jumps x.op → y = x) (hj : jumps x.op → y = { x with c := y.c } ∧ Tg f'.code y.c) : instrB p' f' y = true := by
  have hx' := hx
  simp only [instrB, Bool.and_eq_true] at hx ⊢
  obtain ⟨h1, h2, h3, h4, h5, h6⟩ := hx
  by_cases hjm : jumps x.op
  · obtain ⟨hy, ht⟩ := hj hjm
    have e0 : y.op = x.op := by rw [hy]
    have e1 : y.a = x.a := by rw [hy]
    have e2 : y.b = x.b := by rw [hy]
    have e3 : y.pos = x.pos := by rw [hy]
    have hr2 : roleN x.op 2 = 106 := by rcases hjm with h | h | h <;> (rw [h]; rfl)
    have hr0 : roleN x.op 0 = 45 ∨ roleN x.op 0 = 114 := by rcases hjm with h | h | h <;> (rw [h]; first | exact .inl rfl | exact .inr rfl)
    have hr1 : roleN x.op 1 = 45 := by rcases hjm with h | h | h <;> (rw [h]; rfl)
    rw [e0, e1, e2, e3]
    refine ⟨h1, h2, ?_, ?_, ?_, ?_⟩
    · rcases hr0 with h7 | h7 <;> (rw [h7] at h3 ⊢; simp [operandB] at h3 ⊢; first | exact h3 | (rw [hr]; exact h3))
    · rw [hr1] at h4 ⊢; simp [operandB] at h4 ⊢; exact h4
    · rw [hr2]
      obtain ⟨h7, h8, h9⟩ := ht
      simp [operandB]
      exact ⟨h7, h8, h9⟩
    · unfold instrTail
      rw [e0, if_neg (by rcases hjm with h | h | h <;> omega), if_neg (by rcases hjm with h | h | h <;> omega)]
      rcases hjm with h | h | h <;> simp [h]
  · have hy := hnj hjm
    subst hy
    have hop : 0 < y.op ∧ y.op < 53 := by
      refine Classical.byContradiction fun hn => ?_
      rw [role_none _ hn] at h1
      simp at h1
    obtain ⟨n, hn⟩ : ∃ n : Nat, y.op = n := ⟨y.op.toNat, by omega⟩
    have hro : ∀ k, k < 3 → roleN y.op k ≠ 106 := fun k hk => by rw [hn] at hjm hop ⊢; exact role_j n k (by omega) hk hjm
    refine ⟨h1, h2, opd_same h hr rfl rfl _ _ (hro 0 (by omega)) h3, opd_same h hr rfl rfl _ _ (hro 1 (by omega)) h4, opd_same h hr rfl rfl _ _ (hro 2 (by omega)) h5, ?_⟩
    unfold instrTail at h6 ⊢
    rw [hr]
    exact h6

end Go.Proofs.YteiohnfmlabelaaGreat
