/-
  The disassembly tells a valid program but for Main and the offsets.
-/
import Derived.Test.YtihcngjkflaelaaGreatDoorZTxtP
namespace Go.Proofs.YtihcngjkflaelaaGreatDoor
set_option linter.unusedVariables false
set_option linter.unusedSimpArgs false
open Go.RowKit

def bareI (x : Ins) : Ins := { x with pos := 0 }
def bareF (f : Fun) : Fun := { f with code := f.code.map bareI }
/-- Without Main and offsets. -/
def bareP (p : Prg) : Prg := { p with main := 0, funcs := p.funcs.map bareF }
structure Plain (p : Prg) : Prop where
  globs : ∀ g ∈ p.globals, Wrd (bl g.name)
  funcs : ∀ f ∈ p.funcs, Wrd (bl f.name)

theorem insT_bare (i : Nat) (x : Ins) : insT i (bareI x) = insT i x := rfl
theorem codeT_bare : ∀ (i : Nat) (c : List Ins), codeT i (c.map bareI) = codeT i c
  | _, [] => rfl
  | i, x :: c => by
    show insT i (bareI x) :: codeT (i + 1) (c.map bareI) = insT i x :: codeT (i + 1) c
    rw [insT_bare, codeT_bare (i + 1) c]
theorem funT_bare (f : Fun) : funT (bareF f) = funT f := by
  show headT f :: codeT 0 (f.code.map bareI) = headT f :: codeT 0 f.code
  rw [codeT_bare]
theorem lines_bare (p : Prg) : linesP (bareP p) = linesP p := by
  show p.globals.map globT ++ (p.layouts.map layT ++ (p.funcs.map bareF).flatMap funT) = _
  rw [List.flatMap_map]
  have e : (fun f => funT (bareF f)) = funT := funext funT_bare
  rw [e]; rfl
theorem text_bare (p : Prg) : textL (bareP p) = textL p := by unfold textL; rw [lines_bare]

theorem opdT_wrd (r v : Int) : ∀ x ∈ opdT r v, Wrd x := by
  unfold opdT
  split
  · simp
  · intro x hx
    rw [List.mem_singleton.1 hx]; exact itoa_wrd v
theorem insT_wrd (i : Nat) (x : Ins) : insT i x ≠ [] ∧ ∀ t ∈ insT i x, Wrd t := by
  refine ⟨by simp [insT], fun t ht => ?_⟩
  unfold insT at ht
  rcases List.mem_cons.1 ht with h | h
  · rw [h]
    have := itoa_wrd i
    refine ⟨fun hm => ?_, fun hm => ?_⟩
    · rcases List.mem_cons.1 hm with h1 | h1
      · exact absurd h1 (by decide)
      · exact this.1 h1
    · rcases List.mem_cons.1 hm with h1 | h1
      · exact absurd h1 (by decide)
      · exact this.2 h1
  · rcases List.mem_cons.1 h with h | h
    · rw [h]; exact word_wrd x.op
    · unfold opds at h
      rw [List.mem_append, List.mem_append] at h
      rcases h with h | h | h
      · exact opdT_wrd _ _ t h
      · exact opdT_wrd _ _ t h
      · exact opdT_wrd _ _ t h
theorem codeT_mem : ∀ (i : Nat) (c : List Ins), ∀ l ∈ codeT i c, ∃ k x, l = insT k x
  | _, [], l, h => by simp [codeT] at h
  | i, x :: c, l, h => by
    rcases List.mem_cons.1 h with h | h
    · exact ⟨i, x, h⟩
    · exact codeT_mem (i + 1) c l h
theorem lines_wrd {p : Prg} (hp : Plain p) : ∀ l ∈ linesP p, l ≠ [] ∧ ∀ x ∈ l, Wrd x := by
  intro l hl
  have hf : Wrd fW := ⟨by decide, by decide⟩
  have hg : Wrd gW := ⟨by decide, by decide⟩
  have hy : Wrd lW := ⟨by decide, by decide⟩
  unfold linesP at hl
  rw [List.mem_append, List.mem_append] at hl
  rcases hl with hl | hl | hl
  · obtain ⟨g, hgm, rfl⟩ := List.mem_map.1 hl
    refine ⟨by simp [globT], fun x hx => ?_⟩
    simp only [globT, List.mem_cons, List.not_mem_nil, or_false] at hx
    rcases hx with rfl | rfl | rfl
    · exact hg
    · exact hp.globs g hgm
    · exact itoa_wrd _
  · obtain ⟨r, _, rfl⟩ := List.mem_map.1 hl
    refine ⟨by simp [layT], fun x hx => ?_⟩
    unfold layT at hx
    rcases List.mem_cons.1 hx with rfl | hx
    · exact hy
    · obtain ⟨v, _, rfl⟩ := List.mem_map.1 hx
      exact itoa_wrd v
  · rw [List.mem_flatMap] at hl
    obtain ⟨f, hfm, hl⟩ := hl
    unfold funT at hl
    rcases List.mem_cons.1 hl with rfl | hl
    · refine ⟨by simp [headT], fun x hx => ?_⟩
      simp only [headT, List.mem_cons, List.not_mem_nil, or_false] at hx
      rcases hx with rfl | rfl | rfl | rfl
      · exact hf
      · exact hp.funcs f hfm
      · exact itoa_wrd _
      · exact itoa_wrd _
    · obtain ⟨k, x, rfl⟩ := codeT_mem 0 f.code l hl
      exact insT_wrd k x

/-- The first word of a line. -/
def fst (l : List (List UInt8)) : List UInt8 := l.headD []
theorem fst_ins (i : Nat) (x : Ins) : fst (insT i x) = 9 :: Lib.itoa i := rfl
theorem fun_fst (f : Fun) : ∀ l ∈ funT f, fst l ≠ gW ∧ fst l ≠ lW := by
  intro l hl
  unfold funT at hl
  rcases List.mem_cons.1 hl with rfl | hl
  · exact ⟨by show fW ≠ gW; decide, by show fW ≠ lW; decide⟩
  · obtain ⟨k, x, rfl⟩ := codeT_mem 0 f.code l hl
    rw [fst_ins]
    exact ⟨fun h => absurd (List.cons.inj h).1 (by decide), fun h => absurd (List.cons.inj h).1 (by decide)⟩
theorem filter_all {α : Type} (P : α → Bool) (l : List α) (h : ∀ x ∈ l, P x = true) : l.filter P = l := List.filter_eq_self.2 h
theorem filter_none {α : Type} (P : α → Bool) (l : List α) (h : ∀ x ∈ l, P x = false) : l.filter P = [] := List.filter_eq_nil_iff.2 fun x hx => by rw [h x hx]; simp
def isW (w : List UInt8) (l : List (List UInt8)) : Bool := fst l == w
theorem lines_glob (p : Prg) : (linesP p).filter (isW gW) = p.globals.map globT := by
  unfold linesP
  rw [List.filter_append, List.filter_append, filter_all, filter_none, filter_none, List.append_nil, List.append_nil]
  · intro l hl
    obtain ⟨f, _, hl⟩ := List.mem_flatMap.1 hl
    exact beq_eq_false_iff_ne.2 (fun_fst f l hl).1
  · intro l hl
    obtain ⟨r, _, rfl⟩ := List.mem_map.1 hl
    rfl
  · intro l hl
    obtain ⟨g, _, rfl⟩ := List.mem_map.1 hl
    rfl
theorem lines_lay (p : Prg) : (linesP p).filter (isW lW) = p.layouts.map layT := by
  unfold linesP
  rw [List.filter_append, List.filter_append, filter_none, filter_all, filter_none, List.append_nil, List.nil_append]
  · intro l hl
    obtain ⟨f, _, hl⟩ := List.mem_flatMap.1 hl
    exact beq_eq_false_iff_ne.2 (fun_fst f l hl).2
  · intro l hl
    obtain ⟨r, _, rfl⟩ := List.mem_map.1 hl
    rfl
  · intro l hl
    obtain ⟨g, _, rfl⟩ := List.mem_map.1 hl
    rfl
theorem lines_fun (p : Prg) : (linesP p).filter (fun l => !(isW gW l) && !(isW lW l)) = p.funcs.flatMap funT := by
  unfold linesP
  rw [List.filter_append, List.filter_append, filter_none, filter_none, filter_all, List.nil_append, List.nil_append]
  · intro l hl
    obtain ⟨f, _, hl⟩ := List.mem_flatMap.1 hl
    rw [show isW gW l = false from beq_eq_false_iff_ne.2 (fun_fst f l hl).1, show isW lW l = false from beq_eq_false_iff_ne.2 (fun_fst f l hl).2]; rfl
  · intro l hl
    obtain ⟨r, _, rfl⟩ := List.mem_map.1 hl
    rfl
  · intro l hl
    obtain ⟨g, _, rfl⟩ := List.mem_map.1 hl
    rfl

theorem bl_inj {a b : ByteArray} (h : bl a = bl b) : a = b := by
  cases a; cases b
  simp only [bl] at h
  rw [Array.toList_inj.1 h]
theorem map_inj {α β : Type} {f : α → β} (hf : ∀ a b, f a = f b → a = b) : ∀ {l m : List α}, l.map f = m.map f → l = m
  | [], [], _ => rfl
  | [], _ :: _, h => by simp at h
  | _ :: _, [], h => by simp at h
  | a :: l, b :: m, h => by
    simp only [List.map_cons, List.cons.injEq] at h
    rw [hf a b h.1, map_inj hf h.2]
theorem globT_inj (a b : Glob) (h : globT a = globT b) : a = b := by
  simp only [globT, List.cons.injEq] at h
  have h1 := bl_inj h.2.1
  have h2 := itoa_inj h.2.2.1
  cases a; cases b
  simp only at h1 h2
  subst h1; subst h2; rfl
theorem layT_inj (a b : List Int) (h : layT a = layT b) : a = b := by
  simp only [layT, List.cons.injEq] at h
  exact map_inj (fun _ _ => itoa_inj) h.2

/-- Cut behind what satisfies P. -/
theorem while_inj {α : Type} (P : α → Bool) : ∀ (a b r t : List α), (∀ x ∈ a, P x = true) → (∀ x ∈ b, P x = true) → (∀ x, r.head? = some x → P x = false) → (∀ x, t.head? = some x → P x = false) → a ++ r = b ++ t → a = b ∧ r = t
  | [], [], r, t, _, _, _, _, h => ⟨rfl, by simpa using h⟩
  | [], y :: b, r, t, _, hb, hr, _, h => by
    have := hr y (by rw [List.nil_append] at h; rw [h]; rfl)
    rw [hb y (by simp)] at this; exact absurd this (by simp)
  | x :: a, [], r, t, ha, _, _, ht, h => by
    have := ht x (by rw [List.nil_append] at h; rw [← h]; rfl)
    rw [ha x (by simp)] at this; exact absurd this (by simp)
  | x :: a, y :: b, r, t, ha, hb, hr, ht, h => by
    simp only [List.cons_append, List.cons.injEq] at h
    obtain ⟨h1, h2⟩ := while_inj P a b r t (fun z hz => ha z (by simp [hz])) (fun z hz => hb z (by simp [hz])) hr ht h.2
    exact ⟨by rw [h.1, h1], h2⟩
theorem code_fst (i : Nat) (c : List Ins) : ∀ l ∈ codeT i c, (!(isW fW l)) = true := by
  intro l hl
  obtain ⟨k, x, rfl⟩ := codeT_mem i c l hl
  rw [show isW fW (insT k x) = false from beq_eq_false_iff_ne.2 (by rw [fst_ins]; exact fun h => absurd (List.cons.inj h).1 (by decide))]; rfl
theorem funs_fst (F : List Fun) : ∀ l, (F.flatMap funT).head? = some l → (!(isW fW l)) = false := by
  intro l hl
  cases F with
  | nil => simp at hl
  | cons f F =>
    rw [List.flatMap_cons] at hl
    simp only [funT, List.cons_append, List.head?_cons, Option.some.injEq] at hl
    rw [← hl]; rfl
theorem codeT_inj {p q : Prg} {f g : Fun} : ∀ (i : Nat) (c d : List Ins), (∀ x ∈ c, instrC p f x = true) → (∀ x ∈ d, instrC q g x = true) → codeT i c = codeT i d → c.map bareI = d.map bareI
  | _, [], [], _, _, _ => rfl
  | _, [], _ :: _, _, _, h => by simp [codeT] at h
  | _, _ :: _, [], _, _, h => by simp [codeT] at h
  | i, x :: c, y :: d, hc, hd, h => by
    simp only [codeT, List.cons.injEq] at h
    obtain ⟨h1, h2, h3, h4⟩ := insT_inj (hc x (by simp)) (hd y (by simp)) h.1
    have e : bareI x = bareI y := by
      cases x; cases y
      simp only at h1 h2 h3 h4
      subst h1; subst h2; subst h3; subst h4; rfl
    rw [List.map_cons, List.map_cons, e, codeT_inj (i + 1) c d (fun z hz => hc z (by simp [hz])) (fun z hz => hd z (by simp [hz])) h.2]
/-- Every instruction is valid. -/
def InsOk (p : Prg) (f : Fun) : Prop := ∀ x ∈ f.code, instrC p f x = true
theorem funs_inj {p q : Prg} : ∀ (F G : List Fun), (∀ f ∈ F, InsOk p f) → (∀ g ∈ G, InsOk q g) → F.flatMap funT = G.flatMap funT → F.map bareF = G.map bareF
  | [], [], _, _, _ => rfl
  | [], g :: G, _, _, h => by simp [funT] at h
  | f :: F, [], _, _, h => by simp [funT] at h
  | f :: F, g :: G, hF, hG, h => by
    rw [List.flatMap_cons, List.flatMap_cons] at h
    simp only [funT, List.cons_append, List.cons.injEq] at h
    obtain ⟨h1, h2⟩ := while_inj (fun l => !(isW fW l)) (codeT 0 f.code) (codeT 0 g.code) (F.flatMap funT) (G.flatMap funT) (code_fst 0 f.code) (code_fst 0 g.code) (funs_fst F) (funs_fst G) h.2
    have hc := codeT_inj 0 f.code g.code (hF f (by simp)) (hG g (by simp)) h1
    have hh := h.1
    simp only [headT, List.cons.injEq] at hh
    have e1 := bl_inj hh.2.1
    have e2 := itoa_inj hh.2.2.1
    have e3 := itoa_inj hh.2.2.2.1
    have e : bareF f = bareF g := by
      cases f; cases g
      simp only at e1 e2 e3 hc
      subst e1; subst e2; subst e3
      simp only [bareF]
      rw [hc]
    rw [List.map_cons, List.map_cons, e, funs_inj F G (fun z hz => hF z (by simp [hz])) (fun z hz => hG z (by simp [hz])) h2]

theorem text_inj {p q : Prg} (hp : Plain p) (hq : Plain q) (h1 : ∀ f ∈ p.funcs, InsOk p f) (h2 : ∀ f ∈ q.funcs, InsOk q f) : textL p = textL q ↔ bareP p = bareP q := by
  constructor
  · intro h
    have hl := text_lines _ _ (lines_wrd hp) (lines_wrd hq) h
    have e1 := map_inj globT_inj (show p.globals.map globT = q.globals.map globT by rw [← lines_glob p, ← lines_glob q, hl])
    have e2 := map_inj layT_inj (show p.layouts.map layT = q.layouts.map layT by rw [← lines_lay p, ← lines_lay q, hl])
    have e3 := funs_inj p.funcs q.funcs h1 h2 (by rw [← lines_fun p, ← lines_fun q, hl])
    unfold bareP
    rw [e1, e2, e3]
  · intro h
    rw [← text_bare p, ← text_bare q, h]

end Go.Proofs.YtihcngjkflaelaaGreatDoor
