/-
  What a depth-first search lists: the reachable nodes, each once; a node that is listed before another one can be avoided on a path to it.
-/
import Derived.Test.YtiaajdckhedofaaOrd1
namespace Go.Proofs.Ytiaajdckhedofaa
set_option linter.unusedVariables false
set_option linter.unusedSimpArgs false
open Go.RowKit

/-- A path from node 0 within G. -/
inductive BP (nx : Nat → List Int) (G : Nat → Prop) : Nat → Prop
  | start : G 0 → BP nx G 0
  | step (i j : Nat) : BP nx G i → (j : Int) ∈ nx i → G j → BP nx G j
theorem BP.mono {nx : Nat → List Int} {G G' : Nat → Prop} (hg : ∀ j, G j → G' j) {j : Nat} (h : BP nx G j) : BP nx G' j := by
  induction h with
  | start h => exact .start (hg _ h)
  | step i j _ hx h ih => exact .step i j ih hx (hg _ h)
/-- A path to a that does not pass through b. -/
def Av (nx : Nat → List Int) (b a : Nat) : Prop := BP nx (fun j => j ≠ b) a

def toI (k : Nat) : Int := k
theorem falses_mono : ∀ (l l' : List Bool), l.length = l'.length → (∀ j, j < l.length → nth l j = true → nth l' j = true) → falses l' ≤ falses l := by
  intro l
  induction l with
  | nil => intro l' h _; cases l' with
    | nil => exact Nat.le_refl _
    | cons => simp at h
  | cons a l ih =>
    intro l' h hm
    cases l' with
    | nil => simp at h
    | cons b l' =>
      have h1 := ih l' (by simpa using h) (fun j hj => hm (j + 1) (by simpa using hj))
      have h0 : a = true → b = true := hm 0 (by simp)
      unfold falses at *
      cases a <;> cases b <;> simp_all <;> omega

structure Ext (nx : Nat → List Int) (n : Nat) (x x' : List Bool × List Int) (e : List Nat) : Prop where
  len : x'.1.length = n
  list : x'.2 = x.2 ++ e.map toI
  seen : ∀ j, j < n → (nth x'.1 j = true ↔ nth x.1 j = true ∨ j ∈ e)
  fresh : ∀ j ∈ e, j < n ∧ nth x.1 j = false
  nodup : e.Nodup
  closed : ∀ j ∈ e, ∀ y ∈ nx j, nth x'.1 y.toNat = true

theorem Ext.trans {nx : Nat → List Int} {n : Nat} {x y z : List Bool × List Int} {e e2 : List Nat} (hnx : ∀ i, i < n → ∀ y ∈ nx i, 0 ≤ y ∧ y < n) (h1 : Ext nx n x y e) (h2 : Ext nx n y z e2) : Ext nx n x z (e ++ e2) := by
  refine ⟨h2.len, by rw [h2.list, h1.list]; simp, fun j hj => ?_, fun j hj => ?_, ?_, fun j hj y hy => ?_⟩
  · rw [h2.seen j hj, h1.seen j hj]; simp [or_assoc]
  · rcases List.mem_append.1 hj with h | h
    · exact h1.fresh j h
    · have := h2.fresh j h
      refine ⟨this.1, ?_⟩
      cases hx : nth x.1 j with
      | false => rfl
      | true =>
        have := (h1.seen j this.1).2 (.inl hx)
        simp_all
  · refine List.nodup_append.2 ⟨h1.nodup, h2.nodup, fun a ha b hb e => ?_⟩
    subst e
    have h3 := h2.fresh a hb
    have := (h1.seen a h3.1).2 (.inr ha)
    simp_all
  · rcases List.mem_append.1 hj with h | h
    · have h3 := h1.closed j h y hy
      have h4 := hnx j (h1.fresh j h).1 y hy
      exact (h2.seen y.toNat (by omega)).2 (.inl h3)
    · exact h2.closed j h y hy

/-- What is known when a node is entered. -/
structure Cal (nx : Nat → List Int) (n : Nat) (x : List Bool × List Int) (D : List Nat) (i : Nat) : Prop where
  len : x.1.length = n
  lt : i < n
  new : nth x.1 i = false
  done : ∀ j ∈ D, j < n ∧ nth x.1 j = true
  pw : D.Pairwise (Av nx)
  path : ∃ G : Nat → Prop, BP nx (fun j => G j ∨ j = i) i ∧ ∀ j, G j → j ∉ D ∧ j < n ∧ nth x.1 j = true

theorem dfs_ext (nx : Nat → List Int) (n : Nat) (hnx : ∀ i, i < n → ∀ y ∈ nx i, 0 ≤ y ∧ y < n) : ∀ f i x D, falses x.1 ≤ f → Cal nx n x D i →
    ∃ e, Ext nx n x (dfs nx f i x) (e ++ [i]) ∧ (D ++ (e ++ [i])).Pairwise (Av nx) ∧ ∀ j ∈ e ++ [i], BP nx (fun _ => True) j := by
  intro f
  induction f with
  | zero =>
    intro i x D hf hc
    exfalso
    have := falses_set x.1 i (by rw [hc.len]; exact hc.lt) hc.new
    omega
  | succ f ih =>
    intro i x D hf hc
    obtain ⟨G, hp, hG⟩ := hc.path
    have hfs := falses_set x.1 i (by rw [hc.len]; exact hc.lt) hc.new
    have hset : ∀ j, j < n → (nth (x.1.set i true) j = true ↔ nth x.1 j = true ∨ j = i) := by
      intro j hj
      rw [nth_set _ _ _ _ (by rw [hc.len]; exact hj)]
      by_cases h : i = j
      · subst h; simp
      · have h' : ¬ j = i := fun e => h e.symm
        simp [h, h']
    have fold : ∀ l : List Int, (∀ y ∈ l, 0 ≤ y ∧ y < n ∧ y ∈ nx i) → ∀ z e, Ext nx n (x.1.set i true, x.2) z e → (D ++ e).Pairwise (Av nx) → (∀ j ∈ e, BP nx (fun _ => True) j) →
        ∃ e', Ext nx n (x.1.set i true, x.2) (l.foldl (dfsStep (dfs nx f)) z) e' ∧ (D ++ e').Pairwise (Av nx) ∧ (∀ j ∈ e', BP nx (fun _ => True) j) ∧ (∀ y ∈ l, nth (l.foldl (dfsStep (dfs nx f)) z).1 y.toNat = true) ∧
          ∀ j, j < n → nth z.1 j = true → nth (l.foldl (dfsStep (dfs nx f)) z).1 j = true := by
      intro l
      induction l with
      | nil => intro _ z e he hpw hb; exact ⟨e, he, hpw, hb, fun y hy => by simp at hy, fun j _ h => h⟩
      | cons y l ihl =>
        intro hl z e he hpw hb
        obtain ⟨hy0, hy1, hy2⟩ := hl y (by simp)
        have hl' : ∀ y ∈ l, 0 ≤ y ∧ y < n ∧ y ∈ nx i := fun y hy => hl y (by simp [hy])
        have step : ∃ e1, Ext nx n (x.1.set i true, x.2) (dfsStep (dfs nx f) z y) e1 ∧ (D ++ e1).Pairwise (Av nx) ∧ (∀ j ∈ e1, BP nx (fun _ => True) j) ∧ nth (dfsStep (dfs nx f) z y).1 y.toNat = true ∧
            ∀ j, j < n → nth z.1 j = true → nth (dfsStep (dfs nx f) z y).1 j = true := by
          unfold dfsStep
          by_cases hs : nth z.1 y.toNat = true
          · rw [if_pos hs]; exact ⟨e, he, hpw, hb, hs, fun j _ h => h⟩
          · rw [if_neg hs]
            have hs' : nth z.1 y.toNat = false := by simpa using hs
            have hzf : falses z.1 ≤ f := by
              have := falses_mono (x.1.set i true) z.1 (by rw [he.len]; simp [hc.len]) (fun j hj h => (he.seen j (by simpa [hc.len] using hj)).2 (.inl h))
              omega
            have hcal : Cal nx n z (D ++ e) y.toNat := by
              refine ⟨he.len, by omega, hs', fun j hj => ?_, hpw, fun j => G j ∨ j = i, ?_, fun j hj => ?_⟩
              · rcases List.mem_append.1 hj with h | h
                · have := hc.done j h
                  exact ⟨this.1, (he.seen j this.1).2 (.inl ((hset j this.1).2 (.inl this.2)))⟩
                · have := he.fresh j h
                  exact ⟨this.1, (he.seen j this.1).2 (.inr h)⟩
              · exact .step i y.toNat (hp.mono fun j h => .inl h) (by rw [show ((y.toNat : Nat) : Int) = y by omega]; exact hy2) (.inr rfl)
              · have h1 : j < n ∧ nth (x.1.set i true) j = true := by
                  rcases hj with h | h
                  · exact ⟨(hG j h).2.1, (hset j (hG j h).2.1).2 (.inl (hG j h).2.2)⟩
                  · subst h; exact ⟨hc.lt, (hset j hc.lt).2 (.inr rfl)⟩
                refine ⟨fun hm => ?_, h1.1, (he.seen j h1.1).2 (.inl h1.2)⟩
                rcases List.mem_append.1 hm with h | h
                · rcases hj with h2 | h2
                  · exact (hG j h2).1 h
                  · subst h2
                    have := (hc.done j h).2
                    rw [hc.new] at this; cases this
                · have := (he.fresh j h).2
                  rw [h1.2] at this; cases this
            obtain ⟨e2, h1, h2, h3⟩ := ih y.toNat z (D ++ e) hzf hcal
            refine ⟨e ++ (e2 ++ [y.toNat]), he.trans hnx h1, by rw [← List.append_assoc]; exact h2, fun j hj => ?_, (h1.seen y.toNat (by omega)).2 (.inr (by simp)), fun j hj h => (h1.seen j hj).2 (.inl h)⟩
            rcases List.mem_append.1 hj with h | h
            · exact hb j h
            · exact h3 j h
        obtain ⟨e1, h1, h2, h3, h4, h5⟩ := step
        obtain ⟨e', g1, g2, g3, g4, g5⟩ := ihl hl' _ e1 h1 h2 h3
        refine ⟨e', g1, g2, g3, fun u hu => ?_, fun j hj h => g5 j hj (h5 j hj h)⟩
        rcases List.mem_cons.1 hu with h | h
        · subst h; exact g5 u.toNat (by omega) h4
        · exact g4 u h
    have h0 : Ext nx n (x.1.set i true, x.2) (x.1.set i true, x.2) [] := ⟨by simp [hc.len], by simp, fun j _ => by simp, fun j hj => by simp at hj, List.nodup_nil, fun j hj => by simp at hj⟩
    obtain ⟨e, h1, h2, h3, h4, _⟩ := fold (nx i) (fun y hy => ⟨(hnx i hc.lt y hy).1, (hnx i hc.lt y hy).2, hy⟩) _ [] h0 (by simpa using hc.pw) (fun j hj => by simp at hj)
    have hie : i ∉ e := fun h => by
      have := (h1.fresh i h).2
      rw [(hset i hc.lt).2 (.inr rfl)] at this; cases this
    have hfr : ∀ j ∈ e, j < n ∧ nth x.1 j = false := fun j hj => by
      have h5 := h1.fresh j hj
      refine ⟨h5.1, ?_⟩
      cases hx : nth x.1 j with
      | false => rfl
      | true =>
        have := (hset j h5.1).2 (.inl hx)
        rw [h5.2] at this; cases this
    have hbi : BP nx (fun _ => True) i := hp.mono fun _ _ => trivial
    refine ⟨e, ⟨?_, ?_, fun j hj => ?_, fun j hj => ?_, ?_, fun j hj y hy => ?_⟩, ?_, fun j hj => ?_⟩
    · exact h1.len
    · show _ ++ [(i : Int)] = _
      rw [h1.list]; simp [toI]
    · show nth ((nx i).foldl (dfsStep (dfs nx f)) (x.1.set i true, x.2)).1 j = true ↔ _
      rw [h1.seen j hj, hset j hj]
      simp only [List.mem_append, List.mem_singleton]
      constructor
      · rintro ((h | h) | h)
        · exact .inl h
        · exact .inr (.inr h)
        · exact .inr (.inl h)
      · rintro (h | h | h)
        · exact .inl (.inl h)
        · exact .inr h
        · exact .inl (.inr h)
    · rcases List.mem_append.1 hj with h | h
      · exact hfr j h
      · simp at h; subst h; exact ⟨hc.lt, hc.new⟩
    · refine List.nodup_append.2 ⟨h1.nodup, by simp, fun a ha b hb e => ?_⟩
      simp at hb; subst hb; subst e; exact hie ha
    · show nth ((nx i).foldl (dfsStep (dfs nx f)) (x.1.set i true, x.2)).1 y.toNat = true
      rcases List.mem_append.1 hj with h | h
      · exact h1.closed j h y hy
      · simp at h; subst h; exact h4 y hy
    · rw [← List.append_assoc]
      refine List.pairwise_append.2 ⟨h2, by simp, fun b hb a ha => ?_⟩
      simp at ha; subst ha
      refine hp.mono fun j hj e => ?_
      subst e
      rcases List.mem_append.1 hb with h | h
      · rcases hj with h5 | h5
        · exact (hG j h5).1 h
        · subst h5
          have := (hc.done j h).2
          rw [hc.new] at this; cases this
      · rcases hj with h5 | h5
        · have := (hfr j h).2
          rw [(hG j h5).2.2] at this; cases this
        · subst h5; exact hie h
    · rcases List.mem_append.1 hj with h | h
      · exact h3 j h
      · simp at h; subst h; exact hbi

/-- The search from node 0. -/
theorem dfs_all (nx : Nat → List Int) (n : Nat) (h0 : 0 < n) (hnx : ∀ i, i < n → ∀ y ∈ nx i, 0 ≤ y ∧ y < n) :
    ∃ D : List Nat, (dfs nx n 0 (List.replicate n false, [])).2 = (D ++ [0]).map toI ∧ (D ++ [0]).Nodup ∧ (D ++ [0]).Pairwise (Av nx) ∧ (∀ j ∈ D ++ [0], j < n) ∧ ∀ j, j ∈ D ++ [0] ↔ BP nx (fun _ => True) j := by
  have hf : ∀ j, nth (List.replicate n false) j = false := fun j => by simp [nth, List.getElem?_replicate]; split <;> rfl
  obtain ⟨D, h1, h2, h3⟩ := dfs_ext nx n hnx n 0 (List.replicate n false, []) [] (by rw [falses_replicate]; exact Nat.le_refl _) ⟨by simp, h0, hf 0, fun j hj => by simp at hj, List.Pairwise.nil, fun _ => False, .start (.inr rfl), fun j h => h.elim⟩
  refine ⟨D, by rw [h1.list]; rfl, h1.nodup, h2, fun j hj => (h1.fresh j hj).1, fun j => ⟨h3 j, fun h => ?_⟩⟩
  induction h with
  | start _ => simp
  | step i j _ hx _ ih =>
    have := h1.closed i ih _ hx
    have hi := (h1.fresh i ih).1
    have hj := hnx i hi _ hx
    rcases (h1.seen j (by omega)).1 this with h | h
    · have := hf j; simp_all
    · exact h

end Go.Proofs.Ytiaajdckhedofaa
