/-
  For each node a row of numbers of the call's own, while they are filled.
-/
import Derived.Deep.AppendLies
import Derived.Test.YtnbffkcnhphdnaaZVat42
import Derived.Test.YtnbffkcnhphdnaaZMapB
import Derived.Test.YtnbffkcnhphdnaaZQueue
namespace Go.Proofs.Ytnbffkcnhphdnaa
set_option linter.unusedVariables false
set_option linter.unusedSimpArgs false
open Go.RowKit

structure OutAt (B ob : Nat) (w : World) (n : Nat) (ss : List Slc) (o : Nat → List Int) : Prop where
  len : ss.length = n
  box : BoxAt w ob 34 (ss.map Slc.val)
  row : ∀ i, i < n → OwnE intE B 3 w (nth ss i).val (o i)
  ne : ∀ i j, i < n → j < n → i ≠ j → ∀ k, (nth ss i).val.ownBlock = some k → (nth ss j).val.ownBlock ≠ some k

theorem OutAt.start {B ob : Nat} {w : World} (n : Nat) (h : BoxAt w ob 34 (List.replicate n (.slice none 0 0))) : OutAt B ob w n (List.replicate n ⟨none, 0, 0⟩) (fun _ => []) :=
  ⟨by simp, by rw [List.map_replicate]; exact h, fun i hi => by rw [nth_replX _ _ _ hi]; exact OwnE.nil _ _ _ _, fun i j hi hj _ k hk => by rw [nth_replX _ _ _ hi] at hk; cases hk⟩
theorem OutAt.lt {B ob n : Nat} {w : World} {ss : List Slc} {o : Nat → List Int} (h : OutAt B ob w n ss o) : ob < w.heap.size := h.box.lt
theorem OutAt.cell {B ob n : Nat} {w : World} {ss : List Slc} {o : Nat → List Int} (h : OutAt B ob w n ss o) (i : Nat) (hi : i < n) : w.cell? ⟨ob, i, none⟩ = some (.slice (nth ss i).a (nth ss i).n (nth ss i).c) :=
  h.box.cell i _ (by rw [List.getElem?_map, List.getElem?_eq_getElem (by rw [h.len]; exact hi), nth_eq _ _ (by rw [h.len]; exact hi)]; rfl)
theorem OutAt.frozen {B ob n : Nat} {w : World} {ss : List Slc} {o : Nat → List Int} (h : OutAt B ob w n ss o) (i : Nat) : w.frozen? ⟨ob, i, none⟩ = false := h.box.frozen i
theorem own_len {B : Nat} {e : TypeId} {w : World} {s : Slc} {l : List Int} (h : OwnE intE B e w s.val l) : s.n = l.length := by
  obtain ⟨a, c, he⟩ := h.anySlice
  exact (Value.slice.inj he).2.1
theorem OutAt.keep {B ob n : Nat} {w w' : World} {ss : List Slc} {o : Nat → List Int} (h : OutAt B ob w n ss o) (hk : ∀ k, k = ob ∨ (∃ i, i < n ∧ (nth ss i).val.ownBlock = some k) → w'.heap[k]? = w.heap[k]?) : OutAt B ob w' n ss o :=
  ⟨h.len, h.box.ofBlock (hk ob (.inl rfl)), fun i hi => (h.row i hi).ofBlock fun k hb => hk k (.inr ⟨i, hi, hb⟩), h.ne⟩
theorem OutAt.below {B ob n : Nat} {w w' : World} {ss : List Slc} {o : Nat → List Int} (h : OutAt B ob w n ss o) (hb : Below w.heap.size w w') : OutAt B ob w' n ss o :=
  h.keep fun k hk => hb.block k (by
    rcases hk with rfl | ⟨i, hi, hk⟩
    · exact h.lt
    · exact ((h.row i hi).lt k hk).2)
/-- A row of ints lies in no block of slices. -/
theorem own_ne_box {B ob : Nat} {w : World} {v : Value} {l : List Int} {vs : List Value} (h : OwnE intE B 3 w v l) (hb : BoxAt w ob 34 vs) (k : Nat) (hk : v.ownBlock = some k) : k ≠ ob := by
  intro e
  subst e
  exact h.neBox hb (by decide) k hk rfl
/-- One of the rows gains an element. -/
theorem OutAt.push {B ob n i : Nat} {w w1 w9 : World} {ss : List Slc} {o : Nat → List Int} (h : OutAt B ob w n ss o) (hi : i < n) (S : Slc) (l : List Int) (h1 : Below w.heap.size w w1) (hg : w1.grownBy w9 (nth ss i).val.ownBlock) (hown : OwnE intE B 3 w9 S.val l) (hloc : ∀ k, S.val.ownBlock = some k → (nth ss i).val.ownBlock = some k ∨ w.heap.size ≤ k) :
    OutAt B ob (w9.setCell ⟨ob, i, none⟩ S.val) n (ss.set i S) (fun j => if j = i then l else o j) := by
  have hss : i < ss.length := by rw [h.len]; exact hi
  have hob : some ob ≠ (nth ss i).val.ownBlock := fun e => own_ne_box (h.row i hi) h.box ob e.symm rfl
  have hb9 : BoxAt w9 ob 34 (ss.map Slc.val) := h.box.ofBlock ((hg.block ob (Nat.lt_of_lt_of_le h.lt h1.size) hob).trans (h1.block ob h.lt))
  have hst : ∀ k, k ≠ ob → (w9.setCell ⟨ob, i, none⟩ S.val).heap[k]? = w9.heap[k]? := fun k hk => Go.Deep.blk_setCell_other _ _ _ _ hk
  have hrow : ∀ j, j < n → j ≠ i → OwnE intE B 3 w9 (nth ss j).val (o j) := fun j hj hne => (h.row j hj).ofBlock fun k hk => by
    have hlt := ((h.row j hj).lt k hk).2
    exact (hg.block k (Nat.lt_of_lt_of_le hlt h1.size) (fun e => h.ne j i hj hi hne k hk e.symm)).trans (h1.block k hlt)
  refine ⟨by simp [h.len], by have := hb9.set i S.val; rw [← List.map_set] at this; exact this, fun j hj => ?_, fun p q hp hq hpq k hk hk2 => ?_⟩
  · rw [nth_setV _ _ _ _ hss]
    by_cases e : i = j
    · subst e
      rw [if_pos rfl, if_pos rfl]
      exact hown.ofBlock fun k hk => hst k (own_ne_box hown hb9 k hk)
    · rw [if_neg e, if_neg (fun e2 => e e2.symm)]
      have := hrow j hj (fun e2 => e e2.symm)
      exact this.ofBlock fun k hk => hst k (own_ne_box this hb9 k hk)
  · rw [nth_setV _ _ _ _ hss] at hk hk2
    by_cases e1 : i = p
    · by_cases e2 : i = q
      · omega
      · rw [if_pos e1] at hk
        rw [if_neg e2] at hk2
        rcases hloc k hk with h3 | h3
        · exact h.ne i q hi hq e2 k h3 hk2
        · have := ((h.row q hq).lt k hk2).2; omega
    · rw [if_neg e1] at hk
      by_cases e2 : i = q
      · rw [if_pos e2] at hk2
        rcases hloc k hk2 with h3 | h3
        · exact h.ne p i hp hi (fun e => e1 e.symm) k hk h3
        · have := ((h.row p hp).lt k hk).2; omega
      · rw [if_neg e2] at hk2
        exact h.ne p q hp hq hpq k hk hk2

/-- append of one number, with the place of the new row. -/
theorem step_append_at {P : Program} {w : World} {ops : Array Oper} {o : Oper} {a : Act} {K : Act → World → Prop} {Q : Exit → Act → World → Prop} {F : Prop} (hgd : o.guard = none) (s x : Operand) (t : TypeId)
    (ho : o.op = .call { callee := .builtin .append, args := #[s, x], argTypes := #[t, t] })
    (base lo : Nat) (e : TypeId) (ht : P.underlying t = some (.slice e)) (hinfo : (P.info? e).map (fun i => (i.zero, i.size, i.bytes)) = some (some (.int .i64 0), 1, 8))
    (l : List Int) (y : Int) (v : Value) (hv : a.eval s = v) (hown : OwnE intE base e w v l) (hsrc : SlE intE lo w (a.eval x) [y]) (hm : l.length + 1 ≤ 1000000) (hbase : base ≤ w.heap.size)
    (hK : ∀ g cap w', OwnE intE base e w' (.slice (some ⟨g, 0, none⟩) (l.length + 1) cap) (l ++ [y]) → w.grownBy w' v.ownBlock → (v.ownBlock = some g ∨ g = w.heap.size) → g < w'.heap.size → K (a.put o.dst (.slice (some ⟨g, 0, none⟩) (l.length + 1) cap)) w') :
    if Region.wanted o (yielded ops a.tmps) = true then Oper.wp P o a w K Q else F := by
  obtain ⟨i, hi, hp⟩ := Option.map_eq_some_iff.1 hinfo
  simp only [Prod.mk.injEq] at hp
  obtain ⟨hz, hsz, hby⟩ := hp
  obtain ⟨ax, cx, bx, ox, hx, hnil, hpx, hcx, _⟩ := hsrc
  obtain ⟨rfl, _⟩ := hpx (by simp)
  have hc0 := hcx 0 0 (by simp) (by decide)
  have hc1 : w.cell? ⟨bx, ox, none⟩ = some (.int .i64 y) := by
    rw [show ox + 0 * intE.sz + 0 = ox by simp] at hc0
    exact hc0
  refine step_append_lies w hgd s x t ho base e i _ 1 8 ht hi hz hsz hby rfl (by decide) v l.length (l.flatMap intE.enc) hv (by
    have := hown
    unfold OwnE at this
    exact this) ⟨bx, ox, none⟩ 1 cx [.int .i64 y] hx rfl (fun j u hu => ?_) (by simp [Value.oneCell']) (by decide) (by simp only [maxLen]; omega) (by omega) hbase w.heap.size rfl ?_
  · have hj : j = 0 := by
      have := (List.getElem?_eq_some_iff.1 hu).1
      simp at this
      exact this
    subst hj
    simp at hu
    subst hu
    rw [Addr.add_lit]
    exact hc1
  · intro g cap w' h1 h2 h3 h4
    refine hK g cap w' ?_ h2 h3 h4
    unfold OwnE
    rw [List.flatMap_append, List.length_append]
    exact h1

end Go.Proofs.Ytnbffkcnhphdnaa
