/-
  Parts of the proof.
-/
import Derived.Deep.RegionLaw
import Derived.Test.YtealeofgfgbheaaZSpec09
namespace Go.Proofs.Ytealeofgfgbheaa
set_option linter.unusedVariables false
set_option linter.unusedSimpArgs false
open Go.RowKit

section
variable {α : Type} [Inhabited α] (E : Enc α) {P : Program}

/-- append of a slice that reads as r onto a row of the call's own. -/
theorem run_append_E (w : World) (base lo : Nat) (t ty e : TypeId) (z : Value) (bytes : Nat) (ht : P.underlying t = some (.slice e)) (hinfo : (P.info? e).map (fun i => (i.zero, i.size, i.bytes)) = some (some z, E.sz, bytes)) (hz : z.cells.size = E.sz)
    (v : Value) (l : List α) (hown : OwnE E base e w v l) (vx : Value) (r : List α) (hsrc : SlE E lo w vx r) (hb : (l.length + r.length) * bytes ≤ 140737488355328) (hm : l.length + r.length ≤ maxLen) (hbase : base ≤ w.heap.size) :
    ∃ v' w', (Builtin.append_ #[t, t] ty #[v, vx]).run P w = .ok v' w' ∧ OwnE E base e w' v' (l ++ r) ∧ w.grownBy w' v.ownBlock ∧ ∀ k, v'.ownBlock = some k → v.ownBlock = some k ∨ w.heap.size ≤ k := by
  obtain ⟨i, hi, hz0, hz1, hz2⟩ := info_parts hinfo
  obtain ⟨ao, c, rfl, hnone, hc⟩ := hsrc.cells
  cases ao with
  | none =>
    obtain ⟨h0, rfl⟩ := hnone rfl
    have hr : r = [] := List.eq_nil_of_length_eq_zero h0
    subst hr
    exact ⟨v, w, run_append_owned_none (P := P) w base t ty e i E.sz ht hi v l.length _ hown, by simpa using hown, World.grownBy.refl _ _, fun k hk => .inl hk⟩
  | some ad =>
    obtain ⟨v', w', h1, h2, h3, h4⟩ := run_append_own (P := P) w base t ty e i z E.sz bytes ht hi hz0 hz1 hz2 hz E.pos v l.length _ hown ad r.length c (r.flatMap E.enc) (flatMap_length E r) (hc ad rfl)
      (fun u hu => by obtain ⟨x, _, hx⟩ := List.mem_flatMap.1 hu; exact E.one x u hx) hm hb hbase
    refine ⟨v', w', h1, by unfold OwnE; simpa using h2, h3, fun k hk => ?_⟩
    have hcells := hc ad rfl
    have h63 : ((l.length + r.length : Nat) : Int) ≤ 9223372036854775807 := by simp only [maxLen] at hm; omega
    subst hz2
    rcases hown.2 with ⟨rfl, hn0⟩ | ⟨g, cap, cur, rfl, hbg, hg, hnc, hcm, hcs, htake⟩
    · rcases Nat.eq_zero_or_pos r.length with hr | hr
      · rw [h4.2 ⟨rfl, hr⟩] at hk; cases hk
      · have hrun := run_append_nil (P := P) w t ty e i z ht hi hz0 ad r.length c (r.flatMap E.enc) (by rw [hz1]; exact flatMap_length E r) hcells hr (by omega) (by rw [hn0, Nat.zero_add] at hb; omega)
        rw [h1] at hrun
        injection hrun with e1 e2
        rw [e1] at hk
        simp only [Value.ownBlock, Option.some.injEq] at hk
        exact .inr (by omega)
    · by_cases hroom : l.length + r.length ≤ cap
      · obtain ⟨w2, hrun, _, _⟩ := run_append_fits (P := P) w base t ty e i E.sz ht hi hz1 g l.length cap _ hown ad r.length c (r.flatMap E.enc) (flatMap_length E r) hcells (fun u hu => by obtain ⟨x, _, hx⟩ := List.mem_flatMap.1 hu; exact E.one x u hx) hroom
        rw [h1] at hrun
        injection hrun with e1 e2
        rw [e1] at hk
        exact .inl hk
      · have hrun := run_append_grow (P := P) w t ty e i z ht hi hz0 ⟨g, 0, none⟩ l.length cap (l.flatMap E.enc) (by rw [hz1]; exact hown.1) (World.ownsRow.cells hown (g := g) rfl) ad r.length c (r.flatMap E.enc) (by rw [hz1]; exact flatMap_length E r) hcells (by omega) (by omega) (growslice_fits (by omega) hb)
        rw [h1] at hrun
        injection hrun with e1 e2
        rw [e1] at hk
        simp only [Value.ownBlock, Option.some.injEq] at hk
        exact .inr (by omega)

theorem wpList_append_E {w : World} {ops : Array Oper} {rest : List Oper} {o : Oper} {a : Act} {Q : Exit → Act → World → Prop} (hgd : o.guard = none) (s x : Operand) (t : TypeId)
    (ho : o.op = .call { callee := .builtin .append, args := #[s, x], argTypes := #[t, t] })
    (base lo : Nat) (e : TypeId) (z : Value) (bytes : Nat) (ht : P.underlying t = some (.slice e)) (hinfo : (P.info? e).map (fun i => (i.zero, i.size, i.bytes)) = some (some z, E.sz, bytes)) (hz : z.cells.size = E.sz)
    (l r : List α) (hown : OwnE E base e w (a.eval s) l) (hsrc : SlE E lo w (a.eval x) r) (hb : (l.length + r.length) * bytes ≤ 140737488355328) (hm : l.length + r.length ≤ maxLen) (hbase : base ≤ w.heap.size)
    (hK : ∀ v' w', OwnE E base e w' v' (l ++ r) → w.grownBy w' (a.eval s).ownBlock → wpList P ops Q rest (a.put o.dst v') w') : wpList P ops Q (o :: rest) a w := by
  refine wpList_plain hgd fun K hK' => ?_
  obtain ⟨v', w', h1, h2, h3, _⟩ := run_append_E (P := P) E w base lo t o.type e z bytes ht hinfo hz _ l hown _ r hsrc hb hm hbase
  unfold Oper.wp
  simp [execOp, ho, resolve, invoke, builtin, h1, Result.andThen]
  exact hK' _ _ (hK v' w' h2 h3)

/-- The same as one step of a region that draws its order. -/
theorem step_append_E {w : World} {ops : Array Oper} {o : Oper} {a : Act} {K : Act → World → Prop} {Q : Exit → Act → World → Prop} {F : Prop} (hgd : o.guard = none) (s x : Operand) (t : TypeId)
    (ho : o.op = .call { callee := .builtin .append, args := #[s, x], argTypes := #[t, t] })
    (base lo : Nat) (e : TypeId) (z : Value) (bytes : Nat) (ht : P.underlying t = some (.slice e)) (hinfo : (P.info? e).map (fun i => (i.zero, i.size, i.bytes)) = some (some z, E.sz, bytes)) (hz : z.cells.size = E.sz)
    (l r : List α) (hown : OwnE E base e w (a.eval s) l) (hsrc : SlE E lo w (a.eval x) r) (hb : (l.length + r.length) * bytes ≤ 140737488355328) (hm : l.length + r.length ≤ maxLen) (hbase : base ≤ w.heap.size)
    (hK : ∀ v' w', OwnE E base e w' v' (l ++ r) → w.grownBy w' (a.eval s).ownBlock → K (a.put o.dst v') w') :
    if Region.wanted o (yielded ops a.tmps) = true then Oper.wp P o a w K Q else F := by
  have hw : Region.wanted o (yielded ops a.tmps) = true := by simp [Region.wanted, hgd]
  rw [if_pos hw]
  obtain ⟨v', w', h1, h2, h3, _⟩ := run_append_E (P := P) E w base lo t o.type e z bytes ht hinfo hz _ l hown _ r hsrc hb hm hbase
  unfold Oper.wp
  simp [execOp, ho, resolve, invoke, builtin, h1, Result.andThen]
  exact hK v' w' h2 h3
end

theorem OwnE.kept {α : Type} {E : Enc α} {base : Nat} {e : TypeId} {w w' : World} {row : Option Nat} {v : Value} {l : List α} (h : OwnE E base e w v l) (hg : w.grownBy w' row) (hne : v.ownBlock = none ∨ v.ownBlock ≠ row) : OwnE E base e w' v l := World.ownsRow.kept h hg hne
theorem OwnE.alloc {α : Type} {E : Enc α} {base : Nat} {e : TypeId} {w : World} {v : Value} {l : List α} (h : OwnE E base e w v l) (o : Obj) : OwnE E base e (w.alloc o) v l := World.ownsRow.alloc h o
theorem OwnE.lt {α : Type} {E : Enc α} {base : Nat} {e : TypeId} {w : World} {v : Value} {l : List α} (h : OwnE E base e w v l) : ∀ k, v.ownBlock = some k → base ≤ k ∧ k < w.heap.size := World.ownsRow.lt h
theorem Below.grownE {α : Type} {E : Enc α} {base B : Nat} {e : TypeId} {w0 w w' : World} {v : Value} {l : List α} (h : Below B w0 w) (ho : OwnE E base e w v l) (hg : w.grownBy w' v.ownBlock) (hB : B ≤ w.heap.size) (hb : B ≤ base) : Below B w0 w' :=
  h.grown hg hB fun k hk => Nat.le_trans hb (ho.lt k hk).1

theorem OwnE.mono {α : Type} {E : Enc α} {base base' : Nat} {e : TypeId} {w : World} {v : Value} {l : List α} (h : OwnE E base e w v l) (hb : base' ≤ base) : OwnE E base' e w v l := by
  refine ⟨h.1, ?_⟩
  rcases h.2 with h0 | ⟨g, cap, cur, hv, hg, r⟩
  · exact .inl h0
  · exact .inr ⟨g, cap, cur, hv, Nat.le_trans hb hg, r⟩
theorem OwnE.drew {α : Type} {E : Enc α} {base : Nat} {e : TypeId} {w : World} {v : Value} {l : List α} (h : OwnE E base e w v l) : OwnE E base e w.drew v l := h
/-- A slice literal: n elements in the new block g. -/
theorem OwnE.lit {α : Type} (E : Enc α) (w : World) (base : Nat) (e : TypeId) (l : List α) (cs : Array Value) (g n : Nat) (hg : w.heap.size = g) (hb : base ≤ g) (hn : n = l.length) (hc : cs.toList = l.flatMap E.enc) (hs : l.length ≤ 1000) : OwnE E base e (w.alloc (.cells cs e)) (.slice (some ⟨g, 0, none⟩) n n) l := by
  subst hg hn
  have hsz : cs.size = l.length * E.sz := by rw [← flatMap_length E l, ← hc]; simp
  have := World.ownsRow_lit (base := base) (e := e) (size := E.sz) w cs l.length hb (by simp only [maxLen]; omega) hsz
  rw [hc] at this
  exact this

/-- A slice cut at its end. -/
theorem SlE.take {α : Type} [Inhabited α] {E : Enc α} {lo : Nat} {w : World} {a : Option Addr} {n c : Nat} {l : List α} (h : SlE E lo w (.slice a n c) l) (k : Nat) (hk : k ≤ l.length) : SlE E lo w (.slice a k c) (l.take k) := by
  obtain ⟨a', c', b, o, he, hnil, hp, hc, h1, h2, h3⟩ := h
  obtain ⟨rfl, rfl, rfl⟩ := Value.slice.inj he
  have hl : (l.take k).length = k := by simp; omega
  unfold SlE
  rw [hl]
  refine ⟨_, _, b, o, rfl, hnil, fun h0 => hp (by omega), fun i j hi hj => ?_, by omega, h2, by omega⟩
  have := hc i j (by omega) hj
  dsimp only at this ⊢
  rw [this, nth_take _ _ _ hi]
/-- A slice cut at its head; ao: its address, whatever its spelling. -/
theorem SlE.drop {α : Type} [Inhabited α] {E : Enc α} {lo : Nat} {w : World} {a ao : Option Addr} {n c c' m : Nat} {l : List α} (h : SlE E lo w (.slice a n c) l) (k : Nat) (hk : k ≤ l.length) (hm : m = l.length - k) (hc' : c' = c - k) (hao : ao = if c = k then a else a.map (·.add (k * E.sz))) : SlE E lo w (.slice ao m c') (l.drop k) := by
  obtain ⟨a', c2, b, o, he, hnil, hp, hc, h1, h2, h3⟩ := h
  obtain ⟨rfl, rfl, rfl⟩ := Value.slice.inj he
  subst hc' hm
  have hl : (l.drop k).length = l.length - k := by simp
  unfold SlE
  rw [← hl]
  refine ⟨_, _, b, o + k * E.sz, rfl, fun h0 => ?_, fun h0 => ?_, fun i j hi hj => ?_, by rw [hl]; omega, by omega, by rw [hl]; omega⟩
  · subst hao
    split at h0
    · have := hnil h0; omega
    · have := hnil (by simpa using h0); omega
  · subst hao
    have hne : ¬ c = k := by omega
    rw [if_neg hne, (hp (by omega)).1]
    exact ⟨by simp [Addr.add_lit], (hp (by omega)).2⟩
  · have := hc (k + i) j (by omega) hj
    dsimp only at this ⊢
    rw [nth_drop, ← this]
    congr 2
    rw [Nat.add_mul]; omega

end Go.Proofs.Ytealeofgfgbheaa
