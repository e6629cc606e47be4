/-
  A queue: a slice of the call's own that loses elements in front and gains them behind.
-/
import Derived.Laws.CopyRow
import Derived.Test.YtnbffkcnhphdnaaZAppend
namespace Go.Proofs.Ytnbffkcnhphdnaa
set_option linter.unusedVariables false
set_option linter.unusedSimpArgs false
open Go.RowKit

def QAt (base : Nat) (e : TypeId) (w : World) (v : Value) (l : List Int) : Prop :=
  (v = .slice none 0 0 ∧ l = []) ∨ ∃ g off cap cur, v = .slice (some ⟨g, off, none⟩) l.length cap ∧ base ≤ g ∧ w.heap[g]? = some (.cells cur e (0, 0)) ∧ l.length ≤ cap ∧ cap ≤ maxLen ∧ off + cap ≤ cur.size ∧ ∀ i, i < l.length → cur[off + i]? = some (.int .i64 (nth l i))
theorem QAt.nil (base : Nat) (e : TypeId) (w : World) : QAt base e w (.slice none 0 0) [] := .inl ⟨rfl, rfl⟩
theorem QAt.keep {base : Nat} {e : TypeId} {w w' : World} {v : Value} {l : List Int} (h : QAt base e w v l) (hk : ∀ k, v.ownBlock = some k → w'.heap[k]? = w.heap[k]?) : QAt base e w' v l := by
  rcases h with h | ⟨g, off, cap, cur, rfl, h1, h2, h3⟩
  · exact .inl h
  · exact .inr ⟨g, off, cap, cur, rfl, h1, (hk g rfl).trans h2, h3⟩
theorem QAt.lt {base : Nat} {e : TypeId} {w : World} {v : Value} {l : List Int} (h : QAt base e w v l) (k : Nat) (hk : v.ownBlock = some k) : base ≤ k ∧ k < w.heap.size ∧ ∃ cur, w.heap[k]? = some (.cells cur e (0, 0)) := by
  rcases h with ⟨rfl, _⟩ | ⟨g, off, cap, cur, rfl, h1, h2, h3⟩
  · cases hk
  · have : g = k := by simpa [Value.ownBlock] using hk
    subst this
    exact ⟨h1, (Array.getElem?_eq_some_iff.1 h2).1, cur, h2⟩
theorem QAt.below {base : Nat} {e : TypeId} {w w' : World} {v : Value} {l : List Int} (h : QAt base e w v l) (hb : Below w.heap.size w w') : QAt base e w' v l := h.keep fun k hk => hb.block k (h.lt k hk).2.1
theorem QAt.shape {base : Nat} {e : TypeId} {w : World} {v : Value} {l : List Int} (h : QAt base e w v l) : ∃ a c, v = .slice a l.length c := by
  rcases h with ⟨rfl, rfl⟩ | ⟨g, off, cap, cur, rfl, h3⟩
  · exact ⟨none, 0, rfl⟩
  · exact ⟨_, _, rfl⟩
/-- The first element, and the rest. -/
theorem QAt.open {base : Nat} {e : TypeId} {w : World} {v : Value} {x : Int} {l : List Int} (h : QAt base e w v (x :: l)) : ∃ g off cap, v = .slice (some ⟨g, off, none⟩) (l.length + 1) cap ∧ base ≤ g ∧ g < w.heap.size ∧ l.length + 1 ≤ cap ∧ cap ≤ maxLen ∧ w.cell? ⟨g, off, none⟩ = some (.int .i64 x) ∧
    (cap = 1 → QAt base e w (.slice (some ⟨g, off, none⟩) l.length 0) l) ∧ (1 < cap → QAt base e w (.slice (some ⟨g, off + 1, none⟩) l.length (cap - 1)) l) := by
  rcases h with ⟨_, h⟩ | ⟨g, off, cap, cur, rfl, h1, h2, h3, h4, h5, h6⟩
  · cases h
  · refine ⟨g, off, cap, rfl, h1, (Array.getElem?_eq_some_iff.1 h2).1, h3, h4, ?_, fun hc => ?_, fun hc => ?_⟩
    · have := h6 0 (by simp)
      simp only [Nat.add_zero] at this
      simp [World.cell?, h2, this]
      rfl
    · subst hc
      have hl : l = [] := List.eq_nil_of_length_eq_zero (by simp at h3; exact List.length_eq_zero_iff.2 h3)
      subst hl
      exact .inr ⟨g, off, 0, cur, rfl, h1, h2, by simp, by simp [maxLen], by omega, fun i hi => by simp at hi⟩
    · refine .inr ⟨g, off + 1, cap - 1, cur, rfl, h1, h2, by simp at h3; omega, by omega, by omega, fun i hi => ?_⟩
      have := h6 (i + 1) (by simpa using hi)
      rw [show off + 1 + i = off + (i + 1) by omega, this]
      rfl

theorem run_append_q {P : Program} (w : World) (base : Nat) (t ty e : TypeId) (i : TypeInfo) (z : Value) (ht : P.underlying t = some (.slice e)) (hi : P.info? e = some i) (hz : i.zero = some z) (hsize : i.size = 1) (hby : i.bytes = 8) (hzs : z.cells.size = 1)
    (v : Value) (l : List Int) (h : QAt base e w v l) (x : Int) (a : Addr) (c : Nat) (hx : ∀ j u, [Value.int .i64 x][j]? = some u → w.cell? (a.add j) = some u) (hm : l.length + 1 ≤ 1000000000) (hbase : base ≤ w.heap.size) :
    ∃ v' w', (Builtin.append_ #[t, t] ty #[v, .slice (some a) 1 c]).run P w = .ok v' w' ∧ QAt base e w' v' (l ++ [x]) ∧ w.grownBy w' v.ownBlock ∧ ∀ k, v'.ownBlock = some k → v.ownBlock = some k ∨ k = w.heap.size := by
  have hone : ∀ u ∈ [Value.int .i64 x], u.oneCell' = true := by simp [Value.oneCell']
  have new : ∀ (old : Nat), old < l.length + 1 → ∀ (olds : List Value), olds = l.map (Value.int .i64) → ∀ (row : Option Nat),
      QAt base e (w.drew.alloc (.cells (olds.toArray ++ [Value.int .i64 x].toArray ++ Builtin.zeroCells z.cells (grownCap w (l.length + 1) old e - (l.length + 1))) e)) (.slice (some ⟨w.heap.size, 0, none⟩) (l.length + 1) (grownCap w (l.length + 1) old e)) (l ++ [x]) ∧
      w.grownBy (w.drew.alloc (.cells (olds.toArray ++ [Value.int .i64 x].toArray ++ Builtin.zeroCells z.cells (grownCap w (l.length + 1) old e - (l.length + 1))) e)) row := by
    intro old ho olds hol row
    subst hol
    have hge := grownCap_ge w (l.length + 1) old e
    have hcm : grownCap w (l.length + 1) old e ≤ maxLen := grownCap_le_maxLen w (l.length + 1) old e (by simp only [maxLen]; omega)
    refine ⟨.inr ⟨w.heap.size, 0, _, _, by simp, hbase, heap_alloc_new w.drew _, by simpa using hge, hcm, ?_, fun j hj => ?_⟩, ⟨rfl, rfl, rfl, by simp, fun k hk _ => heap_alloc_old w.drew _ hk⟩⟩
    · simp [Builtin.zeroCells, hzs]
      omega
    · rw [Nat.zero_add]
      have hj' : j < l.length + 1 := by simpa using hj
      rw [← Array.getElem?_toList]
      simp only [Array.toList_append, List.append_assoc]
      rw [← List.append_assoc, List.getElem?_append_left (by simp; omega)]
      have e1 : l.map (Value.int .i64) ++ [Value.int .i64 x] = (l ++ [x]).map (Value.int .i64) := by simp
      rw [e1, List.getElem?_map, List.getElem?_eq_getElem hj, nth_eq _ _ hj]
      rfl
  rcases h with ⟨rfl, rfl⟩ | ⟨g, off, cap, cur, rfl, h1, h2, h3, h4, h5, h6⟩
  · have hr := run_append_nil (P := P) w t ty e i z ht hi hz a 1 c [Value.int .i64 x] (by simp [hsize]) hx (by omega) (by omega) (by rw [hby]; omega)
    have hn := new 0 (by simp) [] rfl (Value.ownBlock (.slice none 0 0))
    simp only [List.length_nil, Nat.zero_add, List.nil_append] at hn ⊢
    refine ⟨_, _, hr, ?_, ?_, fun k hk => .inr ?_⟩
    · simpa using hn.1
    · simpa using hn.2
    · simpa [Value.ownBlock] using hk.symm
  · have hlist : ∀ j u, (l.map (Value.int .i64))[j]? = some u → w.cell? ((⟨g, off, none⟩ : Addr).add j) = some u := by
      intro j u hu
      rw [List.getElem?_map] at hu
      obtain ⟨y, hy, rfl⟩ := Option.map_eq_some_iff.1 hu
      obtain ⟨hj, rfl⟩ := List.getElem?_eq_some_iff.1 hy
      have := h6 j hj
      rw [nth_eq _ _ hj] at this
      rw [Addr.add_lit]
      simp [World.cell?, h2, this]
    by_cases hroom : l.length + 1 ≤ cap
    · have hf := run_firstCells_some (P := P) w i.size 1 a 1 c [Value.int .i64 x] (by simp [hsize]) hx
      have hst := run_storeCells_at P g (off + l.length) e [Value.int .i64 x] 0 cur w h2 (by simp; omega) hone
      simp only [Nat.add_zero] at hst
      refine ⟨.slice (some ⟨g, off, none⟩) (l.length + 1) cap, w.setRow g (cur.toList.take (off + l.length) ++ [Value.int .i64 x] ++ cur.toList.drop (off + l.length + [Value.int .i64 x].length)).toArray, ?_, .inr ⟨g, off, cap, _, by simp, h1, setRow_heap w g cur _ e _ h2, by simpa using hroom, h4, ?_, fun j hj => ?_⟩, ⟨rfl, rfl, rfl, by simp, fun k _ hk => setRow_other w g k _ (fun e => hk (by simp [Value.ownBlock, e]))⟩, fun k hk => .inl hk⟩
      · rw [hsize] at hf
        simp [Builtin.append_, run_underlying ht, sizeOf, typeInfo, hi, Builtin.lenOf, hroom, hsize, hf, Addr.add_lit, hst]
      · simp; omega
      · have hj' : j < l.length + 1 := by simpa using hj
        have hoc : off + l.length < cur.size := by omega
        simp only [List.getElem?_toArray]
        by_cases e : j < l.length
        · rw [List.append_assoc, List.getElem?_append_left (by simp; omega), List.getElem?_take, if_pos (by omega), Array.getElem?_toList, h6 j e, nth_append_left _ _ _ e]
        · have ej : j = l.length := by omega
          subst ej
          rw [List.append_assoc, List.getElem?_append_right (by simp; omega)]
          have e0 : off + l.length - (List.take (off + l.length) cur.toList).length = 0 := by simp; omega
          rw [e0, nth_eq _ _ (by simp)]
          simp
    · have hr := run_append_grow (P := P) w t ty e i z ht hi hz ⟨g, off, none⟩ l.length cap (l.map (Value.int .i64)) (by simp [hsize]) hlist a 1 c [Value.int .i64 x] (by simp [hsize]) hx (by omega) (by omega) (growslice_fits (by omega) (by rw [hby]; omega))
      have hn := new cap (by omega) _ rfl (Value.ownBlock (.slice (some ⟨g, off, none⟩) l.length cap))
      exact ⟨_, _, hr, hn.1, hn.2, fun k hk => .inr (by simpa [Value.ownBlock] using hk.symm)⟩

theorem wpList_append_q {P : Program} {w : World} {ops : Array Oper} {rest : List Oper} {o : Oper} {a : Act} {Q : Exit → Act → World → Prop} (hgd : o.guard = none) (s x : Operand) (t : TypeId)
    (ho : o.op = .call { callee := .builtin .append, args := #[s, x], argTypes := #[t, t] })
    (base : Nat) (e : TypeId) (ht : P.underlying t = some (.slice e)) (hinfo : (P.info? e).map (fun i => (i.zero, i.size, i.bytes)) = some (some (.int .i64 0), 1, 8))
    (l : List Int) (hown : QAt base e w (a.eval s) l) (y : Int) (ad : Addr) (c : Nat) (hx : a.eval x = .slice (some ad) 1 c) (hnews : ∀ j u, [Value.int .i64 y][j]? = some u → w.cell? (ad.add j) = some u) (hm : l.length + 1 ≤ 1000000000) (hbase : base ≤ w.heap.size)
    (hK : ∀ v' w', QAt base e w' v' (l ++ [y]) → w.grownBy w' (a.eval s).ownBlock → (∀ k, v'.ownBlock = some k → (a.eval s).ownBlock = some k ∨ k = w.heap.size) → wpList P ops Q rest (a.put o.dst v') w') : wpList P ops Q (o :: rest) a w := by
  obtain ⟨i, hi, hp⟩ := Option.map_eq_some_iff.1 hinfo
  simp only [Prod.mk.injEq] at hp
  obtain ⟨hz, hsz, hby⟩ := hp
  refine wpList_plain hgd fun _ hK' => ?_
  obtain ⟨v', w', hr, h2, h3, h4⟩ := run_append_q (P := P) w base t o.type e i _ ht hi hz hsz hby rfl (a.eval s) l hown y ad c hnews hm hbase
  unfold Oper.wp execOp
  simp only [ho, resolve, invoke, builtin, Sem.run_bind, Sem.run_pure, Result.andThen_ok, List.map_toArray, List.map_cons, List.map_nil, hx, hr]
  exact hK' _ _ (hK v' w' h2 h3 h4)

end Go.Proofs.Ytnbffkcnhphdnaa
