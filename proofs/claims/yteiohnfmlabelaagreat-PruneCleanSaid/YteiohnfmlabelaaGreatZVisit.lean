/-
  Parts of the proof.
-/
import Derived.Test.YteiohnfmlabelaaGreatZRNext
import Derived.Test.YteiohnfmlabelaaGreatZPath
namespace Go.Proofs.YteiohnfmlabelaaGreat
set_option linter.unusedVariables false
set_option linter.unusedSimpArgs false
open Go.RowKit

theorem infoIE : (Tryz.prog.info? 3).map (fun i => (i.zero, i.size, i.bytes)) = some (some (.int .i64 0), intE.sz, 8) := by kernel_rfl

/-- append of one element, with what may have changed. -/
theorem wpList_append_row {α : Type} [Inhabited α] (E : Enc α) {P : Program} {w : World} {ops : Array Oper} {rest : List Oper} {o : Oper} {a : Act} {Q : Exit → Act → World → Prop} (hgd : o.guard = none) (s x : Operand) (t : TypeId)
    (ho : o.op = .call { callee := .builtin .append, args := #[s, x], argTypes := #[t, t] })
    (base lo : Nat) (e : TypeId) (z : Value) (bytes : Nat) (ht : P.underlying t = some (.slice e)) (hinfo : (P.info? e).map (fun i => (i.zero, i.size, i.bytes)) = some (some z, E.sz, bytes)) (hz : z.cells.size = E.sz)
    (l : List α) (y : α) (hown : OwnE E base e w (a.eval s) l) (hsrc : SlE E lo w (a.eval x) [y]) (hb : (l.length + 1) * bytes ≤ 140737488355328) (hm : l.length + 1 ≤ maxLen) (hbase : base ≤ w.heap.size)
    (hK : ∀ g cap w', OwnE E base e w' (.slice (some ⟨g, 0, none⟩) (l.length + 1) cap) (l ++ [y]) → base ≤ g → g < w'.heap.size → Below base w w' → w.grownBy w' (a.eval s).ownBlock → ((a.eval s).ownBlock = some g ∨ w.heap.size ≤ g) → wpList P ops Q rest (a.put o.dst (.slice (some ⟨g, 0, none⟩) (l.length + 1) cap)) w') : wpList P ops Q (o :: rest) a w := by
  refine wpList_plain hgd fun K hK' => ?_
  obtain ⟨v', w', h1, h2, h3, h4⟩ := run_append_E (P := P) E w base lo t o.type e z bytes ht hinfo hz _ l hown _ [y] hsrc (by simpa using hb) (by simpa using hm) hbase
  obtain ⟨g, cap, rfl, hg, hl⟩ := h2.open (by simp)
  rw [List.length_append, List.length_singleton] at h1 h2
  unfold Oper.wp
  simp [execOp, ho, resolve, invoke, builtin, h1, Result.andThen]
  exact hK' _ _ (hK g cap w' h2 hg hl (Below.grownE (Below.refl _ _) hown h3 hbase (Nat.le_refl _)) h3 (h4 g rfl))

/-- The memory of a visit: the marks in block bg, the stack's slice in block bk. -/
structure Vis (base bw bg bs bk : Nat) (wo : Int) (n : Nat) (w : World) (v : Value) (s : List Bool) (st : List Int) : Prop where
  hw : w.cell? ⟨bw, 0, none⟩ = some (.int .i64 wo)
  hs : w.cell? ⟨bs, 0, none⟩ = some (.slice (some ⟨bg, 0, none⟩) n n)
  hk : w.cell? ⟨bk, 0, none⟩ = some v
  fk : w.frozen? ⟨bk, 0, none⟩ = false
  row : RowB w bg s
  len : s.length = n
  own : OwnE intE base 3 w v st
  lt : bw < bg ∧ bg < bs ∧ bs < bk ∧ bk < base ∧ base ≤ w.heap.size

/-- What a call of push leaves as it was. -/
structure Pushed (bg bk : Nat) (w w' : World) (v v' : Value) : Prop where
  below : Below bg w w'
  same : ∀ q, q < w.heap.size → q ≠ bg → q ≠ bk → v.ownBlock ≠ some q → w'.heap[q]? = w.heap[q]?
  size : w.heap.size ≤ w'.heap.size
  blk : ∀ q, v'.ownBlock = some q → v.ownBlock = some q ∨ w.heap.size ≤ q

theorem Vis.cells {base bw bg bs bk : Nat} {wo : Int} {n : Nat} {w w' : World} {v v' : Value} {s s' : List Bool} {st st' : List Int} (h : Vis base bw bg bs bk wo n w v s st) (hp : Pushed bg bk w w' v v')
    (h1 : w'.cell? ⟨bk, 0, none⟩ = some v') (h2 : w'.frozen? ⟨bk, 0, none⟩ = false) (h3 : RowB w' bg s') (h4 : s'.length = n) (h5 : OwnE intE base 3 w' v' st') : Vis base bw bg bs bk wo n w' v' s' st' := by
  obtain ⟨l1, l2, l3, l4, l5⟩ := h.lt
  have hv : ∀ q, q < base → v.ownBlock ≠ some q := fun q hq e => by have := (h.own.lt q e).1; omega
  have e1 := hp.same bw (by omega) (by omega) (by omega) (hv _ (by omega))
  have e2 := hp.same bs (by omega) (by omega) (by omega) (hv _ (by omega))
  refine ⟨?_, ?_, h1, h2, h3, h4, h5, l1, l2, l3, l4, Nat.le_trans l5 hp.size⟩
  · have := h.hw; simp only [World.cell?] at this ⊢; rw [e1]; exact this
  · have := h.hs; simp only [World.cell?] at this ⊢; rw [e2]; exact this

set_option maxRecDepth 100000 in
set_option maxHeartbeats 4000000 in
theorem push_skip (base bw bg bs bk : Nat) (wo : Int) (n : Nat) (w : World) (v : Value) (s : List Bool) (st : List Int) (pc : Nat) (h : Vis base bw bg bs bk wo n w v s st) (hpc : pc < n) (hsk : (pc : Int) = wo ∨ nth s pc = true) :
    Calls Tryz.prog 77 #[.int .i64 pc, .pointer (some ⟨bw, 0, none⟩), .pointer (some ⟨bs, 0, none⟩), .pointer (some ⟨bk, 0, none⟩)] w fun e w' => e = .returned (.tuple #[]) ∧ w' = w := by
  have a1 := h.hw
  have a2 := h.hs
  have c0 := h.row.cell (i := pc) (by rw [h.len]; exact hpc)
  have hpi : (pc : Int) < n := by omega
  rcases Decidable.em ((pc : Int) = wo) with hw | hw
  · have t1 : ((pc : Int) != wo) = false := by rw [hw]; simp
    clear hw hsk h
    go_enter Tryz.func77, Tryz.ntmps77
    go_wp2_with fail
    go_end0
    exact ⟨rfl, rfl⟩
  · have t1 : ((pc : Int) != wo) = true := bne_iff_ne.2 hw
    rw [hsk.resolve_left hw] at c0
    clear hw hsk h
    go_enter Tryz.func77, Tryz.ntmps77
    go_wp2_with fail
    go_end0
    exact ⟨rfl, rfl⟩

set_option maxRecDepth 100000 in
set_option maxHeartbeats 4000000 in
theorem push_new (base bw bg bs bk : Nat) (wo : Int) (n : Nat) (w : World) (v : Value) (s : List Bool) (st : List Int) (pc : Nat) (h : Vis base bw bg bs bk wo n w v s st) (hpc : pc < n) (hw : (pc : Int) ≠ wo) (hsf : nth s pc = false) (hst : st.length ≤ 1000) :
    Calls Tryz.prog 77 #[.int .i64 pc, .pointer (some ⟨bw, 0, none⟩), .pointer (some ⟨bs, 0, none⟩), .pointer (some ⟨bk, 0, none⟩)] w fun e w' => e = .returned (.tuple #[]) ∧ ∃ v', Vis base bw bg bs bk wo n w' v' (s.set pc true) (st ++ [(pc : Int)]) ∧ Pushed bg bk w w' v v' := by
  have a1 := h.hw
  have a2 := h.hs
  have a3 := h.hk
  have z3 := h.fk
  have c0 := h.row.cell (i := pc) (by rw [h.len]; exact hpc)
  have z0 := h.row.frozen pc
  rw [hsf] at c0
  have hpi : (pc : Int) < n := by omega
  have t1 : ((pc : Int) != wo) = true := bne_iff_ne.2 hw
  obtain ⟨l1, l2, l3, l4, l5⟩ := h.lt
  have hne1 : ¬ bk = bg := by omega
  have hne2 : ¬ bg = bk := by omega
  have hne3 : ¬ bs = bg := by omega
  have hne4 : ¬ bg = bs := by omega
  have q1 : bk < w.heap.size := by omega
  have a4 : (w.setCell ⟨bg, pc, none⟩ (.bool true)).cell? ⟨bk, 0, none⟩ = some v := (World.cell?_setCell_other (w := w) (a := ⟨bg, pc, none⟩) (b := ⟨bk, 0, none⟩) (v := Value.bool true) (fun e => hne2 (congrArg Addr.block e))).trans a3
  have z4 : (w.setCell ⟨bg, pc, none⟩ (.bool true)).frozen? ⟨bk, 0, none⟩ = false := (World.frozen?_setCell (w := w) (a := ⟨bg, pc, none⟩) (b := ⟨bk, 0, none⟩) (v := Value.bool true)).trans z3
  have HV := hid h
  have hlen := h.len
  clear hw hsf h
  go_enter Tryz.func77, Tryz.ntmps77
  go_wp2_with (
    at_builtin
    refine wpList_append_row intE (o := ⟨some 27, _, _, _, _, _⟩) rfl (.tmp 24) (.tmp 26) 36 rfl base w.heap.size 3 _ 8 Tryz.underlying36 infoIE rfl st (pc : Int) ((HV.out.own.other ⟨bg, pc, none⟩ _ (fun q hq => by have := (HV.out.own.lt q hq).1; simp; omega)).alloc _) ((OwnE.lit intE (w.setCell ⟨bg, pc, none⟩ (.bool true)) w.heap.size 3 [(pc : Int)] _ w.heap.size 1 (by simp) (Nat.le_refl _) rfl rfl (by simp)).sl (Nat.le_refl _) (by simp)) (by omega) (by simp only [maxLen]; omega) (by simp; omega) ?_
    intro g2 cap2 w2 ho2 hg2 hl2 hb2 hgr hal
    have d9 : w2.cell? ⟨bk, 0, none⟩ = some v := (hb2.cell (p := ⟨bk, 0, none⟩) (by omega)).trans ((World.cell?_alloc_lt _ _ _ (by simp; omega)).trans a4)
    have z9 : w2.frozen? ⟨bk, 0, none⟩ = false := (hb2.frozen (p := ⟨bk, 0, none⟩) (by omega)).trans ((World.frozen?_alloc_old _ _ _ (by simp; omega)).trans z4)
    have r9 : bk < w2.heap.size := by have := hb2.size; simp at this; omega
    have HO2 := hid ho2
    have HB2 := hid hb2
    have HGR := hid hgr
    have HAL := hid hal
    clear ho2 hb2 hgr hal)
  go_end0
  have hlt := HV.out.own.lt
  have hp : Pushed bg bk w (w2.setCell ⟨bk, 0, none⟩ (.slice (some ⟨g2, 0, none⟩) (st.length + 1) cap2)) v (.slice (some ⟨g2, 0, none⟩) (st.length + 1) cap2) := by
    have hsz := HB2.out.size
    simp at hsz
    refine ⟨?_, fun q hq h1 h2 h3 => ?_, by simp; omega, fun q hq => ?_⟩
    · have b1 : Below bg w (w.setCell ⟨bg, pc, none⟩ (.bool true)) := (Below.refl bg w).setCell (p := ⟨bg, pc, none⟩) (Nat.le_refl _) _
      exact ((b1.alloc (by simp; omega) _).trans (HB2.out.mono (by omega))).setCell (show bg ≤ bk by omega) _
    · rw [Go.Deep.blk_setCell_other _ _ _ _ h2]
      have e := HGR.out.block q (by simp; omega) (fun e => h3 e.symm)
      rw [e, Go.Deep.blk_alloc_lt _ _ _ (by simpa using hq), Go.Deep.blk_setCell_other _ _ _ _ h1]
    · simp [Value.ownBlock] at hq
      subst hq
      rcases HAL.out with h | h
      · exact .inl h
      · simp at h; exact .inr (by omega)
  refine ⟨rfl, _, HV.out.cells hp ?_ ?_ ?_ (by rw [List.length_set]; exact hlen) ?_, hp⟩
  · simp [World.cell?_setCell_same, d9]
  · simp [z9]
  · have hr2 : RowB w2 bg (s.set pc true) := World.rowIs.of_block ((HV.out.row.set pc true).alloc _) (HB2.out.block _ (by omega))
    exact hr2.other (by simpa using hne2) _
  · exact HO2.out.other ⟨bk, 0, none⟩ _ (fun q hq => by have := (HO2.out.lt q hq).1; simp; omega)

/-- What push makes of the marks and the stack. -/
def pushN (wo : Int) (pc : Nat) (x : List Bool × List Int) : List Bool × List Int := if (pc : Int) = wo ∨ nth x.1 pc = true then x else (x.1.set pc true, x.2 ++ [(pc : Int)])

theorem push_calls (base bw bg bs bk : Nat) (wo : Int) (n : Nat) (w : World) (v : Value) (x : List Bool × List Int) (pc : Nat) (h : Vis base bw bg bs bk wo n w v x.1 x.2) (hpc : pc < n) (hst : x.2.length ≤ 1000) :
    Calls Tryz.prog 77 #[.int .i64 pc, .pointer (some ⟨bw, 0, none⟩), .pointer (some ⟨bs, 0, none⟩), .pointer (some ⟨bk, 0, none⟩)] w fun e w' => e = .returned (.tuple #[]) ∧ ∃ v', Vis base bw bg bs bk wo n w' v' (pushN wo pc x).1 (pushN wo pc x).2 ∧ Pushed bg bk w w' v v' := by
  unfold pushN
  split
  · rename_i hs
    refine (push_skip base bw bg bs bk wo n w v x.1 x.2 pc h hpc hs).mono ?_
    rintro e w' ⟨rfl, rfl⟩
    exact ⟨rfl, v, h, Below.refl _ _, fun _ _ _ _ _ => rfl, Nat.le_refl _, fun q hq => .inl hq⟩
  · rename_i hs
    exact push_new base bw bg bs bk wo n w v x.1 x.2 pc h hpc (fun e => hs (.inl e)) (by cases e : nth x.1 pc with | true => exact (hs (.inr e)).elim | false => rfl) hst

end Go.Proofs.YteiohnfmlabelaaGreat

namespace Go.Proofs.YteiohnfmlabelaaGreat
set_option linter.unusedVariables false
set_option linter.unusedSimpArgs false
open Go.RowKit

/-- How far the visit has come: marks s, stack st; mid: the instruction under way, and how many of its next ones are pushed. -/
structure VInv (c : List Ins) (wo : Int) (s : List Bool) (st : List Int) (mid : Option (Nat × Nat)) : Prop where
  len : s.length = c.length
  sound : Sound c wo s
  stk : ∀ x ∈ st, 0 ≤ x ∧ x < c.length ∧ nth s x.toNat = true
  zero : wo ≠ 0 → nth s 0 = true
  cl : ∀ j, j < c.length → nth s j = true → (j : Int) ∈ st ∨ ClosedAt c wo s j ∨ ∃ q, mid = some (j, q) ∧ ∀ i, i < q → nth (nextL c j) i ≠ wo → nth s (nth (nextL c j) i).toNat = true
  cnt : st.length + falses s ≤ c.length
  mids : ∀ p, mid = some p → p.1 < c.length ∧ nth s p.1 = true

theorem falses_replicate (n : Nat) : falses (List.replicate n false) = n := by simp [falses]

theorem VInv.start (c : List Ins) (wo : Int) (hj : Jok c) : VInv c wo (pushN wo 0 (List.replicate c.length false, [])).1 (pushN wo 0 (List.replicate c.length false, [])).2 none := by
  have hp := hj.pos
  unfold pushN
  split
  · rename_i h
    have hw : wo = 0 := by
      rcases h with h | h
      · exact h.symm
      · rw [nth_replicate _ _ _ hp] at h; cases h
    refine ⟨by simp, fun j hjl h => ?_, fun x hx => (by cases hx), fun h => (h hw).elim, fun j hjl h => ?_, by simp [falses_replicate], fun p h => (by cases h)⟩
    · rw [nth_replicate _ _ _ hjl] at h; cases h
    · rw [nth_replicate _ _ _ hjl] at h; cases h
  · rename_i h
    have hw : wo ≠ 0 := fun e => h (.inl e.symm)
    have hs : ∀ j, j < c.length → nth ((List.replicate c.length false).set 0 true) j = true → j = 0 := fun j hjl h => by
      rw [nth_set _ _ _ _ (by simpa using hjl)] at h
      split at h
      · assumption
      · rw [nth_replicate _ _ _ hjl] at h; cases h
    have h0 : nth ((List.replicate c.length false).set 0 true) 0 = true := by rw [nth_set _ _ _ _ (by simpa using hp), if_pos rfl]
    refine ⟨by simp, fun j hjl h => by rw [hs j hjl h]; exact .start hw hp, fun x hx => ?_, fun _ => h0, fun j hjl h => .inl (by rw [hs j hjl h]; simp), ?_, fun p h => (by cases h)⟩
    · simp at hx
      subst hx
      exact ⟨by omega, by omega, h0⟩
    · have := falses_set (List.replicate c.length false) 0 (by simpa using hp) (nth_replicate _ _ _ hp)
      rw [falses_replicate] at this
      simp; omega

theorem VInv.pop {c : List Ins} {wo : Int} {s : List Bool} {st : List Int} {pc : Nat} (h : VInv c wo s (st ++ [(pc : Int)]) none) : VInv c wo s st (some (pc, 0)) := by
  have hpc := h.stk pc (by simp)
  refine ⟨h.len, h.sound, fun x hx => h.stk x (by simp [hx]), h.zero, fun j hjl hs => ?_, by have := h.cnt; simp at this; omega, fun p hp => ?_⟩
  · rcases h.cl j hjl hs with h1 | h1 | ⟨q, h1, _⟩
    · rw [List.mem_append, List.mem_singleton] at h1
      rcases h1 with h1 | h1
      · exact .inl h1
      · have e : j = pc := by omega
        subst e
        exact .inr (.inr ⟨0, rfl, fun i hi => by omega⟩)
    · exact .inr (.inl h1)
    · cases h1
  · cases hp
    exact ⟨by omega, by simpa using hpc.2.2⟩

theorem VInv.step {c : List Ins} {wo : Int} {s : List Bool} {st : List Int} {pc q y : Nat} (h : VInv c wo s st (some (pc, q))) (hq : q < (nextL c pc).length) (hy : nth (nextL c pc) q = y) (hyl : y < c.length) :
    VInv c wo (pushN wo y (s, st)).1 (pushN wo y (s, st)).2 (some (pc, q + 1)) ∧ 2 * falses (pushN wo y (s, st)).1 + (pushN wo y (s, st)).2.length ≤ 2 * falses s + st.length := by
  obtain ⟨hpl, hps⟩ := h.mids _ rfl
  unfold pushN
  split
  · rename_i hc
    refine ⟨⟨h.len, h.sound, h.stk, h.zero, fun j hjl hs => ?_, h.cnt, fun p hp => by cases hp; exact ⟨hpl, hps⟩⟩, Nat.le_refl _⟩
    rcases h.cl j hjl hs with h1 | h1 | ⟨q', h1, h2⟩
    · exact .inl h1
    · exact .inr (.inl h1)
    · obtain ⟨rfl, rfl⟩ := Prod.mk.inj (Option.some.inj h1)
      refine .inr (.inr ⟨_, rfl, fun i hi hne => ?_⟩)
      rcases Nat.lt_succ_iff_lt_or_eq.1 hi with e | e
      · exact h2 i e hne
      · subst e
        rw [hy] at hne ⊢
        rw [Int.toNat_natCast]
        rcases hc with hc | hc
        · exact (hne hc).elim
        · exact hc
  · rename_i hc
    have hyw : (y : Int) ≠ wo := fun e => hc (.inl e)
    have hyf : nth s y = false := by cases e : nth s y with | true => exact (hc (.inr e)).elim | false => rfl
    have hls := h.len
    have hpath : Path c wo y := .step pc y (h.sound pc hpl hps) (by rw [← hy]; exact nth_mem _ q hq) hyw
    have hup : ∀ j, j < c.length → nth s j = true → nth (s.set y true) j = true := fun j hjl hs => by
      rw [nth_set _ _ _ _ (by omega)]; split
      · rfl
      · exact hs
    have hnew : nth (s.set y true) y = true := by rw [nth_set _ _ _ _ (by omega), if_pos rfl]
    have hbound : ∀ i j, i < c.length → j < (nextL c i).length → (nth (nextL c i) j).toNat < c.length ∨ True := fun _ _ _ _ => .inr trivial
    have hf := falses_set s y (by omega) hyf
    refine ⟨⟨by rw [List.length_set]; exact hls, sound_set c wo s h.sound hls y hpath, fun x hx => ?_, fun hw => ?_, fun j hjl hs => ?_, by have := h.cnt; simp; omega, fun p hp => by cases hp; exact ⟨hpl, hup _ hpl hps⟩⟩, by simp; omega⟩
    · simp only [List.mem_append, List.mem_singleton] at hx
      rcases hx with hx | hx
      · have := h.stk x hx
        exact ⟨this.1, this.2.1, hup _ (by omega) this.2.2⟩
      · subst hx
        exact ⟨by omega, by omega, by simpa using hnew⟩
    · have hp : 0 < c.length := by omega
      exact hup 0 hp (h.zero hw)
    · have hs' : nth (s.set y true) j = true := hs
      rw [nth_set _ _ _ _ (by omega)] at hs'
      clear hs
      have hs := hs'
      split at hs
      · rename_i e; subst e; exact .inl (by simp)
      · have hmono : ∀ k : Nat, nth s k = true → nth (s.set y true) k = true := fun k hk => by
          by_cases hkl : k < s.length
          · rw [nth_set _ _ _ _ hkl]; split
            · rfl
            · exact hk
          · have h1 : nth s k = nth (s.set y true) k := by unfold nth; rw [List.getD_eq_getElem?_getD, List.getD_eq_getElem?_getD, List.getElem?_eq_none (by omega), List.getElem?_eq_none (by rw [List.length_set]; omega)]
            rw [← h1]; exact hk
        rcases h.cl j hjl hs with h1 | h1 | ⟨q', h1, h2⟩
        · exact .inl (by simp [h1])
        · exact .inr (.inl fun _ x hx hne => hmono _ (h1 hs x hx hne))
        · obtain ⟨rfl, rfl⟩ := Prod.mk.inj (Option.some.inj h1)
          refine .inr (.inr ⟨_, rfl, fun i hi hne => ?_⟩)
          rcases Nat.lt_succ_iff_lt_or_eq.1 hi with e | e
          · exact hmono _ (h2 i e hne)
          · subst e
            rw [hy]; simpa using hnew

theorem VInv.done {c : List Ins} {wo : Int} {s : List Bool} {st : List Int} {pc q : Nat} (h : VInv c wo s st (some (pc, q))) (hq : (nextL c pc).length ≤ q) : VInv c wo s st none := by
  refine ⟨h.len, h.sound, h.stk, h.zero, fun j hjl hs => ?_, h.cnt, fun p hp => (by cases hp)⟩
  rcases h.cl j hjl hs with h1 | h1 | ⟨q', h1, h2⟩
  · exact .inl h1
  · exact .inr (.inl h1)
  · obtain ⟨rfl, rfl⟩ := Prod.mk.inj (Option.some.inj h1)
    refine .inr (.inl fun _ x hx hne => ?_)
    obtain ⟨i, hi, rfl⟩ := List.mem_iff_getElem.1 hx
    rw [← nth_eq _ _ hi] at hne ⊢
    exact h2 i (by omega) hne
theorem VInv.all {c : List Ins} {wo : Int} {s : List Bool} (h : VInv c wo s [] none) (hj : Jok c) : s = reachB c wo := by
  refine closed_all c wo s h.len h.zero h.sound (fun i hi hs => ?_) hj
  rcases h.cl i hi hs with h1 | h1 | ⟨q', h1, h2⟩
  · cases h1
  · exact h1 hs
  · cases h1

end Go.Proofs.YteiohnfmlabelaaGreat

namespace Go.Proofs.YteiohnfmlabelaaGreat
set_option linter.unusedVariables false
set_option linter.unusedSimpArgs false
open Go.RowKit

theorem cell_new (w : World) (cs : Array Value) (t : TypeId) (b k : Nat) {u : Value} (hb : b = w.heap.size) (h : cs[k]? = some u) : (w.alloc (.cells cs t)).cell? ⟨b, k, none⟩ = some u := by
  subst hb
  rw [World.cell?_alloc_new]; exact h
theorem frozen_new (w : World) (cs : Array Value) (t : TypeId) (b k : Nat) (hb : b = w.heap.size) : (w.alloc (.cells cs t)).frozen? ⟨b, k, none⟩ = false := by
  subst hb
  rw [World.frozen?_alloc_new]
/-- The length of the slice in a cell. -/
def slen (w : World) (b : Nat) : Nat := match w.cell? ⟨b, 0, none⟩ with | some (.slice _ n _) => n | _ => 0
theorem slen_eq {w : World} {b n c : Nat} {a : Option Addr} (h : w.cell? ⟨b, 0, none⟩ = some (.slice a n c)) : slen w b = n := by simp [slen, h]
theorem OwnE.le_cap {α : Type} {E : Enc α} {base : Nat} {e : TypeId} {w : World} {g m cap : Nat} {l : List α} (h : OwnE E base e w (.slice (some ⟨g, 0, none⟩) m cap) l) : m ≤ cap := by
  rcases h.2 with ⟨h', _⟩ | ⟨g', cap', cur, h', hb, hg, hnc, _⟩
  · simp at h'
  · obtain ⟨_, rfl, rfl⟩ := Value.slice.inj h'
    exact hnc
theorem OwnE.dropLast {α : Type} {E : Enc α} {base : Nat} {e : TypeId} {w : World} {g m cap : Nat} {l : List α} {x : α} (h : OwnE E base e w (.slice (some ⟨g, 0, none⟩) (m + 1) cap) (l ++ [x])) : OwnE E base e w (.slice (some ⟨g, 0, none⟩) m cap) l := by
  obtain ⟨h1, h2⟩ := h
  rcases h2 with ⟨h', _⟩ | ⟨g', cap', cur, h', hb, hg, hnc, hcm, hcs, htake⟩
  · simp at h'
  · obtain ⟨e1, e2, rfl⟩ := Value.slice.inj h'
    obtain rfl : g = g' := by simpa using e1
    have hm : m = l.length := by simp at e2; omega
    subst hm
    refine ⟨flatMap_length E l, .inr ⟨g, cap, cur, rfl, hb, hg, by simp at hnc; omega, hcm, hcs, ?_⟩⟩
    have h3 : (l ++ [x]).length * E.sz = l.length * E.sz + E.sz := by simp [Nat.add_mul]
    rw [h3] at htake
    have h4 := congrArg (List.take (l.length * E.sz)) htake
    rw [List.take_take, Nat.min_eq_left (by omega)] at h4
    rw [h4, List.flatMap_append, List.take_append_of_le_length (by rw [flatMap_length E l]; exact Nat.le_refl _), List.take_of_length_le (by rw [flatMap_length E l]; exact Nat.le_refl _)]

set_option maxRecDepth 100000 in
set_option maxHeartbeats 10000000 in
theorem visit_calls (lo : Nat) (vc : Value) (nm : ByteArray) (pa re wo : Int) (l : List Ins) (w : World) (hc : CodeAt lo w vc l) (hj : Jok l) :
    Calls Tryz.prog 65 #[.agg #[.string nm, .int .i64 pa, .int .i64 re, vc], .int .i64 wo] w fun e w' => ∃ g n, e = .returned (.slice (some ⟨g, 0, none⟩) n n) ∧ n = l.length ∧ w.heap.size ≤ g ∧ RowB w' g (reachB l wo) ∧ Below w.heap.size w w' := by
  have HC0 := hc
  obtain ⟨ca, cc, cb, co, rfl, cp, _, _, _, _, _, cbl, _, _, _, cn⟩ := hc.open
  have hpos := hj.pos
  have hle := hj.le
  have e1 := cp (by omega)
  subst e1
  have hbl' := cbl (by omega)
  clear cp cbl cn
  have hmk := run_make_row' (P := Tryz.prog) 34 4 (.bool false) 1 Tryz.underlying34 infoB rfl .i64 .i64 l.length (by omega) (by omega)
  have hlp : (0 : Int) < l.length := by omega
  go_enter Tryz.func65, Tryz.ntmps65
  go_wp2_with fail
  generalize hW1 : World.alloc (World.alloc (World.alloc _ _) _) _ = W1
  have hV : Vis (w.heap.size + 5) (w.heap.size + 1) (w.heap.size + 2) (w.heap.size + 3) (w.heap.size + 4) wo l.length W1 (.slice none 0 0) (List.replicate l.length false) [] := by
    rw [← hW1]
    refine ⟨?_, ?_, ?_, frozen_new _ _ _ _ _ (by simp), ?_, by simp, OwnE.nil _ _ _ _, by simp⟩
    · rw [World.cell?_alloc_lt _ _ _ (by simp <;> omega), World.cell?_alloc_lt _ _ _ (by simp <;> omega), World.cell?_alloc_lt _ _ _ (by simp <;> omega)]
      exact cell_new _ _ _ _ _ (by simp) rfl
    · rw [World.cell?_alloc_lt _ _ _ (by simp <;> omega)]
      exact cell_new _ _ _ _ _ (by simp) rfl
    · exact cell_new _ _ _ _ _ (by simp) rfl
    have h := RowB.made ((w.alloc (.cells #[.string nm, .int .i64 pa, .int .i64 re, .slice (some ⟨cb, co, none⟩) l.length cc] 33)).alloc (.cells #[.int .i64 wo] 3)) l.length
    have h2 := (h.alloc (.cells #[.slice (some ⟨w.heap.size + 1 + 1, 0, none⟩) l.length l.length] 34)).alloc (.cells #[.slice none 0 0] 36)
    simpa using h2
  have hB : Below w.heap.size w W1 := by
    rw [← hW1]
    exact (((((Below.refl _ _).alloc (Nat.le_refl _) _).alloc (by simp) _).alloc (by simp; omega) _).alloc (by simp; omega) _).alloc (by simp; omega) _
  have hA0 : W1.cell? ⟨w.heap.size, 0, none⟩ = some (.string nm) := by
    rw [← hW1, World.cell?_alloc_lt _ _ _ (by simp <;> omega), World.cell?_alloc_lt _ _ _ (by simp <;> omega), World.cell?_alloc_lt _ _ _ (by simp <;> omega), World.cell?_alloc_lt _ _ _ (by simp <;> omega)]
    exact cell_new _ _ _ _ _ rfl rfl
  have hA1 : W1.cell? ⟨w.heap.size, 1, none⟩ = some (.int .i64 pa) := by
    rw [← hW1, World.cell?_alloc_lt _ _ _ (by simp <;> omega), World.cell?_alloc_lt _ _ _ (by simp <;> omega), World.cell?_alloc_lt _ _ _ (by simp <;> omega), World.cell?_alloc_lt _ _ _ (by simp <;> omega)]
    exact cell_new _ _ _ _ _ rfl rfl
  have hA2 : W1.cell? ⟨w.heap.size, 2, none⟩ = some (.int .i64 re) := by
    rw [← hW1, World.cell?_alloc_lt _ _ _ (by simp <;> omega), World.cell?_alloc_lt _ _ _ (by simp <;> omega), World.cell?_alloc_lt _ _ _ (by simp <;> omega), World.cell?_alloc_lt _ _ _ (by simp <;> omega)]
    exact cell_new _ _ _ _ _ rfl rfl
  have hA3 : W1.cell? ⟨w.heap.size, 3, none⟩ = some (.slice (some ⟨cb, co, none⟩) l.length cc) := by
    rw [← hW1, World.cell?_alloc_lt _ _ _ (by simp <;> omega), World.cell?_alloc_lt _ _ _ (by simp <;> omega), World.cell?_alloc_lt _ _ _ (by simp <;> omega), World.cell?_alloc_lt _ _ _ (by simp <;> omega)]
    exact cell_new _ _ _ _ _ rfl rfl
  have hs1 : W1.heap.size = w.heap.size + 5 := by rw [← hW1]; simp
  have HB := hid hB
  clear hW1 hmk hlp hB
  refine (push_calls (w.heap.size + 5) (w.heap.size + 1) (w.heap.size + 2) (w.heap.size + 3) (w.heap.size + 4) wo l.length W1 (.slice none 0 0) (List.replicate l.length false, []) 0 hV (by omega) (by simp)).mono ?_
  rintro e w2 ⟨rfl, v2, hV2, hp2⟩
  have hinv := VInv.start l wo hj
  generalize hs2 : (pushN wo 0 (List.replicate l.length false, [])).1 = s2 at *
  generalize ht2 : (pushN wo 0 (List.replicate l.length false, [])).2 = st2 at *
  have HV2 := hid hV2
  have HI2 := hid hinv
  have HB2 := hid hp2.below
  clear hV hV2 hinv hp2 hs2 ht2
  go_wp2_with fail
  go_loopw [] (fun wr => ∃ v s st, Vis (w.heap.size + 5) (w.heap.size + 1) (w.heap.size + 2) (w.heap.size + 3) (w.heap.size + 4) wo l.length wr v s st ∧ VInv l wo s st none ∧ Below (w.heap.size + 2) W1 wr) (fun wr => 2 * fcount wr (w.heap.size + 2) l.length + slen wr (w.heap.size + 4))
  case atStart => exact ⟨v2, s2, st2, HV2.out, HI2.out, HB2.out⟩
  case round =>
    clear HV2 HI2 HB2
    obtain ⟨v, s, st, hV, hI, hbl⟩ := hrel
    have m0 := (hbl.cell (p := ⟨w.heap.size, 0, none⟩) (by simp)).trans hA0
    have m1 := (hbl.cell (p := ⟨w.heap.size, 1, none⟩) (by simp)).trans hA1
    have m2 := (hbl.cell (p := ⟨w.heap.size, 2, none⟩) (by simp)).trans hA2
    have m3 := (hbl.cell (p := ⟨w.heap.size, 3, none⟩) (by simp)).trans hA3
    have hk := hV.hk
    have fk := hV.fk
    have hs := hV.hs
    have hsz := hV.lt.2.2.2.2
    have r0 : w.heap.size < wr.heap.size := by omega
    have hfc := fcount_eq hV.row hI.len
    have HV := hid hV
    have HI := hid hI
    have HBL := hid hbl
    obtain ⟨va, vc, hv⟩ := hV.own.anySlice
    subst hv
    have hsl := slen_eq hk
    rw [hfc, hsl]
    have HM := hid (And.intro hfc hsl)
    clear hfc hsl hV hI hbl
    have hcs : st = [] ∨ ∃ st' x, st = st' ++ [x] := by
      rcases List.eq_nil_or_concat st with h | ⟨a, x, h⟩
      · exact .inl h
      · exact .inr ⟨a, x, by rw [h, List.concat_eq_append]⟩
    rcases hcs with rfl | ⟨st', x, rfl⟩
    · rw [List.length_nil] at hk ⊢
      go_wp2_with fail
      go_ret
      refine ⟨w.heap.size + 2, l.length, rfl, rfl, by omega, ?_, HB.out.trans (HBL.out.mono (by omega))⟩
      have e := VInv.all HI.out hj
      rw [← e]
      exact HV.out.row
    · have hx := HI.out.stk x (by simp)
      obtain ⟨pc, rfl⟩ := Int.eq_ofNat_of_zero_le hx.1
      obtain ⟨g, cap, hv, hg, hgl⟩ := HV.out.own.open (by simp)
      have hl : (st' ++ [(pc : Int)]).length = st'.length + 1 := by simp
      rw [hl] at hv HV hk HM ⊢
      obtain ⟨rfl, _, rfl⟩ := Value.slice.inj hv
      have c0 := HV.out.own.cellAt st'.length 0 (by simp) (by decide)
      rw [show intE.sz = 1 from rfl, Nat.mul_one, Nat.add_zero, nth_append_right' _ _ _ rfl] at c0
      have c0' : wr.cell? ⟨g, st'.length, none⟩ = some (.int .i64 (pc : Nat)) := c0
      have hpl : pc < l.length := by omega
      have hstl : st'.length ≤ 1000 := by have := HI.out.cnt; simp at this; omega
      have hne : ¬ g = w.heap.size + 4 := by omega
      have hcap := HV.out.own.le_cap
      have hcap1 : st'.length ≤ vc := by omega
      have hcap2 : (st'.length : Int) ≤ vc := by omega
      have r4 : w.heap.size + 4 < wr.heap.size := by omega
      clear c0 hv hcap
      go_wp2_with fail
      generalize hwp : wr.setCell _ _ = wp
      have hown : OwnE intE (w.heap.size + 5) 3 wp (.slice (some ⟨g, 0, none⟩) st'.length vc) st' := by
        rw [← hwp]
        exact (HV.out.own.dropLast).other _ _ (fun q hq => by simp [Value.ownBlock] at hq; subst hq; simp; omega)
      have hpu : Pushed (w.heap.size + 2) (w.heap.size + 4) wr wp (.slice (some ⟨g, 0, none⟩) (st'.length + 1) vc) (.slice (some ⟨g, 0, none⟩) st'.length vc) := by
        rw [← hwp]
        refine ⟨(Below.refl (w.heap.size + 2) wr).setCell (p := ⟨w.heap.size + 4, 0, none⟩) (by simp) _, fun q hq h1 h2 h3 => Go.Deep.blk_setCell_other _ _ _ _ h2, by simp, fun q hq => .inl hq⟩
      have hVp : Vis (w.heap.size + 5) (w.heap.size + 1) (w.heap.size + 2) (w.heap.size + 3) (w.heap.size + 4) wo l.length wp (.slice (some ⟨g, 0, none⟩) st'.length vc) s st' := by
        refine HV.out.cells hpu ?_ ?_ ?_ HI.out.len hown
        · rw [← hwp]; exact World.cell?_setCell_same (w := wr) (a := ⟨w.heap.size + 4, 0, none⟩) (v := .slice (some ⟨g, 0, none⟩) st'.length vc) hk
        · rw [← hwp]; exact (World.frozen?_setCell (w := wr) (a := ⟨w.heap.size + 4, 0, none⟩) (b := ⟨w.heap.size + 4, 0, none⟩) (v := .slice (some ⟨g, 0, none⟩) st'.length vc)).trans fk
        · rw [← hwp]; exact HV.out.row.other (by simp) _
      have hBp := HBL.out.trans hpu.below
      have hIp := HI.out.pop
      have HVP := hid hVp
      have HIP := hid hIp
      have HBP := hid hBp
      have hszp : w.heap.size + 5 ≤ wp.heap.size := hVp.lt.2.2.2.2
      have hpb := hVp.own.lt
      clear hwp hown hpu hVp hBp hIp HV HI HBL hk fk hs m0 m1 m2 m3 c0'
      refine (next_calls lo nm pa re _ l _ wp (HC0.below (HB.out.trans (HBP.out.mono (by omega))))).mono ?_
      rintro e wn ⟨v, rfl, hN1, hN2⟩
      generalize hN : nextL l pc = N at *
      have hNx : ∀ x ∈ N, 0 ≤ x ∧ x < l.length := by rw [← hN]; exact hj.nx _ hpl
      obtain ⟨a62, c62, b62, o62, rfl, p62, d62, bl62, lo62, lc62, cm62, nl62⟩ := hN1.open
      have hsn : wp.heap.size ≤ wn.heap.size := hN2.size
      have hpu : Pushed (w.heap.size + 2) (w.heap.size + 4) wp wn (.slice (some ⟨g, 0, none⟩) st'.length vc) (.slice (some ⟨g, 0, none⟩) st'.length vc) := ⟨hN2.mono (by omega), fun q hq _ _ _ => hN2.block q hq, hsn, fun q hq => .inl hq⟩
      have hVn : Vis (w.heap.size + 5) (w.heap.size + 1) (w.heap.size + 2) (w.heap.size + 3) (w.heap.size + 4) wo l.length wn (.slice (some ⟨g, 0, none⟩) st'.length vc) s st' := by
        have hv := HVP.out
        exact hv.cells hpu ((hN2.cell (p := ⟨w.heap.size + 4, 0, none⟩) (by simp; omega)).trans hv.hk) ((hN2.frozen (p := ⟨w.heap.size + 4, 0, none⟩) (by simp; omega)).trans hv.fk) (hv.row.below hN2) hv.len (hv.own.ofBlock fun k hk => hN2.block k (hv.own.lt k hk).2)
      have HVN := hid hVn
      have HBN := hid (HBP.out.trans (hN2.mono (by omega)))
      clear hpu hVn hN2 HVP
      have hnb : ∀ b, wp.heap.size ≤ b → b < wn.heap.size → (Value.slice (some ⟨g, 0, none⟩) st'.length vc).ownBlock ≠ some b := fun b h1 h2 e => by
        have := (hpb b e).2; omega
      have HNB := hid hnb
      clear hnb hpb
      go_wp2_with fail
      go_loopw [40] (fun i wr => ∃ (q : Nat) (v : Value) (s1 : List Bool) (st : List Int), i = .int .i64 q ∧ q ≤ N.length ∧ Vis (w.heap.size + 5) (w.heap.size + 1) (w.heap.size + 2) (w.heap.size + 3) (w.heap.size + 4) wo l.length wr v s1 st ∧ VInv l wo s1 st (some (pc, q)) ∧ 2 * falses s1 + st.length + 1 ≤ 2 * falses s + (st'.length + 1) ∧ Below (w.heap.size + 2) W1 wr ∧ (∀ b, wp.heap.size ≤ b → b < wn.heap.size → wr.heap[b]? = wn.heap[b]?) ∧ (∀ b, wp.heap.size ≤ b → b < wn.heap.size → v.ownBlock ≠ some b) ∧ wn.heap.size ≤ wr.heap.size) (fun i _ => N.length - (intOf i).toNat)
      case atStart => exact ⟨0, _, s, st', rfl, Nat.zero_le _, HVN.out, HIP.out, by omega, HBN.out, fun _ _ _ => rfl, HNB.out, Nat.le_refl _⟩
      case round =>
        clear HVN HIP HBN HNB
        obtain ⟨q, v, s1, st, rfl, hq, hV, hI, hm, hbl, hsame, hown, hszr⟩ := hrel
        by_cases hqN : q < N.length
        · have ea := p62 (by omega)
          subst ea
          obtain ⟨y, hy⟩ : ∃ y : Nat, nth N q = y := ⟨(nth N q).toNat, by have := hNx _ (nth_mem N q hqN); omega⟩
          have hyl : y < l.length := by have := hNx _ (nth_mem N q hqN); omega
          have d1 : wr.cell? ⟨b62, o62 + q, none⟩ = some (.int .i64 (y : Nat)) := by
            rw [← hy]
            have e := hsame b62 (lo62 (by omega)) (bl62 (by omega))
            have := d62 q hqN
            simp only [World.cell?] at this ⊢
            rw [e]; exact this
          have hqi : (q : Int) < N.length := by omega
          have hst := hI.cnt
          have hstep := hI.step (y := y) (by rw [hN]; exact hqN) (by rw [hN]; exact hy) hyl
          have HV := hid hV
          have HST := hid hstep
          have HBL := hid hbl
          have HSA := hid hsame
          have HOW := hid hown
          clear hV hI hbl hsame hown hstep
          go_wp2_with fail
          refine (push_calls (w.heap.size + 5) (w.heap.size + 1) (w.heap.size + 2) (w.heap.size + 3) (w.heap.size + 4) wo l.length wr v (s1, st) y HV.out hyl (by show st.length ≤ 1000; omega)).mono ?_
          rintro e w5 ⟨rfl, v5, hV5, hp5⟩
          have HV5 := hid hV5
          have HP5 := hid hp5
          clear hV5 hp5
          go_wp2_with fail
          refine ⟨⟨q + 1, v5, _, _, by go_num, by omega, HV5.out, HST.out.1, by have := HST.out.2; omega, HBL.out.trans HP5.out.below, fun b h1 h2 => ?_, fun b h1 h2 e => ?_, Nat.le_trans hszr HP5.out.size⟩, by simp [intOf]; omega⟩
          · exact (HP5.out.same b (by omega) (by omega) (by omega) (HOW.out b h1 h2)).trans (HSA.out b h1 h2)
          · rcases HP5.out.blk b e with h | h
            · exact HOW.out b h1 h2 h
            · omega
        · have hqe : q = N.length := by omega
          have hfc := fcount_eq hV.row hI.len
          obtain ⟨va, vc', hv⟩ := hV.own.anySlice
          subst hv
          have hsl := slen_eq hV.hk
          have HV := hid hV
          have HI := hid (hI.done (by rw [hN]; omega))
          have HBL := hid hbl
          have HM := hid (And.intro hfc hsl)
          clear hV hI hbl hsame hown hfc hsl
          go_wp2_with fail
          refine ⟨⟨_, s1, st, HV.out, HI.out, HBL.out⟩, ?_⟩
          rw [HM.out.1, HM.out.2]
          omega

end Go.Proofs.YteiohnfmlabelaaGreat
