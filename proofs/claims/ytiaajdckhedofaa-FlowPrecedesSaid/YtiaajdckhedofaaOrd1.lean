import Derived.Test.YtiaajdckhedofaaVisit
import Derived.Test.YtiaajdckhedofaaBnd
namespace Go.Proofs.Ytiaajdckhedofaa
set_option linter.unusedVariables false
set_option linter.unusedSimpArgs false
open Go.RowKit

/-- One call for a further block: nothing if it is seen. -/
def dfsStep (f : Nat → List Bool × List Int → List Bool × List Int) (x : List Bool × List Int) (y : Int) : List Bool × List Int := if nth x.1 y.toNat = true then x else f y.toNat x
/-- The depth-first search: marks and finished blocks. -/
def dfs (nx : Nat → List Int) : Nat → Nat → List Bool × List Int → List Bool × List Int
  | 0, _, x => x
  | f + 1, i, x => (((nx i).foldl (dfsStep (dfs nx f)) (x.1.set i true, x.2)).1, ((nx i).foldl (dfsStep (dfs nx f)) (x.1.set i true, x.2)).2 ++ [(i : Int)])

/-- A state with n marks: what the search keeps. -/
def Fit (n k : Nat) (x : List Bool × List Int) : Prop := x.1.length = n ∧ x.2.length + falses x.1 + k ≤ n
theorem falses_le (l : List Bool) : falses l ≤ l.length := List.length_filter_le _ _
theorem dfs_fit (nx : Nat → List Int) (n : Nat) (hnx : ∀ i, i < n → ∀ y ∈ nx i, 0 ≤ y ∧ y < n) : ∀ f i x k, i < n → falses x.1 ≤ f → nth x.1 i = false → Fit n k x → Fit n k (dfs nx f i x) ∧ falses (dfs nx f i x).1 < falses x.1
  | 0, i, x, k, hi, hf, hs, hx => by
    have := falses_set x.1 i (by rw [hx.1]; exact hi) hs
    omega
  | f + 1, i, x, k, hi, hf, hs, hx => by
    have h1 := falses_set x.1 i (by rw [hx.1]; exact hi) hs
    have hfold : ∀ (l : List Int) (z : List Bool × List Int), (∀ y ∈ l, 0 ≤ y ∧ y < n) → Fit n (k + 1) z → falses z.1 ≤ f → Fit n (k + 1) (l.foldl (dfsStep (dfs nx f)) z) ∧ falses (l.foldl (dfsStep (dfs nx f)) z).1 ≤ falses z.1 := by
      intro l
      induction l with
      | nil => intro z _ hz _; exact ⟨hz, Nat.le_refl _⟩
      | cons y l ih =>
        intro z hl hz hzf
        rw [List.foldl_cons]
        have hy := hl y (by simp)
        unfold dfsStep
        split
        · exact ih z (fun y hy => hl y (by simp [hy])) hz hzf
        · rename_i hny
          have hd := dfs_fit nx n hnx f y.toNat z (k + 1) (by omega) hzf (by simpa using hny) hz
          have h2 := ih _ (fun y hy => hl y (by simp [hy])) hd.1 (by omega)
          exact ⟨h2.1, by have := h2.2; have := hd.2; unfold dfsStep at *; omega⟩
    have hz : Fit n (k + 1) (x.1.set i true, x.2) := ⟨by simp [hx.1], by have := hx.2; simp; omega⟩
    obtain ⟨h2, h3⟩ := hfold (nx i) _ (hnx i hi) hz (by simp; omega)
    simp only [dfs]
    refine ⟨⟨h2.1, ?_⟩, ?_⟩
    · have := h2.2; simp; omega
    · simp at h3 ⊢; omega

theorem fold_take {α β : Type} [Inhabited β] (g : α → β → α) (l : List β) (z : α) (k : Nat) (h : k < l.length) : (l.take (k + 1)).foldl g z = g ((l.take k).foldl g z) (nth l k) := by
  rw [nth_eq _ _ h, List.take_add_one, List.getElem?_eq_getElem h, List.foldl_append]; rfl

/-- What the search keeps, inside the loop over the next blocks. -/
theorem fold_fit (nx : Nat → List Int) (n : Nat) (hnx : ∀ i, i < n → ∀ y ∈ nx i, 0 ≤ y ∧ y < n) (f k : Nat) (l : List Int) (z : List Bool × List Int) (hl : ∀ y ∈ l, 0 ≤ y ∧ y < n) (hz : Fit n k z) (hzf : falses z.1 ≤ f) :
    Fit n k (l.foldl (dfsStep (dfs nx f)) z) ∧ falses (l.foldl (dfsStep (dfs nx f)) z).1 ≤ falses z.1 := by
  induction l generalizing z with
  | nil => exact ⟨hz, Nat.le_refl _⟩
  | cons y l ih =>
    rw [List.foldl_cons]
    have hy := hl y (by simp)
    unfold dfsStep
    split
    · exact ih z (fun y hy => hl y (by simp [hy])) hz hzf
    · rename_i hny
      have hd := dfs_fit nx n hnx f y.toNat z k (by omega) hzf (by simpa using hny) hz
      have h2 := ih _ (fun y hy => hl y (by simp [hy])) hd.1 (by omega)
      exact ⟨h2.1, by have := h2.2; have := hd.2; unfold dfsStep at *; omega⟩

end Go.Proofs.Ytiaajdckhedofaa

namespace Go.Proofs.Ytiaajdckhedofaa
set_option linter.unusedVariables false
set_option linter.unusedSimpArgs false
open Go.RowKit

/-- The value of the closure search. -/
def searchV (bs bb bf bk : Nat) : Value := .func (Fn.func 33) #[] #[.pointer (some ⟨bs, 0, none⟩), .pointer (some ⟨bb, 0, none⟩), .pointer (some ⟨bf, 0, none⟩), .pointer (some ⟨bk, 0, none⟩)]

/-- The memory of the search. -/
structure Ord (W0 : World) (base bb bg bs bk bf : Nat) (vb : Value) (n : Nat) (w : World) (v : Value) (x : List Bool × List Int) : Prop where
  hs : w.cell? ⟨bs, 0, none⟩ = some (.slice (some ⟨bg, 0, none⟩) n n)
  hb : w.cell? ⟨bb, 0, none⟩ = some vb
  hf : w.cell? ⟨bf, 0, none⟩ = some (searchV bs bb bf bk)
  hk : w.cell? ⟨bk, 0, none⟩ = some v
  fk : w.frozen? ⟨bk, 0, none⟩ = false
  row : RowB w bg x.1
  len : x.1.length = n
  own : OwnE intE base 3 w v x.2
  old : Below W0.heap.size W0 w
  lt : W0.heap.size ≤ bb ∧ bb < bg ∧ bg < bs ∧ bs < bk ∧ bk < bf ∧ bf < base ∧ base ≤ w.heap.size

theorem Pushed.refl (bg bk : Nat) (w : World) (v : Value) : Pushed bg bk w w v v := ⟨Below.refl _ _, fun _ _ _ _ _ => rfl, Nat.le_refl _, fun q hq => .inl hq⟩
theorem Pushed.trans {bg bk : Nat} {w w1 w2 : World} {v v1 v2 : Value} (h1 : Pushed bg bk w w1 v v1) (h2 : Pushed bg bk w1 w2 v1 v2) : Pushed bg bk w w2 v v2 := by
  refine ⟨h1.below.trans h2.below, fun q hq e1 e2 e3 => ?_, Nat.le_trans h1.size h2.size, fun q hq => ?_⟩
  · rw [h2.same q (by have := h1.size; omega) e1 e2 (fun e => ?_), h1.same q hq e1 e2 e3]
    rcases h1.blk q e with h | h
    · exact e3 h
    · omega
  · rcases h2.blk q hq with h | h
    · exact h1.blk q h
    · exact .inr (by have := h1.size; omega)

theorem Ord.cells {W0 : World} {base bb bg bs bk bf : Nat} {vb : Value} {n : Nat} {w w' : World} {v v' : Value} {x x' : List Bool × List Int} (h : Ord W0 base bb bg bs bk bf vb n w v x) (hp : Pushed bg bk w w' v v')
    (h1 : w'.cell? ⟨bk, 0, none⟩ = some v') (h2 : w'.frozen? ⟨bk, 0, none⟩ = false) (h3 : RowB w' bg x'.1) (h4 : x'.1.length = n) (h5 : OwnE intE base 3 w' v' x'.2) : Ord W0 base bb bg bs bk bf vb n w' v' x' := by
  obtain ⟨l0, l1, l2, l3, l4, l5, l6⟩ := h.lt
  have hv : ∀ q, q < base → v.ownBlock ≠ some q := fun q hq e => by have := (h.own.lt q e).1; omega
  have e1 := hp.same bs (by omega) (by omega) (by omega) (hv _ (by omega))
  have e2 := hp.same bb (by omega) (by omega) (by omega) (hv _ (by omega))
  have e3 := hp.same bf (by omega) (by omega) (by omega) (hv _ (by omega))
  refine ⟨?_, ?_, ?_, h1, h2, h3, h4, h5, h.old.trans (hp.below.mono (by omega)), l0, l1, l2, l3, l4, l5, Nat.le_trans l6 hp.size⟩
  · have := h.hs; simp only [World.cell?] at this ⊢; rw [e1]; exact this
  · have := h.hb; simp only [World.cell?] at this ⊢; rw [e2]; exact this
  · have := h.hf; simp only [World.cell?] at this ⊢; rw [e3]; exact this

set_option maxRecDepth 100000 in
set_option maxHeartbeats 10000000 in
theorem search1_calls (W0 : World) (base bb bg bs bk bf : Nat) (lo0 : Nat) (vb : Value) (L : List Blk) (n : Nat) (hn : n = L.length) (hn2 : n ≤ 1000) (hL : BlksAt lo0 W0 vb L) (hnx : ∀ i, i < n → ∀ y ∈ (nth L i).next, 0 ≤ y ∧ y < n) :
    ∀ (f i : Nat) (w : World) (v : Value) (x : List Bool × List Int) (k : Nat), Ord W0 base bb bg bs bk bf vb n w v x → i < n → falses x.1 ≤ f → nth x.1 i = false → Fit n k x →
    Calls Try.prog 33 #[.int .i64 i, .pointer (some ⟨bs, 0, none⟩), .pointer (some ⟨bb, 0, none⟩), .pointer (some ⟨bf, 0, none⟩), .pointer (some ⟨bk, 0, none⟩)] w fun e w' => e = .returned (.tuple #[]) ∧ ∃ v', Ord W0 base bb bg bs bk bf vb n w' v' (dfs (fun i => (nth L i).next) f i x) ∧ Pushed bg bk w w' v v' := by
  subst hn
  intro f
  induction f with
  | zero =>
    intro i w v x k ho hi hf hs hx
    have := falses_set x.1 i (by rw [hx.1]; exact hi) hs
    omega
  | succ f ih =>
    intro i w v x k ho hi hf hs hx
    obtain ⟨rows, hr1, hr2, hr3⟩ := hL
    obtain ⟨ab, cb, bbk, ob, rfl, hnil, hpp, hcells, hlc, hcm, hl47⟩ := hr2
    obtain ⟨rfl, hlo⟩ := hpp (by omega)
    have hrl : rows.length = L.length := hr1
    rw [hrl] at ih ho ⊢
    obtain ⟨l0, l1, l2, l3, l4, l5, l6⟩ := ho.lt
    obtain ⟨-, -, hnext⟩ := hr3 i (by omega)
    obtain ⟨na, nc, nb, no, hne, np, nd, nbl, nlo, nlc, ncm, n47⟩ := hnext.open
    obtain ⟨ena, enn, enc⟩ := Value.slice.inj hne
    have dn := hcells i 2 (by omega) (by decide)
    have dn' : W0.cell? ⟨bbk, ob + i * 3 + 2, none⟩ = some (.slice na (nth L i).next.length nc) := by
      rw [show bE.sz = 3 from rfl] at dn
      rw [dn, ← ena, ← enn, ← enc]; rfl
    have hblt := World.block_lt_of_cell? _ _ dn'
    have a1 := ho.hs
    have a2 := ho.hb
    have c0 := ho.row.cell (i := i) (by rw [ho.len]; exact hi)
    have z0 := ho.row.frozen i
    have d1 := (ho.old.cell (p := ⟨bbk, ob + i * 3 + 2, none⟩) hblt).trans dn'
    have hii : (i : Int) < L.length := by omega
    have q1 : bbk < w.heap.size := by simp at hblt; omega
    have q2 : bb < w.heap.size := by omega
    have q3 : ¬ bg = bb := by omega
    have q4 : ¬ bb = bg := by omega
    have q5 : ¬ bg = bbk := by simp at hblt; omega
    have q6 : ¬ bbk = bg := by simp at hblt; omega
    have HO := hid ho
    have HX := hid hx
    have hfs := falses_set x.1 i (by rw [hx.1]; exact hi) hs
    clear ho dn hnext hx hs
    go_enter Try.func33, Try.ntmps33
    go_wp2_with fail
    generalize hW5 : World.setCell _ _ _ = W5
    have hp5 : Pushed bg bk w W5 v v := by
      rw [← hW5]
      exact ⟨(Below.refl bg w).setCell (p := ⟨bg, i, none⟩) (Nat.le_refl _) _, fun q hq h1 h2 h3 => Go.Deep.blk_setCell_other _ _ _ _ h1, by simp, fun q hq => .inl hq⟩
    have ho5 : Ord W0 base bb bg bs bk bf (.slice (some ⟨bbk, ob, none⟩) L.length cb) L.length W5 v (x.1.set i true, x.2) := by
      have h := HO.out
      have hbk := hp5.same
      refine h.cells hp5 ?_ ?_ ?_ (by rw [List.length_set]; exact h.len) ?_
      · rw [← hW5]; exact (World.cell?_setCell_other (w := w) (a := ⟨bg, i, none⟩) (b := ⟨bk, 0, none⟩) (v := Value.bool true) (fun e => by have := congrArg Addr.block e; simp at this; omega)).trans h.hk
      · rw [← hW5]; exact (World.frozen?_setCell (w := w) (a := ⟨bg, i, none⟩) (b := ⟨bk, 0, none⟩) (v := Value.bool true)).trans h.fk
      · rw [← hW5]; exact h.row.set i true
      · rw [← hW5]; exact h.own.other _ _ (fun q hq => by have := (h.own.lt q hq).1; simp; omega)
    have hfit5 : Fit L.length (k + 1) (x.1.set i true, x.2) := ⟨by rw [List.length_set]; exact HX.out.1, by have := HX.out.2; simp; omega⟩
    have hf5 : falses (x.1.set i true) ≤ f := by omega
    have HO5 := hid ho5
    have HP5 := hid hp5
    clear hW5 HO ho5 hp5 a1 a2 c0 z0 d1
    go_loopw [17] (fun i' wr => ∃ (q : Nat) (v' : Value), i' = .int .i64 q ∧ q ≤ (nth L i).next.length ∧ Ord W0 base bb bg bs bk bf (.slice (some ⟨bbk, ob, none⟩) L.length cb) L.length wr v' (((nth L i).next.take q).foldl (dfsStep (dfs (fun i => (nth L i).next) f)) (x.1.set i true, x.2)) ∧ Pushed bg bk w wr v v') (fun i' _ => (nth L i).next.length - (intOf i').toNat)
    case atStart => exact ⟨0, v, rfl, Nat.zero_le _, HO5.out, HP5.out⟩
    case round =>
      clear HO5 HP5
      obtain ⟨q, v1, rfl, hq, ho, hp⟩ := hrel
      have hff := fold_fit (fun i => (nth L i).next) L.length hnx f (k + 1) ((nth L i).next.take q) (x.1.set i true, x.2) (fun y hy => hnx i hi y (List.mem_of_mem_take hy)) hfit5 hf5
      have htk := fun h => fold_take (dfsStep (dfs (fun i => (nth L i).next) f)) (nth L i).next (x.1.set i true, x.2) q h
      generalize hz : ((nth L i).next.take q).foldl (dfsStep (dfs (fun i => (nth L i).next) f)) (x.1.set i true, x.2) = z at *
      have HTK := hid htk
      have HZ := hid hz
      clear htk hz
      by_cases hqN : q < (nth L i).next.length
      · have ea := np (by omega)
        subst ea
        have hyr := hnx i hi _ (nth_mem _ q hqN)
        obtain ⟨y, hy⟩ : ∃ y : Nat, nth (nth L i).next q = y := ⟨(nth (nth L i).next q).toNat, by omega⟩
        have hyl : y < L.length := by omega
        have dd := nd q hqN
        rw [hy] at dd
        have hnbl := World.block_lt_of_cell? _ _ dd
        have d1 := (ho.old.cell (p := ⟨nb, no + q, none⟩) hnbl).trans dd
        have a1 := ho.hs
        have a3 := ho.hf
        unfold searchV at a3
        have c0 := ho.row.cell (i := y) (by rw [ho.len]; exact hyl)
        have hyi : (y : Int) < L.length := by omega
        have hqi : (q : Int) < (nth L i).next.length := by omega
        have HO := hid ho
        have HP := hid hp
        clear ho hp dd
        cases hzy : nth z.1 y with
        | true =>
          rw [hzy] at c0
          have HZY := hid hzy
          clear hzy
          go_wp2_with fail
          refine ⟨⟨q + 1, v1, by go_num, by omega, ?_, HP.out⟩, by simp [intOf]; omega⟩
          rw [HTK.out hqN, hy]
          unfold dfsStep
          rw [Int.toNat_natCast, if_pos HZY.out]
          exact HO.out
        | false =>
          rw [hzy] at c0
          have HZY := hid hzy
          clear hzy
          go_wp2_with fail
          refine (ih y _ v1 z (k + 1) HO.out hyl (by omega) HZY.out hff.1).mono ?_
          rintro e w6 ⟨rfl, v6, ho6, hp6⟩
          have HO6 := hid ho6
          have HP6 := hid hp6
          clear ho6 hp6
          go_wp2_with fail
          refine ⟨⟨q + 1, v6, by go_num, by omega, ?_, HP.out.trans HP6.out⟩, by simp [intOf]; omega⟩
          rw [HTK.out hqN, hy]
          have hst : dfsStep (dfs (fun i => (nth L i).next) f) z (y : Int) = dfs (fun i => (nth L i).next) f y z := by
            unfold dfsStep
            rw [Int.toNat_natCast, if_neg (by rw [HZY.out]; simp)]
          rw [hst]
          exact HO6.out
      · have hqe : q = (nth L i).next.length := by omega
        have hzz : z = (nth L i).next.foldl (dfsStep (dfs (fun i => (nth L i).next) f)) (x.1.set i true, x.2) := by
          rw [← HZ.out, List.take_of_length_le (by omega)]
        have a3 := ho.hk
        have z3 := ho.fk
        obtain ⟨l0', l1', l2', l3', l4', l5', l6'⟩ := ho.lt
        have hzl : z.2.length ≤ 1000 := by have := hff.1.2; omega
        have q7 : bk < wr.heap.size := by omega
        have HO := hid ho
        have HP := hid hp
        have HZZ := hid hzz
        clear ho hp hzz
        go_wp2_with (
          at_builtin
          go_loud (refine wpList_append_row intE (o := ⟨some 33, _, _, _, _, _⟩) rfl (.tmp 30) (.tmp 32) 35 rfl base wr.heap.size 3 _ 8 Try.underlying35 infoIE rfl z.2 (i : Int) (HO.out.own.alloc _) ((OwnE.lit intE wr wr.heap.size 3 [(i : Int)] _ wr.heap.size 1 (by simp) (Nat.le_refl _) rfl rfl (by simp)).sl (Nat.le_refl _) (by simp)) (by omega) (by simp only [maxLen]; omega) (by simp; omega) ?_)
          intro g2 cap2 w2 ho2 hg2 hl2 hb2 hgr hal
          go_loud (have d9 : w2.cell? ⟨bk, 0, none⟩ = some v1 := (hb2.cell (p := ⟨bk, 0, none⟩) (show bk < base by omega)).trans ((World.cell?_alloc_lt _ _ _ q7).trans a3))
          go_loud (have z9 : w2.frozen? ⟨bk, 0, none⟩ = false := (hb2.frozen (p := ⟨bk, 0, none⟩) (show bk < base by omega)).trans ((World.frozen?_alloc_old _ _ _ (Nat.ne_of_lt q7)).trans z3))
          go_loud (have r9 : bk < w2.heap.size := by have := hb2.size; simp at this; omega)
          have HO2 := hid ho2
          have HB2 := hid hb2
          have HGR := hid hgr
          have HAL := hid hal
          clear ho2 hb2 hgr hal)
        go_end0
        have hp2 : Pushed bg bk wr (w2.setCell ⟨bk, 0, none⟩ (.slice (some ⟨g2, 0, none⟩) (z.2.length + 1) cap2)) v1 (.slice (some ⟨g2, 0, none⟩) (z.2.length + 1) cap2) := by
          have hsz := HB2.out.size
          simp at hsz
          refine ⟨?_, fun q hq h1 h2 h3 => ?_, by simp; omega, fun q hq => ?_⟩
          · have b1 : Below bg wr wr := Below.refl _ _
            exact ((b1.alloc (by omega) _).trans (HB2.out.mono (by omega))).setCell (show bg ≤ bk by omega) _
          · rw [Go.Deep.blk_setCell_other _ _ _ _ h2]
            have e := HGR.out.block q (by simp; omega) (fun e => h3 e.symm)
            rw [e, Go.Deep.blk_alloc_lt _ _ _ (by simpa using hq)]
          · simp [Value.ownBlock] at hq
            subst hq
            rcases HAL.out with h | h
            · exact .inl h
            · simp at h; exact .inr (by omega)
        have hres : dfs (fun i => (nth L i).next) (f + 1) i x = (z.1, z.2 ++ [(i : Int)]) := by rw [HZZ.out]; rfl
        rw [hres]
        refine ⟨rfl, _, HO.out.cells hp2 ?_ ?_ ?_ HO.out.len ?_, HP.out.trans hp2⟩
        · exact World.cell?_setCell_same (w := w2) (a := ⟨bk, 0, none⟩) (v := .slice (some ⟨g2, 0, none⟩) (z.2.length + 1) cap2) d9
        · exact (World.frozen?_setCell (w := w2) (a := ⟨bk, 0, none⟩) (b := ⟨bk, 0, none⟩) (v := .slice (some ⟨g2, 0, none⟩) (z.2.length + 1) cap2)).trans z9
        · have hr2 : RowB w2 bg z.1 := World.rowIs.of_block (HO.out.row.alloc _) (HB2.out.block _ (by omega))
          exact hr2.other (by show bg ≠ bk; omega) _
        · exact HO2.out.other ⟨bk, 0, none⟩ _ (fun q hq => by have := (HO2.out.lt q hq).1; simp; omega)

end Go.Proofs.Ytiaajdckhedofaa
