/-
  The reference's Split in plain words: its marks, its numbers; the state of one round.
-/
import Derived.Test.YtealeofgfgbheaaZLkW
import Derived.Test.YtealeofgfgbheaaZLkF
import Derived.Test.YtealeofgfgbheaaZLkZ
import Derived.Test.YtealeofgfgbheaaZRowB
namespace Go.Proofs.Ytealeofgfgbheaa
set_option linter.unusedVariables false
set_option linter.unusedSimpArgs false
open Go.RowKit

theorem made_listR (z : Value) (n : Nat) : (madeCells #[z] n).toList = List.replicate n z := by
  simp [madeCells, Nat.mod_one, List.map_const']
theorem bool_flat (l : List Bool) : l.flatMap boolE.enc = l.map Value.bool := by
  induction l with
  | nil => rfl
  | cons b l ih => rw [List.flatMap_cons, ih]; rfl
theorem int_flat (l : List Int) : l.flatMap intE.enc = l.map (Value.int .i64) := by
  induction l with
  | nil => rfl
  | cons b l ih => rw [List.flatMap_cons, ih]; rfl
def uL (p : Prg) (i k : Nat) : List Bool := (List.range p.funcs.length).map fun j : Nat => decide ((j : Int) ∈ usedK p i k)
def nL (p : Prg) (i k : Nat) : List Int := (List.range p.funcs.length).map fun j => if j < k ∧ usedB p i j = true then (plc p i j : Int) else 0
def mR (p : Prg) (i k : Nat) : Int := if i < k ∧ (i : Int) = p.main then plc p i i else -1
def cL (p : Prg) (i k : Nat) : List Ins := ((nth p.funcs i).code.take k).map (reP p i) ++ (nth p.funcs i).code.drop k
theorem uL_len (p : Prg) (i k : Nat) : (uL p i k).length = p.funcs.length := by simp [uL]
theorem nL_len (p : Prg) (i k : Nat) : (nL p i k).length = p.funcs.length := by simp [nL]
theorem range_map_nth {α : Type} [Inhabited α] (f : Nat → α) (n j : Nat) (hj : j < n) : nth ((List.range n).map f) j = f j := by
  have h : j < (List.range n).length := by simpa using hj
  rw [nth_map _ _ _ h, nth_eq _ _ h, List.getElem_range]
theorem range_map_set {α : Type} (f g : Nat → α) (n i : Nat) (v : α) (hv : ∀ j, j < n → g j = if j = i then v else f j) : ((List.range n).map f).set i v = (List.range n).map g := by
  apply List.ext_getElem (by simp)
  intro j h1 h2
  have hj : j < n := by simpa using h2
  rw [List.getElem_set]
  simp only [List.getElem_map, List.getElem_range]
  rw [hv j hj]
  by_cases e : i = j
  · rw [if_pos e, if_pos e.symm]
  · rw [if_neg e, if_neg (fun h => e h.symm)]
theorem uL_zero (p : Prg) (i : Nat) : (List.replicate p.funcs.length false).set i true = uL p i 0 := by
  have e : List.replicate p.funcs.length false = (List.range p.funcs.length).map fun _ => false := by simp [List.map_const']
  rw [e]
  refine range_map_set _ _ _ _ _ fun j hj => ?_
  simp only [usedK, List.take_zero, List.filter_nil, List.map_nil, List.mem_singleton]
  by_cases h : j = i
  · rw [if_pos h]; simp [h]
  · rw [if_neg h]; simp; omega
theorem uL_yes (p : Prg) (i k : Nat) (h : k < (nth p.funcs i).code.length) {x : Ins} (hx : nth (nth p.funcs i).code k = x) (hc : callB x.op = true) (h0 : 0 ≤ x.b) : (uL p i k).set x.b.toNat true = uL p i (k + 1) := by
  refine range_map_set _ _ _ _ _ fun j hj => ?_
  have hs := usedK_succ p i k h (j : Int)
  rw [hx] at hs
  by_cases e : j = x.b.toNat
  · rw [if_pos e, decide_eq_true_eq]
    exact hs.2 (.inl ⟨hc, by omega⟩)
  · rw [if_neg e, decide_eq_decide]
    rw [hs]
    exact ⟨fun h => h.elim (fun h => absurd h.2 (by omega)) id, .inr⟩
theorem uL_no (p : Prg) (i k : Nat) (h : k < (nth p.funcs i).code.length) {x : Ins} (hx : nth (nth p.funcs i).code k = x) (hc : callB x.op = false) : uL p i k = uL p i (k + 1) := by
  unfold uL
  refine List.map_congr_left fun j hj => ?_
  have hs := usedK_succ p i k h (j : Int)
  rw [hx] at hs
  rw [decide_eq_decide, hs]
  exact ⟨.inr, fun h => h.elim (fun h => by rw [hc] at h; cases h.1) id⟩
theorem uL_at (p : Prg) (i j : Nat) (hj : j < p.funcs.length) : nth (uL p i (nth p.funcs i).code.length) j = usedB p i j := by
  unfold uL
  rw [range_map_nth _ _ _ hj, Bool.eq_iff_iff, decide_eq_true_eq]
  exact usedK_end p i j
theorem nL_zero (p : Prg) (i : Nat) : List.replicate p.funcs.length 0 = nL p i 0 := by
  unfold nL
  simp [List.map_const']
theorem nL_yes (p : Prg) (i k : Nat) (hu : usedB p i k = true) : (nL p i k).set k (plc p i k : Int) = nL p i (k + 1) := by
  refine range_map_set _ _ _ _ _ fun j hj => ?_
  by_cases e : j = k
  · subst e
    rw [if_pos rfl, if_pos ⟨by omega, hu⟩]
  · rw [if_neg e]
    by_cases h : j < k ∧ usedB p i j = true
    · rw [if_pos h, if_pos ⟨by omega, h.2⟩]
    · rw [if_neg h, if_neg (fun h' => h ⟨by omega, h'.2⟩)]
theorem nL_no (p : Prg) (i k : Nat) (hu : usedB p i k = false) : nL p i k = nL p i (k + 1) := by
  unfold nL
  refine List.map_congr_left fun j hj => ?_
  by_cases h : j < k ∧ usedB p i j = true
  · rw [if_pos h, if_pos ⟨by omega, h.2⟩]
  · rw [if_neg h, if_neg]
    rintro ⟨h1, h2⟩
    refine h ⟨?_, h2⟩
    by_cases e : j = k
    · subst e; rw [hu] at h2; cases h2
    · omega
theorem nL_at (p : Prg) (i k j : Nat) (hj : j < p.funcs.length) (hk : j < k) (hu : usedB p i j = true) : nth (nL p i k) j = plc p i j := by
  unfold nL
  rw [range_map_nth _ _ _ hj, if_pos ⟨hk, hu⟩]
theorem cL_zero (p : Prg) (i : Nat) : cL p i 0 = (nth p.funcs i).code := by simp [cL]
theorem cL_end (p : Prg) (i : Nat) : cL p i (nth p.funcs i).code.length = (nth p.funcs i).code.map (reP p i) := by simp [cL]
theorem cL_len (p : Prg) (i k : Nat) (h : k ≤ (nth p.funcs i).code.length) : (cL p i k).length = (nth p.funcs i).code.length := by
  unfold cL
  rw [List.length_append, List.length_map, List.length_take, List.length_drop]
  omega
theorem cL_at (p : Prg) (i k : Nat) (h : k < (nth p.funcs i).code.length) : nth (cL p i k) k = nth (nth p.funcs i).code k := by
  have hl : (((nth p.funcs i).code.take k).map (reP p i)).length = k := by rw [List.length_map, List.length_take]; omega
  rw [nth_eq _ _ (by rw [cL_len p i k (by omega)]; exact h), nth_eq _ _ h]
  unfold cL
  rw [List.getElem_append_right (by omega)]
  have hm : k - min k (nth p.funcs i).code.length = 0 := by omega
  simp [hm]
theorem cL_succ (p : Prg) (i k : Nat) (h : k < (nth p.funcs i).code.length) : (cL p i k).set k (reP p i (nth (nth p.funcs i).code k)) = cL p i (k + 1) := by
  unfold cL
  have hl : (((nth p.funcs i).code.take k).map (reP p i)).length = k := by simp; omega
  rw [List.set_append_right _ _ (by omega), hl, Nat.sub_self, nth_eq _ _ h, List.drop_eq_getElem_cons h, List.set_cons_zero, List.take_succ_eq_append_getElem h, List.map_append, List.append_assoc]
  rfl
theorem cL_same (p : Prg) (i k : Nat) (h : k < (nth p.funcs i).code.length) (hr : reP p i (nth (nth p.funcs i).code k) = nth (nth p.funcs i).code k) : cL p i k = cL p i (k + 1) := by
  rw [← cL_succ p i k h, hr]
  have hk : k < (cL p i k).length := by rw [cL_len p i k (by omega)]; exact h
  rw [← cL_at p i k h, nth_eq _ _ hk]
  exact (List.set_getElem_self hk).symm
theorem mR_end (p : Prg) (i : Nat) (hi : i < p.funcs.length) : mR p i p.funcs.length = (partP p i).main := by
  unfold mR partP
  dsimp only
  by_cases h : (i : Int) = p.main
  · rw [if_pos ⟨hi, h⟩, if_pos h]
  · rw [if_neg (fun h' => h h'.2), if_neg h]
theorem mR_self (p : Prg) (i : Nat) : mR p i (i + 1) = if (i : Int) = p.main then (plc p i i : Int) else -1 := by
  unfold mR
  by_cases h : (i : Int) = p.main
  · rw [if_pos ⟨by omega, h⟩, if_pos h]
  · rw [if_neg (fun h' => h h'.2), if_neg h]
theorem mR_before (p : Prg) (i : Nat) : mR p i i = -1 := by unfold mR; rw [if_neg (by omega)]
theorem mR_other (p : Prg) (i k : Nat) (h : k ≠ i) : mR p i (k + 1) = mR p i k := by
  unfold mR
  by_cases h1 : i < k ∧ (i : Int) = p.main
  · rw [if_pos h1, if_pos ⟨by omega, h1.2⟩]
  · rw [if_neg h1, if_neg (fun h' => h1 ⟨by omega, h'.2⟩)]

/-- The state of a round of the reference's Split, while it looks at the functions. -/
structure RsG (w0 wr : World) (bu bn b7 n : Nat) (vq ug ul : Value) (p : Prg) (i k : Nat) (ss rs : List Slc) (nm : List Int) (m : Int) : Prop where
  q : QFuns 0 w0 wr vq (flP p i k) ss
  globs : OwnE globE w0.heap.size 60 wr ug p.globals
  lays : OwnLays w0.heap.size wr ul p.layouts rs
  box : BoxAt wr b7 26 [vq, ug, ul, .int .i64 m]
  used : OwnE boolE w0.heap.size 4 wr (.slice (some ⟨bu, 0, none⟩) n n) (uL p i (nth p.funcs i).code.length)
  numb : OwnE intE w0.heap.size 3 wr (.slice (some ⟨bn, 0, none⟩) n n) nm
  ge7 : w0.heap.size ≤ b7
  apart : ∀ j, j < p.layouts.length → ∀ b, (nth rs j).val.ownBlock = some b → b ≠ bn
  nils : ∀ j, j < plc p i k → j ≠ plc p i i → nth ss j = ⟨none, 0, 0⟩
  own : i < k → OwnE insE w0.heap.size 43 wr (nth ss (plc p i i)).val (nth p.funcs i).code
abbrev RsSt (w0 wr : World) (bu bn b7 n : Nat) (vq ug ul : Value) (p : Prg) (i k : Nat) (ss rs : List Slc) : Prop := RsG w0 wr bu bn b7 n vq ug ul p i k ss rs (nL p i k) (mR p i k)
section
variable {w0 wr w' : World} {bu bn b7 n : Nat} {vq ug ul v2 : Value} {p : Prg} {i k : Nat} {ss rs : List Slc} {nm : List Int} {m : Int}
theorem RsG.fresh (h : RsG w0 wr bu bn b7 n vq ug ul p i k ss rs nm m) (hb : Below wr.heap.size wr w') : RsG w0 w' bu bn b7 n vq ug ul p i k ss rs nm m :=
  ⟨h.q.fresh hb, h.globs.fresh (Only.below hb none), h.lays.fresh (Only.below hb none), h.box.below hb, h.used.fresh (Only.below hb none), h.numb.fresh (Only.below hb none), h.ge7, h.apart, h.nils, fun hk => (h.own hk).fresh (Only.below hb none)⟩
/-- A function that isn't used. -/
theorem RsG.skip (h : RsSt w0 wr bu bn b7 n vq ug ul p i k ss rs) (hu : usedB p i k = false) : RsSt w0 wr bu bn b7 n vq ug ul p i (k + 1) ss rs := by
  have hki : k ≠ i := fun e => by subst e; rw [used_self] at hu; cases hu
  refine ⟨by rw [flP_succ, hu]; simpa using h.q, h.globs, h.lays, by rw [mR_other p i k hki]; exact h.box, h.used, by rw [← nL_no p i k hu]; exact h.numb, h.ge7, h.apart, by rw [plc_succ, hu]; simpa using h.nils, fun hk => h.own (by omega)⟩
/-- The number of a used one. -/
theorem RsG.num (h : RsSt w0 wr bu bn b7 n vq ug ul p i k ss rs) (hk : k < p.funcs.length) (hu : usedB p i k = true) : RsG w0 (wr.setCell ⟨bn, k, none⟩ (.int .i64 (plc p i k))) bu bn b7 n vq ug ul p i k ss rs (nL p i (k + 1)) (mR p i k) := by
  have hS : Only (some bn) wr (wr.setCell ⟨bn, k, none⟩ (.int .i64 (plc p i k))) := Only.store wr bn k _
  have hge : w0.heap.size ≤ bn := (h.numb.lt bn rfl).1
  have ne : ∀ {α : Type} {E : Enc α} {base : Nat} {e : TypeId} {v : Value} {l : List α}, OwnE E base e wr v l → e ≠ 3 → ∀ q, v.ownBlock = some q → some q ≠ some bn := fun h' he => h'.neRow h.numb he
  refine ⟨h.q.only hS ((Below.refl w0.heap.size wr).setCell (p := ⟨bn, k, none⟩) hge _) (ne h.q.row (by decide)) (fun c u hc => ne hc (by decide)), h.globs.only hS (ne h.globs (by decide)), h.lays.only hS (ne h.lays.row (by decide)) (fun j hj q hq e => h.apart j hj q hq (by simpa using e)), h.box.only hS (fun e => ?_), h.used.only hS (ne h.used (by decide)), ?_, h.ge7, h.apart, h.nils, fun hk => (h.own hk).only hS (ne (h.own hk) (by decide))⟩
  · exact h.numb.neBox h.box (by decide) bn rfl e.symm
  · have := h.numb.put k 0 (.int .i64 (plc p i k)) (plc p i k : Int) (by rw [nL_len]; exact hk) (by decide) rfl
    rw [nL_yes p i k hu] at this
    simpa [intE] using this
theorem RsG.ne7 (h : RsG w0 wr bu bn b7 n vq ug ul p i k ss rs nm m) {α : Type} {E : Enc α} {base : Nat} {e : TypeId} {v : Value} {l : List α} (h' : OwnE E base e wr v l) (he : e ≠ 26) : ∀ q, v.ownBlock = some q → some q ≠ some b7 := h'.neBox h.box he
theorem RsG.setMain (h : RsG w0 wr bu bn b7 n vq ug ul p i k ss rs nm m) (m' : Int) : RsG w0 (wr.setCell ⟨b7, 3, none⟩ (.int .i64 m')) bu bn b7 n vq ug ul p i k ss rs nm m' := by
  have hS : Only (some b7) wr (wr.setCell ⟨b7, 3, none⟩ (.int .i64 m')) := Only.store _ _ _ _
  exact ⟨h.q.only hS ((Below.refl w0.heap.size wr).setCell (p := ⟨b7, 3, none⟩) h.ge7 _) (h.ne7 h.q.row (by decide)) (fun c u hc => h.ne7 hc (by decide)), h.globs.only hS (h.ne7 h.globs (by decide)), h.lays.only hS (h.ne7 h.lays.row (by decide)) (fun j hj => h.ne7 (h.lays.each j hj) (by decide)), h.box.set 3 _, h.used.only hS (h.ne7 h.used (by decide)), h.numb.only hS (h.ne7 h.numb (by decide)), h.ge7, h.apart, h.nils, fun hk => (h.own hk).only hS (h.ne7 (h.own hk) (by decide))⟩
/-- A store into a variable that holds a function. -/
theorem RsG.far {b10 kk : Nat} {vs : List Value} (h : RsG w0 wr bu bn b7 n vq ug ul p i k ss rs nm m) (hx : BoxAt wr b10 41 vs) (hq : ∀ q, vq.ownBlock = some q → q ≠ b10) (h7 : b7 ≠ b10) (hge : w0.heap.size ≤ b10) (u : Value) : RsG w0 (wr.setCell ⟨b10, kk, none⟩ u) bu bn b7 n vq ug ul p i k ss rs nm m := by
  have hS : Only (some b10) wr (wr.setCell ⟨b10, kk, none⟩ u) := Only.store _ _ _ _
  have ne : ∀ {α : Type} {E : Enc α} {base : Nat} {e : TypeId} {v : Value} {l : List α}, OwnE E base e wr v l → e ≠ 41 → ∀ q, v.ownBlock = some q → some q ≠ some b10 := fun h' he => h'.neBox hx he
  exact ⟨h.q.only hS ((Below.refl w0.heap.size wr).setCell (p := ⟨b10, kk, none⟩) hge _) (fun q hq' e => hq q hq' (by simpa using e)) (fun c u hc => ne hc (by decide)), h.globs.only hS (ne h.globs (by decide)), h.lays.only hS (ne h.lays.row (by decide)) (fun j hj => ne (h.lays.each j hj) (by decide)), h.box.only hS (fun e => h7 (by simpa using e)), h.used.only hS (ne h.used (by decide)), h.numb.only hS (ne h.numb (by decide)), h.ge7, h.apart, h.nils, fun hk => (h.own hk).only hS (ne (h.own hk) (by decide))⟩
/-- A used function appended. -/
theorem RsG.add {f : Fun} {s : Slc} (h : RsG w0 wr bu bn b7 n vq ug ul p i k ss rs (nL p i (k + 1)) (mR p i (k + 1))) (hu : usedB p i k = true) (hf : f = partF0 p i k) (hs0 : k ≠ i → s = ⟨none, 0, 0⟩)
    (hg : wr.grownBy w' vq.ownBlock) (hrow : OwnE funE w0.heap.size 41 w' v2 ((flP p i k).zip ss ++ [(f, s)]))
    (hc : OwnE insE w0.heap.size 43 wr s.val f.code) : RsSt w0 (w'.setCell ⟨b7, 0, none⟩ v2) bu bn b7 n v2 ug ul p i (k + 1) (ss ++ [s]) rs := by
  have hO : Only vq.ownBlock wr w' := Only.grown hg
  have hS : Only (some b7) w' (w'.setCell ⟨b7, 0, none⟩ v2) := Only.store _ _ _ _
  have hq := h.q.snoc hg hrow (.inr hc)
  have hx : BoxAt w' b7 _ _ := h.box.only hO (h.box.neRow h.q.row (by decide))
  have ks : ∀ {α : Type} {E : Enc α} {base : Nat} {e : TypeId} {v : Value} {l : List α}, OwnE E base e wr v l → e ≠ 41 → OwnE E base e w' v l := fun h' he => h'.only hO (h'.neRow h.q.row he)
  have n7 : ∀ {α : Type} {E : Enc α} {base : Nat} {e : TypeId} {v : Value} {l : List α}, OwnE E base e w' v l → e ≠ 26 → ∀ q, v.ownBlock = some q → some q ≠ some b7 := fun h' he => h'.neBox hx he
  have l2 : OwnLays w0.heap.size w' ul p.layouts rs := h.lays.only hO (h.lays.row.neRow h.q.row (by decide)) (fun j hj => (h.lays.each j hj).neRow h.q.row (by decide))
  have hl : ss.length = plc p i k := by rw [h.q.len, flP_len]
  refine ⟨?_, (ks h.globs (by decide)).only hS (n7 (ks h.globs (by decide)) (by decide)), l2.only hS (n7 l2.row (by decide)) (fun j hj => n7 (l2.each j hj) (by decide)), hx.set 0 v2, (ks h.used (by decide)).only hS (n7 (ks h.used (by decide)) (by decide)), (ks h.numb (by decide)).only hS (n7 (ks h.numb (by decide)) (by decide)), h.ge7, h.apart, fun j hj hji => ?_, fun hk => ?_⟩
  · rw [flP_succ, if_pos hu, ← hf]
    exact hq.only hS ((Below.refl _ _).setCell h.ge7 _) (n7 hq.row (by decide)) (fun c u hc => n7 hc (by decide))
  · rw [plc_succ, if_pos hu] at hj
    rcases Nat.lt_or_ge j (plc p i k) with h1 | h1
    · rw [nth_snoc_lt _ _ _ (by rw [hl]; exact h1)]; exact h.nils j h1 hji
    · rw [nth_snoc_eq _ _ _ (by rw [hl]; omega)]
      exact hs0 (fun e => hji (by subst e; omega))
  · by_cases e : k = i
    · subst e
      rw [nth_snoc_eq _ _ _ hl.symm]
      have hc2 := ks hc (by decide)
      rw [hf, show (partF0 p k k).code = (nth p.funcs k).code by unfold partF0; rw [if_pos rfl]] at hc2
      exact hc2.only hS (n7 hc2 (by decide))
    · have hik : i < k := by omega
      have hpl : plc p i i < ss.length := by
        rw [hl]
        have h1 := plc_succ p i i
        rw [used_self, if_pos rfl] at h1
        have mono : ∀ d, plc p i (i + 1) ≤ plc p i (i + 1 + d) := by
          intro d
          induction d with
          | zero => exact Nat.le_refl _
          | succ d ih =>
            have h4 := plc_succ p i (i + 1 + d)
            rw [show i + 1 + d + 1 = i + 1 + (d + 1) by omega] at h4
            rw [h4]
            exact Nat.le_trans ih (Nat.le_add_right _ _)
        have h2 := mono (k - (i + 1))
        rw [show i + 1 + (k - (i + 1)) = k by omega] at h2
        omega
      rw [nth_snoc_lt _ _ _ hpl]
      have hc2 := ks (h.own hik) (by decide)
      exact hc2.only hS (n7 hc2 (by decide))
end

/-- All functions have been looked at; the code of the function itself is renumbered in place. -/
structure RsF (w0 wr : World) (bn b7 n g cc : Nat) (vq ug ul : Value) (p : Prg) (i : Nat) (ss rs : List Slc) (c : List Ins) : Prop where
  low : Below w0.heap.size w0 wr
  slen : ss.length = plc p i p.funcs.length
  row : OwnE funE w0.heap.size 41 wr vq ((flP p i p.funcs.length).zip ss)
  globs : OwnE globE w0.heap.size 60 wr ug p.globals
  lays : OwnLays w0.heap.size wr ul p.layouts rs
  box : BoxAt wr b7 26 [vq, ug, ul, .int .i64 (partP p i).main]
  numb : OwnE intE w0.heap.size 3 wr (.slice (some ⟨bn, 0, none⟩) n n) (nL p i p.funcs.length)
  code : OwnE insE w0.heap.size 43 wr (.slice (some ⟨g, 0, none⟩) (nth p.funcs i).code.length cc) c
  self : nth ss (plc p i i) = ⟨some ⟨g, 0, none⟩, (nth p.funcs i).code.length, cc⟩
  nils : ∀ j, j < plc p i p.funcs.length → j ≠ plc p i i → nth ss j = ⟨none, 0, 0⟩
section
variable {w0 wr w' : World} {bu bn b7 n g cc : Nat} {vq ug ul : Value} {p : Prg} {i : Nat} {ss rs : List Slc} {c : List Ins}
theorem RsG.done (h : RsSt w0 wr bu bn b7 n vq ug ul p i p.funcs.length ss rs) (hi : i < p.funcs.length) (hc : 0 < (nth p.funcs i).code.length) : ∃ g cc, RsF w0 wr bn b7 n g cc vq ug ul p i ss rs (cL p i 0) := by
  obtain ⟨g, cc, e, -, -⟩ := (h.own hi).open hc
  have hs : nth ss (plc p i i) = ⟨some ⟨g, 0, none⟩, (nth p.funcs i).code.length, cc⟩ := by
    obtain ⟨e1, e2, e3⟩ := Value.slice.inj e
    cases hq : nth ss (plc p i i)
    rw [hq] at e1 e2 e3
    simp only at e1 e2 e3
    rw [e1, e2, e3]
  refine ⟨g, cc, h.q.low, by rw [h.q.len, flP_len], h.q.row, h.globs, h.lays, by rw [← mR_end p i hi]; exact h.box, h.numb, ?_, hs, h.nils⟩
  rw [cL_zero, ← e]
  exact h.own hi
theorem RsF.fresh (h : RsF w0 wr bn b7 n g cc vq ug ul p i ss rs c) (hb : Below wr.heap.size wr w') : RsF w0 w' bn b7 n g cc vq ug ul p i ss rs c :=
  ⟨h.low.trans (hb.mono h.low.size), h.slen, h.row.fresh (Only.below hb none), h.globs.fresh (Only.below hb none), h.lays.fresh (Only.below hb none), h.box.below hb, h.numb.fresh (Only.below hb none), h.code.fresh (Only.below hb none), h.self, h.nils⟩
theorem RsF.put (h : RsF w0 wr bn b7 n g cc vq ug ul p i ss rs c) (k : Nat) (hk : k < c.length) (v : Int) : RsF w0 (wr.setCell ⟨g, k * 5 + 2, none⟩ (.int .i64 v)) bn b7 n g cc vq ug ul p i ss rs (c.set k { nth c k with b := v }) := by
  have hS : Only (some g) wr (wr.setCell ⟨g, k * 5 + 2, none⟩ (.int .i64 v)) := Only.store _ _ _ _
  have hge : w0.heap.size ≤ g := (h.code.lt g rfl).1
  have ne : ∀ {α : Type} {E : Enc α} {base : Nat} {e : TypeId} {v : Value} {l : List α}, OwnE E base e wr v l → e ≠ 43 → ∀ q, v.ownBlock = some q → some q ≠ some g := fun h' he => h'.neRow h.code he
  refine ⟨h.low.setCell hge _, h.slen, h.row.only hS (ne h.row (by decide)), h.globs.only hS (ne h.globs (by decide)), h.lays.only hS (ne h.lays.row (by decide)) (fun j hj => ne (h.lays.each j hj) (by decide)), h.box.only hS (fun e => ?_), h.numb.only hS (ne h.numb (by decide)), ?_, h.self, h.nils⟩
  · exact h.code.neBox h.box (by decide) g rfl e.symm
  · exact h.code.put k 2 (.int .i64 v) _ hk (by decide) rfl
/-- The row reads as the part's functions. -/
theorem zip_code {l : List Fun} {ss : List Slc} {F : Nat} {c : List Ins} : ((l.set F { nth l F with code := c }).zip ss).flatMap funE.enc = (l.zip ss).flatMap funE.enc := by
  have h : ((l.set F { nth l F with code := c }).zip ss).map funE.enc = (l.zip ss).map funE.enc := by
    apply List.ext_getElem (by simp)
    intro j h1 h2
    simp only [List.getElem_map, List.getElem_zip, List.getElem_set]
    split
    · next e =>
      subst e
      have hj : F < l.length := by
        rw [List.length_map, List.length_zip] at h2
        omega
      have hjs : F < ss.length := by
        rw [List.length_map, List.length_zip] at h2
        omega
      have e2 : nth l F = l[F] := nth_eq _ _ hj
      show funE.enc ({ name := (nth l F).name, params := (nth l F).params, regs := (nth l F).regs, code := c }, ss[F]) = funE.enc (l[F], ss[F])
      rw [← e2]
      rfl
    · rfl
  rw [List.flatMap_def, List.flatMap_def, h]
theorem RsF.part (h : RsF w0 wr bn b7 n g cc vq ug ul p i ss rs (cL p i (nth p.funcs i).code.length)) (hi : i < p.funcs.length) : PartQ w0.heap.size wr vq ug ul (partP p i) := by
  have hset := flP_set p i hi
  have hat := flP_at p i hi
  have hlen : (partP p i).funcs.length = plc p i p.funcs.length := by rw [← hset, List.length_set, flP_len]
  refine ⟨⟨ss, by rw [hlen, h.slen], ?_, fun j hj => ?_⟩, h.globs, ⟨rs, h.lays⟩⟩
  · have e : (partP p i).funcs.zip ss = ((flP p i p.funcs.length).set (plc p i i) { nth (flP p i p.funcs.length) (plc p i i) with code := (nth p.funcs i).code.map (reP p i) }).zip ss := by rw [← hset, hat.2]
    have hr := h.row
    unfold OwnE at hr ⊢
    rw [e, zip_code]
    rw [show (((flP p i p.funcs.length).set (plc p i i) { nth (flP p i p.funcs.length) (plc p i i) with code := (nth p.funcs i).code.map (reP p i) }).zip ss).length = ((flP p i p.funcs.length).zip ss).length by simp]
    exact hr
  · by_cases e : j = plc p i i
    · subst e
      rw [h.self, ← hset, nth_set_eqQ _ _ _ hat.1]
      have hc := h.code
      rw [cL_end] at hc
      exact hc
    · rw [h.nils j (by rw [← hlen]; exact hj) e, ← hset, nth_set_neQ _ _ _ _ (fun h => e h.symm)]
      have hj2 : j < (usL p i).length := by rw [← part_len]; exact hj
      have hfl : nth (flP p i p.funcs.length) j = partF0 p i (nth (usL p i) j) := by unfold flP; exact nth_map _ _ _ hj2
      have hne : nth (usL p i) j ≠ i := fun e2 => by
        have h3 := (us_at hj2).2.2
        rw [e2] at h3
        exact e h3.symm
      rw [hfl]
      unfold partF0
      rw [if_neg hne]
      exact OwnE.nil _ _ _ _
end
end Go.Proofs.Ytealeofgfgbheaa
