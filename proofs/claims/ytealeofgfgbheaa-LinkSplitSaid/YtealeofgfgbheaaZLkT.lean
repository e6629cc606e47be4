/-
  The state of link.part, and the function value that gives the places.
-/
import Derived.Test.YtealeofgfgbheaaZJok
import Derived.Test.YtealeofgfgbheaaZLkN
import Derived.Test.YtealeofgfgbheaaZLkQ
import Derived.Test.YtealeofgfgbheaaZLkS
namespace Go.Proofs.Ytealeofgfgbheaa
set_option linter.unusedVariables false
set_option linter.unusedSimpArgs false
open Go.RowKit

section
variable {κ α : Type} {K : KeyT κ}
theorem OwnE.neMapN {E : Enc α} {base : Nat} {e : TypeId} {w : World} {v : Value} {l : List α} {b c : Nat} {F : κ → Option Int} (h : OwnE E base e w v l) (hm : MapN K w b c F) : ∀ k, v.ownBlock = some k → some k ≠ some b := by
  intro k hk he
  obtain ⟨es, clock, h1⟩ := hm.isMap
  obtain ⟨cur, h2⟩ := h.typed k hk
  cases he
  rw [h1] at h2
  cases h2
theorem BoxAt.neMapN {w : World} {b' : Nat} {t : TypeId} {vs : List Value} {b c : Nat} {F : κ → Option Int} (h : BoxAt w b' t vs) (hm : MapN K w b c F) : some b' ≠ some b := by
  intro he
  obtain ⟨es, clock, h1⟩ := hm.isMap
  cases he
  unfold BoxAt at h
  rw [h1] at h
  cases h
theorem MapN.neRow {E : Enc α} {base : Nat} {e : TypeId} {w : World} {v : Value} {l : List α} {b c : Nat} {F : κ → Option Int} (hm : MapN K w b c F) (h : OwnE E base e w v l) : some b ≠ v.ownBlock :=
  fun he => h.neMapN hm b he.symm rfl
end
theorem OwnLays.neOnly {base : Nat} {w w' : World} {v : Value} {l : List (List Int)} {ss : List Slc} {row : Option Nat} (h : OwnLays base w v l ss) (ho : Only row w w') (hr : ∀ {α : Type} {E : Enc α} {e : TypeId} {u : Value} {c : List α}, (e = 45 ∨ e = 3) → OwnE E base e w u c → ∀ k, u.ownBlock = some k → some k ≠ row) : OwnLays base w' v l ss :=
  h.only ho (hr (.inl rfl) h.row) (fun i hi => hr (.inr rfl) (h.each i hi))

theorem infoRow12 : (Try.prog.info? 45).map (fun i => (i.zero, i.size, i.bytes)) = some (some (.slice none 0 0), 1, 24) := by kernel_rfl
set_option maxRecDepth 100000 in
theorem part1_calls (bC bP cP : Nat) (F : Int → Option Int) (op n : Int) (w : World) (hc : w.cell? ⟨bC, 0, none⟩ = some (.map (some bP))) (hl : bC < w.heap.size) (hm : MapN intK w bP cP F) (hn : I64 n) :
    Calls Try.prog 57 #[.int .i64 op, .int .i64 n, .pointer (some ⟨bC, 0, none⟩)] w fun e w' => e = .returned (.int .i64 (if op = 18 ∨ op = 21 then n else (F n).getD 0)) ∧ Below w.heap.size w w' := by
  have HM := hid hm
  have HN := hid hn
  clear hm hn
  by_cases h18 : op = 18
  · have e1 : (op == 18) = true := by simp [h18]
    rw [if_pos (.inl h18)]
    clear h18
    go_enter Try.func57, Try.ntmps57
    go_wp2_with fail
    go_ret
    exact ⟨rfl, Below.refl _ _⟩
  · have e1 : (op == 18) = false := by simp [h18]
    by_cases h21 : op = 21
    · have e2 : (op == 21) = true := by simp [h21]
      rw [if_pos (.inr h21)]
      clear h18 h21
      go_enter Try.func57, Try.ntmps57
      go_wp2_with fail
      go_ret
      exact ⟨rfl, Below.refl _ _⟩
    · have e2 : (op == 21) = false := by simp [h21]
      rw [if_neg (fun h => h.elim h18 h21)]
      clear h18 h21
      go_enter Try.func57, Try.ntmps57
      go_wp2_with (
        at_lookup
        refine wpList_look_N (K := intK) rfl _ _ 84 rfl Try.underlying84 rfl HM.out n rfl HN.out ?_)
      go_ret
      exact ⟨rfl, Below.refl _ _⟩

/-- The state of link.part while it copies the layouts. -/
structure P2St (w0 wr : World) (b8 bU cU : Nat) (vf vg vl ug ul : Value) (p : Prg) (i k : Nat) (rs : List Slc) : Prop where
  globs : OwnE globE w0.heap.size 60 wr ug p.globals
  lays : OwnLays w0.heap.size wr ul (p.layouts.take k) rs
  box : BoxAt wr b8 26 [.slice none 0 0, ug, ul, .int .i64 (-1)]
  arg : BoxAt wr w0.heap.size 26 [vf, vg, vl, .int .i64 p.main]
  res : BoxAt wr (w0.heap.size + 1) 26 [.slice none 0 0, .slice none 0 0, .slice none 0 0, .int .i64 0]
  used : MapB intK wr bU cU (usedK p i (nth p.funcs i).code.length)
  low : Below w0.heap.size w0 wr
  ne8 : w0.heap.size + 1 < b8
theorem P2St.fresh {w0 wr w' : World} {b8 bU cU : Nat} {vf vg vl ug ul : Value} {p : Prg} {i k : Nat} {rs : List Slc} (h : P2St w0 wr b8 bU cU vf vg vl ug ul p i k rs) (hb : Below wr.heap.size wr w') : P2St w0 w' b8 bU cU vf vg vl ug ul p i k rs :=
  ⟨h.globs.fresh (Only.below hb none), h.lays.fresh (Only.below hb none), h.box.below hb, h.arg.below hb, h.res.below hb, h.used.below hb, h.low.trans (hb.mono h.low.size), h.ne8⟩
theorem P2St.add {w0 wr w' : World} {b8 bU cU : Nat} {vf vg vl ug ul v2 : Value} {p : Prg} {i k : Nat} {rs : List Slc} {s : Slc} (h : P2St w0 wr b8 bU cU vf vg vl ug ul p i k rs) (hk : k < p.layouts.length)
    (hg : wr.grownBy w' ul.ownBlock) (hrow : OwnE rowE w0.heap.size 45 w' v2 (rs ++ [s])) (hc : OwnE intE w0.heap.size 3 wr s.val (nth p.layouts k)) : P2St w0 (w'.setCell ⟨b8, 2, none⟩ v2) b8 bU cU vf vg vl ug v2 p i (k + 1) (rs ++ [s]) := by
  have hO : Only ul.ownBlock wr w' := Only.grown hg
  have hS : Only (some b8) w' (w'.setCell ⟨b8, 2, none⟩ v2) := Only.store _ _ _ _
  have hx : BoxAt w' b8 _ _ := h.box.only hO (h.box.neRow h.lays.row (by decide))
  have g2 := h.globs.only hO (h.globs.neRow h.lays.row (by decide))
  have a2 := h.arg.only hO (h.arg.neRow h.lays.row (by decide))
  have r2 := h.res.only hO (h.res.neRow h.lays.row (by decide))
  have u2 : MapB intK w' bU cU _ := h.used.grown hg (h.used.neRow h.lays.row)
  have l2 : OwnLays w0.heap.size w' v2 (p.layouts.take k ++ [nth p.layouts k]) (rs ++ [s]) := h.lays.snoc hrow (fun j hj => (h.lays.each j hj).only hO ((h.lays.each j hj).neRow h.lays.row (by decide))) (hc.only hO (hc.neRow h.lays.row (by decide)))
  rw [← take_succ_at _ _ hk] at l2
  have h8 := h.ne8
  exact ⟨g2.only hS (g2.neBox hx (by decide)), l2.onlyBox hS hx (by decide) (by decide), hx.set 2 v2, a2.only hS (by intro e; cases e; omega), r2.only hS (by intro e; cases e; omega), u2.setCell (by intro e; exact (hx.neMap u2) (by rw [e])) _,
    (Below.grownE h.low h.lays.row hg h.low.size (Nat.le_refl _)).setCell (by show _ ≤ b8; omega) _, h.ne8⟩

/-- The state of link.part. -/
structure PtSt (lo : Nat) (w0 wr : World) (b8 bU cU bC bP cP : Nat) (vf vg vl vq ug ul : Value) (p : Prg) (i k : Nat) (ss rs : List Slc) : Prop where
  q : QFuns lo w0 wr vq (flP p i k) ss
  globs : OwnE globE w0.heap.size 60 wr ug p.globals
  lays : OwnLays w0.heap.size wr ul p.layouts rs
  box : BoxAt wr b8 26 [vq, ug, ul, .int .i64 (-1)]
  arg : BoxAt wr w0.heap.size 26 [vf, vg, vl, .int .i64 p.main]
  res : BoxAt wr (w0.heap.size + 1) 26 [.slice none 0 0, .slice none 0 0, .slice none 0 0, .int .i64 0]
  used : MapB intK wr bU cU (usedK p i (nth p.funcs i).code.length)
  cell : BoxAt wr bC 84 [.map (some bP)]
  pl : MapN intK wr bP cP (plF p i k)
  cle : cP ≤ k
  ne8 : w0.heap.size + 1 < b8
  neP : w0.heap.size ≤ bP
  neU : bU ≠ bP
  nils : ∀ j, j < plc p i k → j ≠ plc p i i → nth ss j = ⟨none, 0, 0⟩
/-- A function in a box is made an import. -/
theorem imp_store {wo wA : World} {h : Fun} {vr : Value} {base b8 : Nat} {vq : Value} {l : List (Fun × Slc)} {vs : List Value} (hz : wo.heap.size + 1 ≤ wA.heap.size) (hbx : BoxAt wA wo.heap.size 41 [.string h.name, .int .i64 h.params, .int .i64 h.regs, vr])
    (hr : OwnE funE base 41 wA vq l) (hrl : ∀ q, vq.ownBlock = some q → q < wo.heap.size) (hx : BoxAt wA b8 26 vs) (h8 : b8 < wo.heap.size) :
    BoxAt ((((wA.setCell ⟨wo.heap.size, 0, none⟩ (.string h.name)).setCell ⟨wo.heap.size, 1, none⟩ (.int .i64 h.params)).setCell ⟨wo.heap.size, 2, none⟩ (.int .i64 h.params)).setCell ⟨wo.heap.size, 3, none⟩ (.slice none 0 0)) wo.heap.size 41 [.string h.name, .int .i64 h.params, .int .i64 h.params, .slice none 0 0] ∧ Below wo.heap.size wA (((((wA.setCell ⟨wo.heap.size, 0, none⟩ (.string h.name)).setCell ⟨wo.heap.size, 1, none⟩ (.int .i64 h.params)).setCell ⟨wo.heap.size, 2, none⟩ (.int .i64 h.params)).setCell ⟨wo.heap.size, 3, none⟩ (.slice none 0 0)).alloc (.cells #[.string h.name, .int .i64 h.params, .int .i64 h.params, .slice none 0 0] 41)) ∧ OwnE funE base 41 (((((wA.setCell ⟨wo.heap.size, 0, none⟩ (.string h.name)).setCell ⟨wo.heap.size, 1, none⟩ (.int .i64 h.params)).setCell ⟨wo.heap.size, 2, none⟩ (.int .i64 h.params)).setCell ⟨wo.heap.size, 3, none⟩ (.slice none 0 0)).alloc (.cells #[.string h.name, .int .i64 h.params, .int .i64 h.params, .slice none 0 0] 41)) vq l ∧ BoxAt (((((wA.setCell ⟨wo.heap.size, 0, none⟩ (.string h.name)).setCell ⟨wo.heap.size, 1, none⟩ (.int .i64 h.params)).setCell ⟨wo.heap.size, 2, none⟩ (.int .i64 h.params)).setCell ⟨wo.heap.size, 3, none⟩ (.slice none 0 0)).alloc (.cells #[.string h.name, .int .i64 h.params, .int .i64 h.params, .slice none 0 0] 41)) b8 26 vs ∧ BoxAt ((((wA.setCell ⟨wo.heap.size, 0, none⟩ (.string h.name)).setCell ⟨wo.heap.size, 1, none⟩ (.int .i64 h.params)).setCell ⟨wo.heap.size, 2, none⟩ (.int .i64 h.params)).setCell ⟨wo.heap.size, 3, none⟩ (.slice none 0 0)) b8 26 vs := by
  have st : ∀ (x : World) (k : Nat) (u : Value), Below wo.heap.size x (x.setCell ⟨wo.heap.size, k, none⟩ u) := fun x k u => (Below.refl wo.heap.size x).setCell (p := ⟨wo.heap.size, k, none⟩) (Nat.le_refl _) u
  have hst4 := (((st wA 0 (.string h.name)).trans (st _ 1 (.int .i64 h.params))).trans (st _ 2 (.int .i64 h.params))).trans (st _ 3 (.slice none 0 0))
  have hbx4 := (((hbx.set 0 (.string h.name)).set 1 (.int .i64 h.params)).set 2 (.int .i64 h.params)).set 3 (.slice none 0 0)
  have sO : ∀ (x : World) (k : Nat) (u : Value), Only (some wo.heap.size) x (x.setCell ⟨wo.heap.size, k, none⟩ u) := fun x k u => Only.store x _ k u
  have hO4 := (((sO wA 0 (.string h.name)).trans (sO _ 1 (.int .i64 h.params))).trans (sO _ 2 (.int .i64 h.params))).trans (sO _ 3 (.slice none 0 0))
  have hr4 := hr.only hO4 (fun q hq e => by have := hrl q hq; cases e; omega)
  have hx4 := hx.only hO4 (fun e => by cases e; omega)
  exact ⟨hbx4, hst4.alloc (Nat.le_trans (by omega) hst4.size) _, hr4.alloc _, hx4.alloc _, hx4⟩

section
variable {lo : Nat} {w0 wr w' : World} {b8 bU cU bC bP cP : Nat} {vf vg vl vq ug ul v2 : Value} {p : Prg} {i k : Nat} {ss rs : List Slc}
theorem PtSt.fresh (h : PtSt lo w0 wr b8 bU cU bC bP cP vf vg vl vq ug ul p i k ss rs) (hb : Below wr.heap.size wr w') : PtSt lo w0 w' b8 bU cU bC bP cP vf vg vl vq ug ul p i k ss rs :=
  ⟨h.q.fresh hb, h.globs.fresh (Only.below hb none), h.lays.fresh (Only.below hb none), h.box.below hb, h.arg.below hb, h.res.below hb, h.used.below hb, h.cell.below hb, h.pl.below hb, h.cle, h.ne8, h.neP, h.neU, h.nils⟩
/-- A function that isn't used. -/
theorem PtSt.skip (h : PtSt lo w0 wr b8 bU cU bC bP cP vf vg vl vq ug ul p i k ss rs) (hu : usedB p i k = false) : PtSt lo w0 wr b8 bU cU bC bP cP vf vg vl vq ug ul p i (k + 1) ss rs :=
  ⟨by rw [flP_succ, hu]; simpa using h.q, h.globs, h.lays, h.box, h.arg, h.res, h.used, h.cell, h.pl.congr (plF_no p i k hu), by have := h.cle; omega, h.ne8, h.neP, h.neU, by rw [plc_succ, hu]; simpa using h.nils⟩
/-- A used one: its place, then the function itself. -/
theorem PtSt.add {s : Slc} {wA : World} {f : Fun} (h : PtSt lo w0 wr b8 bU cU bC bP cP vf vg vl vq ug ul p i k ss rs) (hu : usedB p i k = true) (hf : f = partF0 p i k) (hs0 : k ≠ i → s = ⟨none, 0, 0⟩)
    (hOP : Only (some bP) wr wA) (hlA : Below w0.heap.size wr wA) (hmP : MapN intK wA bP (cP + 1) (fun j => if j = (k : Int) then some (plc p i k : Int) else plF p i k j)) {wB : World} (hbB : Below wr.heap.size wA wB)
    (hg : wB.grownBy w' vq.ownBlock) (hrow : OwnE funE w0.heap.size 41 w' v2 ((flP p i k).zip ss ++ [(f, s)]))
    (hc : CodeAt lo w0 s.val f.code ∨ OwnE insE w0.heap.size 43 wB s.val f.code) : PtSt lo w0 (w'.setCell ⟨b8, 0, none⟩ v2) b8 bU cU bC bP (cP + 1) vf vg vl v2 ug ul p i (k + 1) (ss ++ [s]) rs := by
  have hOB : Only (some bP) wr wB := ⟨Nat.le_trans hOP.1 hbB.size, fun q hq hr => (hbB.block q hq).trans (hOP.2 q hq hr)⟩
  have hlow : Below w0.heap.size wr wB := hlA.trans (hbB.mono h.q.low.size)
  have qB : QFuns lo w0 wB vq (flP p i k) ss := h.q.only hOB hlow (h.q.row.neMapN h.pl) (fun _ _ hc => hc.neMapN h.pl)
  have gB := h.globs.only hOB (h.globs.neMapN h.pl)
  have lB : OwnLays w0.heap.size wB ul p.layouts rs := h.lays.only hOB (h.lays.row.neMapN h.pl) (fun j hj => (h.lays.each j hj).neMapN h.pl)
  have xB := h.box.only hOB (h.box.neMapN h.pl)
  have aB := h.arg.only hOB (h.arg.neMapN h.pl)
  have rB := h.res.only hOB (h.res.neMapN h.pl)
  have cB := h.cell.only hOB (h.cell.neMapN h.pl)
  have uB : MapB intK wB bU cU _ := h.used.block (hOB.2 bU h.used.lt (fun e => h.neU (by simpa using e)))
  have pB : MapN intK wB bP (cP + 1) (plF p i (k + 1)) := (hmP.block (hbB.block bP h.pl.lt)).congr (plF_yes p i k hu)
  have hO : Only vq.ownBlock wB w' := Only.grown hg
  have hS : Only (some b8) w' (w'.setCell ⟨b8, 0, none⟩ v2) := Only.store _ _ _ _
  have hq := qB.snoc hg hrow hc
  have hx : BoxAt w' b8 _ _ := xB.only hO (xB.neRow qB.row (by decide))
  have g2 := gB.only hO (gB.neRow qB.row (by decide))
  have l2 : OwnLays w0.heap.size w' ul p.layouts rs := lB.only hO (lB.row.neRow qB.row (by decide)) (fun j hj => (lB.each j hj).neRow qB.row (by decide))
  have a2 := aB.only hO (aB.neRow qB.row (by decide))
  have r2 := rB.only hO (rB.neRow qB.row (by decide))
  have c2 := cB.only hO (cB.neRow qB.row (by decide))
  have u2 : MapB intK w' bU cU _ := uB.grown hg (uB.neRow qB.row)
  have p2 : MapN intK w' bP (cP + 1) _ := pB.grown hg (pB.neRow qB.row)
  have h8 := h.ne8
  refine ⟨?_, g2.only hS (g2.neBox hx (by decide)), l2.onlyBox hS hx (by decide) (by decide), hx.set 0 v2, a2.only hS (by intro e; cases e; omega), r2.only hS (by intro e; cases e; omega), u2.setCell (by intro e; exact (hx.neMap u2) (by rw [e])) _, c2.only hS (c2.neBox hx (by decide)), p2.setCell (by intro e; exact (hx.neMapN p2) (by rw [e])) _, by have := h.cle; omega, h.ne8, h.neP, h.neU, fun j hj hji => ?_⟩
  · rw [flP_succ, if_pos hu, ← hf]
    exact hq.onlyBox hS ((Below.refl _ _).setCell (by show _ ≤ b8; omega) _) hx (by decide) (by decide)
  · have hl : ss.length = plc p i k := by rw [h.q.len, flP_len]
    rw [plc_succ, if_pos hu] at hj
    rcases Nat.lt_or_ge j (plc p i k) with h1 | h1
    · rw [nth_snoc_lt _ _ _ (by rw [hl]; exact h1)]; exact h.nils j h1 hji
    · rw [nth_snoc_eq _ _ _ (by rw [hl]; omega)]
      exact hs0 (fun e => hji (by subst e; omega))
end

/-- link.part when all functions have been looked at. -/
structure PfSt (lo : Nat) (w0 wr : World) (b8 bC bP cP : Nat) (vf vg vl vq ug ul : Value) (p : Prg) (i : Nat) (m : Int) (ss rs : List Slc) : Prop where
  q : QFuns lo w0 wr vq (flP p i p.funcs.length) ss
  globs : OwnE globE w0.heap.size 60 wr ug p.globals
  lays : OwnLays w0.heap.size wr ul p.layouts rs
  box : BoxAt wr b8 26 [vq, ug, ul, .int .i64 m]
  arg : BoxAt wr w0.heap.size 26 [vf, vg, vl, .int .i64 p.main]
  res : BoxAt wr (w0.heap.size + 1) 26 [.slice none 0 0, .slice none 0 0, .slice none 0 0, .int .i64 0]
  cell : BoxAt wr bC 84 [.map (some bP)]
  pl : MapN intK wr bP cP (plF p i p.funcs.length)
  ne8 : w0.heap.size + 1 < b8
  nils : ∀ j, j < plc p i p.funcs.length → j ≠ plc p i i → nth ss j = ⟨none, 0, 0⟩
section
variable {lo : Nat} {w0 wr w' : World} {b8 bU cU bC bP cP : Nat} {vf vg vl vq ug ul v2 : Value} {p : Prg} {i : Nat} {m : Int} {ss rs : List Slc}
theorem PtSt.done (h : PtSt lo w0 wr b8 bU cU bC bP cP vf vg vl vq ug ul p i p.funcs.length ss rs) : PfSt lo w0 wr b8 bC bP cP vf vg vl vq ug ul p i (-1) ss rs :=
  ⟨h.q, h.globs, h.lays, h.box, h.arg, h.res, h.cell, h.pl, h.ne8, h.nils⟩
theorem PfSt.setMain (h : PfSt lo w0 wr b8 bC bP cP vf vg vl vq ug ul p i m ss rs) (m' : Int) : PfSt lo w0 (wr.setCell ⟨b8, 3, none⟩ (.int .i64 m')) b8 bC bP cP vf vg vl vq ug ul p i m' ss rs := by
  have hS : Only (some b8) wr (wr.setCell ⟨b8, 3, none⟩ (.int .i64 m')) := Only.store _ _ _ _
  have h8 := h.ne8
  exact ⟨h.q.onlyBox hS ((Below.refl w0.heap.size wr).setCell (p := ⟨b8, 3, none⟩) (by show _ ≤ b8; omega) _) h.box (by decide) (by decide), h.globs.only hS (h.globs.neBox h.box (by decide)), h.lays.onlyBox hS h.box (by decide) (by decide), h.box.set 3 _, h.arg.only hS (by intro e; cases e; omega), h.res.only hS (by intro e; cases e; omega), h.cell.only hS (h.cell.neBox h.box (by decide)), h.pl.setCell (by intro e; exact (h.box.neMapN h.pl) (by rw [e])) _, h.ne8, h.nils⟩
theorem PfSt.fresh (h : PfSt lo w0 wr b8 bC bP cP vf vg vl vq ug ul p i m ss rs) (hb : Below wr.heap.size wr w') : PfSt lo w0 w' b8 bC bP cP vf vg vl vq ug ul p i m ss rs :=
  ⟨h.q.fresh hb, h.globs.fresh (Only.below hb none), h.lays.fresh (Only.below hb none), h.box.below hb, h.arg.below hb, h.res.below hb, h.cell.below hb, h.pl.below hb, h.ne8, h.nils⟩
end

/-- A function that an instruction names exists. -/
theorem call_range {p : Prg} {f : Fun} {x : Ins} (h : instrB p f x = true) (hc : callB x.op = true) : 0 ≤ x.b ∧ x.b < p.funcs.length := by
  have h0 : x.op = 26 ∨ x.op = 28 ∨ x.op = 31 ∨ x.op = 24 := by simpa [callB] using hc
  simp only [instrB, Bool.and_eq_true] at h
  have h1 := h.2.2.2.1
  rcases h0 with e | e | e | e <;> rw [e] at h1
  · rw [show roleN 26 1 = 102 from rfl] at h1
    simp [operandB] at h1
    exact ⟨h1.1, h1.2.1⟩
  · rw [show roleN 28 1 = 102 from rfl] at h1
    simp [operandB] at h1
    exact ⟨h1.1, h1.2.1⟩
  · rw [show roleN 31 1 = 102 from rfl] at h1
    simp [operandB] at h1
    exact ⟨h1.1, h1.2.1⟩
  · rw [show roleN 24 1 = 49 from rfl] at h1
    simp [operandB] at h1
    exact ⟨h1.1, h1.2.1⟩
/-- What the function value says. -/
def numP (p : Prg) (i : Nat) (op n : Int) : Int := if op = 18 ∨ op = 21 then n else (plF p i p.funcs.length n).getD 0
theorem reP_eq {p : Prg} {i : Nat} (hv : validB p = true) (hi : i < p.funcs.length) : (nth p.funcs i).code.map (reI (numP p i)) = (nth p.funcs i).code.map (reP p i) := by
  have hk := fok_of_funcB (valid_func hv i hi)
  refine List.map_congr_left fun x hx => ?_
  obtain ⟨k, hk1, hk2⟩ := List.getElem_of_mem hx
  have hins := hk.ins k hk1
  rw [nth_eq _ _ hk1, hk2] at hins
  unfold reI reP
  cases hc : callB x.op with
  | true =>
    have h0 : x.op = 26 ∨ x.op = 28 ∨ x.op = 31 ∨ x.op = 24 := by simpa [callB] using hc
    obtain ⟨h1, h2⟩ := call_range hins hc
    have hu : usedB p i x.b.toNat = true := by
      unfold usedB
      rw [Bool.or_eq_true]
      refine .inr ?_
      rw [List.any_eq_true]
      refine ⟨x, hx, ?_⟩
      rw [hc]
      simp
      omega
    rw [if_pos (by unfold Num6; omega), if_pos rfl]
    unfold numP
    rw [if_neg (by omega)]
    unfold plF
    rw [if_pos ⟨h1, h2, hu⟩]
    rfl
  | false =>
    have h0 : ¬ (x.op = 26 ∨ x.op = 28 ∨ x.op = 31 ∨ x.op = 24) := by
      intro h
      have : callB x.op = true := by simp [callB]; omega
      rw [hc] at this; cases this
    rw [if_neg (by simp : ¬ (false = true))]
    by_cases h6 : Num6 x.op
    · rw [if_pos h6]
      have : x.op = 18 ∨ x.op = 21 := by unfold Num6 at h6; omega
      unfold numP
      rw [if_pos this]
    · rw [if_neg h6]
theorem plF_self (p : Prg) (i : Nat) (hi : i < p.funcs.length) : plF p i p.funcs.length (i : Int) = some (plc p i i : Int) := by
  unfold plF
  rw [if_pos ⟨by omega, by omega, by simpa using used_self p i⟩]
  simp

/-- A program in rows of the call's own (whatever the order of their blocks). -/
structure PartQ (base : Nat) (w : World) (uf ug ul : Value) (P : Prg) : Prop where
  funcs : ∃ ss : List Slc, ss.length = P.funcs.length ∧ OwnE funE base 41 w uf (P.funcs.zip ss) ∧ ∀ j, j < P.funcs.length → OwnE insE base 43 w (nth ss j).val (nth P.funcs j).code
  globs : OwnE globE base 60 w ug P.globals
  lays : ∃ rs, OwnLays base w ul P.layouts rs
theorem PartQ.only {base : Nat} {w w' : World} {uf ug ul : Value} {P : Prg} {row : Option Nat} (h : PartQ base w uf ug ul P) (ho : Only row w w')
    (hr : ∀ {α : Type} {E : Enc α} {e : TypeId} {u : Value} {c : List α}, (e = 41 ∨ e = 43 ∨ e = 60 ∨ e = 45 ∨ e = 3) → OwnE E base e w u c → ∀ k, u.ownBlock = some k → some k ≠ row) : PartQ base w' uf ug ul P := by
  obtain ⟨ss, h1, h2, h3⟩ := h.funcs
  obtain ⟨rs, h4⟩ := h.lays
  exact ⟨⟨ss, h1, h2.only ho (hr (.inl rfl) h2), fun j hj => (h3 j hj).only ho (hr (.inr (.inl rfl)) (h3 j hj))⟩, h.globs.only ho (hr (.inr (.inr (.inl rfl))) h.globs), ⟨rs, h4.only ho (hr (.inr (.inr (.inr (.inl rfl)))) h4.row) (fun j hj => hr (.inr (.inr (.inr (.inr rfl)))) (h4.each j hj))⟩⟩
theorem PartQ.fresh {base : Nat} {w w' : World} {uf ug ul : Value} {P : Prg} (h : PartQ base w uf ug ul P) (ho : Only none w w') : PartQ base w' uf ug ul P := h.only ho (fun _ _ => by simp)
theorem PartQ.mono {base base' : Nat} {w : World} {uf ug ul : Value} {P : Prg} (h : PartQ base w uf ug ul P) (hb : base' ≤ base) : PartQ base' w uf ug ul P := by
  obtain ⟨ss, h1, h2, h3⟩ := h.funcs
  obtain ⟨rs, h4⟩ := h.lays
  exact ⟨⟨ss, h1, h2.mono hb, fun j hj => (h3 j hj).mono hb⟩, h.globs.mono hb, ⟨rs, ⟨h4.len, h4.row.mono hb, fun i hi => (h4.each i hi).mono hb⟩⟩⟩
theorem PartQ.at {base lo : Nat} {w : World} {uf ug ul : Value} {P : Prg} (h : PartQ base w uf ug ul P) (hl : lo ≤ base) (hp : PrgWf P) : ProgAt lo w uf ug ul P := by
  obtain ⟨ss, h1, h2, h3⟩ := h.funcs
  obtain ⟨rs, h4⟩ := h.lays
  have a1 := hp.funcs
  have a2 := hp.globs
  have a3 := hp.lays
  exact ⟨⟨ss, h1, h2.sl hl (by rw [List.length_zip, h1]; simp; omega), fun i hi => (h3 i hi).sl hl (by have := (hp.func _ (nth_mem _ i hi)).code; omega)⟩, h.globs.sl hl (by omega), h4.at hl (by omega) fun r hr => by have := (hp.lay r hr).1; omega⟩
theorem OwnE.nilCode {base : Nat} {e : TypeId} {w : World} {l : List Ins} (h : SlE insE 0 w (.slice none 0 0) l ∨ OwnE insE base e w (.slice none 0 0) l) : l = [] := by
  rcases h with h | h
  · obtain ⟨a, c, b, o, he, -⟩ := CodeAt.open (show CodeAt 0 w (.slice none 0 0) l from h)
    obtain ⟨-, e2, -⟩ := Value.slice.inj he
    exact List.eq_nil_of_length_eq_zero e2.symm
  · obtain ⟨a, c, he⟩ := h.anySlice
    obtain ⟨-, e2, -⟩ := Value.slice.inj he
    exact List.eq_nil_of_length_eq_zero e2.symm

end Go.Proofs.Ytealeofgfgbheaa
