/-
  Small functions of package link and of its laws.
-/
import Derived.Test.YtealeofgfgbheaaZChain
import Derived.Test.YtealeofgfgbheaaZPrClone
import Derived.Test.YtealeofgfgbheaaZMapK
namespace Go.Proofs.Ytealeofgfgbheaa
set_option linter.unusedVariables false
set_option linter.unusedSimpArgs false
open Go.RowKit

theorem nil_iff {α : Type} (l : List α) : ((l.length : Int) == 0) = l.isEmpty := by
  cases l with
  | nil => rfl
  | cons x l =>
    rw [List.isEmpty_cons, beq_eq_false_iff_ne, List.length_cons]
    omega
theorem imported_calls (lo : Nat) (vc : Value) (f : Fun) (w : World) (hc : CodeAt lo w vc f.code) :
    Calls Try.prog 25 #[.agg #[.string f.name, .int .i64 f.params, .int .i64 f.regs, vc]] w fun e w' => e = .returned (.bool f.code.isEmpty) ∧ Below w.heap.size w w' := by
  obtain ⟨a, c, b, o, rfl, -⟩ := hc.open
  go_enter Try.func25, Try.ntmps25
  go_wp2_with fail
  go_ret
  refine ⟨?_, (Below.refl _ _).alloc (Nat.le_refl _) _⟩
  rw [← nil_iff]; first | rfl | simp
theorem rimport_calls (lo : Nat) (vc : Value) (f : Fun) (w : World) (hc : CodeAt lo w vc f.code) :
    Calls Try.prog 28 #[.agg #[.string f.name, .int .i64 f.params, .int .i64 f.regs, vc]] w fun e w' => e = .returned (.bool (f.code.isEmpty && (f.regs == f.params))) ∧ Below w.heap.size w w' := by
  obtain ⟨a, c, b, o, rfl, -⟩ := hc.open
  rw [← nil_iff]
  cases h : ((f.code.length : Int) == 0) with
  | false =>
    go_enter Try.func28, Try.ntmps28
    go_wp2_with fail
    go_ret
    exact ⟨rfl, (Below.refl _ _).alloc (Nat.le_refl _) _⟩
  | true =>
    go_enter Try.func28, Try.ntmps28
    go_wp2_with fail
    go_ret
    exact ⟨rfl, (Below.refl _ _).alloc (Nat.le_refl _) _⟩
theorem end_calls (w : World) :
    Calls Try.prog 26 #[] w fun e w' => ∃ v, e = .returned v ∧ OwnE insE w.heap.size 43 w' v [retI] ∧ Below w.heap.size w w' := by
  go_enter Try.func26, Try.ntmps26
  go_wp2_with fail
  go_ret
  refine ⟨_, rfl, OwnE.lit insE w w.heap.size 43 [retI] _ w.heap.size 1 rfl (Nat.le_refl _) rfl rfl (by simp), (Below.refl _ _).alloc (Nat.le_refl _) _⟩

namespace Plan
set_option linter.unusedVariables false
set_option linter.unusedSimpArgs false
variable {R : Plan} {P : Program} {Q : Exit → Act → World → Prop} {G : World → Prop} {i : Nat} {o : Oper} {l : List Oper} {a : Act} {w : World}
/-- append onto a row of the call's own, under any frame. -/
theorem chain_appG {α : Type} [Inhabited α] (E : Enc α) (s x : Operand) (t : TypeId) (base lo : Nat) (e : TypeId) (z : Value) (bytes : Nat) (L r : List α)
    (hk : R.kinds i = .new) (hw : Region.wanted o (yielded R.ops a.tmps) = true) (hd : dstIn o a = true)
    (ho : o.op = .call { callee := .builtin .append, args := #[s, x], argTypes := #[t, t] })
    (ht : P.underlying t = some (.slice e)) (hinfo : (P.info? e).map (fun i => (i.zero, i.size, i.bytes)) = some (some z, E.sz, bytes)) (hz : z.cells.size = E.sz)
    (hown : OwnE E base e w (a.eval s) L) (hsrc : SlE E lo w (a.eval x) r) (hb : (L.length + r.length) * bytes ≤ 140737488355328) (hm : L.length + r.length ≤ maxLen) (hbase : base ≤ w.heap.size)
    (h : ∀ b m w', OwnE E base e w' (.slice b (L ++ r).length m) (L ++ r) → w.grownBy w' (a.eval s).ownBlock → G w' ∧ R.RunsG P Q G (i + 1) l (a.put o.dst (.slice b (L ++ r).length m)) w') : R.RunsG P Q G i (o :: l) a w :=
  chain_mem hk hw hd fun K hK => by
    obtain ⟨v', w', e1, e2, e3, e4⟩ := run_append_E (P := P) E w base lo t o.type e z bytes ht hinfo hz _ L hown _ r hsrc hb hm hbase
    obtain ⟨b, m, rfl⟩ := anySlice_of e2
    obtain ⟨h1, h2⟩ := h b m w' e2 e3
    unfold Oper.wp
    simp only [execOp, ho, resolve, invoke, builtin, Sem.run_bind, Sem.run_pure, Result.andThen_ok, List.map_toArray, List.map_cons, List.map_nil, e1]
    exact hK _ w' h1 h2
end Plan

end Go.Proofs.Ytealeofgfgbheaa

/-
  The state of link.Valid's loop.
-/
namespace Go.Proofs.Ytealeofgfgbheaa
set_option linter.unusedVariables false
set_option linter.unusedSimpArgs false
open Go.RowKit

theorem infoIns12 : (Try.prog.info? 43).map (fun i => (i.zero, i.size, i.bytes)) = some (some (.agg #[.int .i64 0, .int .i64 0, .int .i64 0, .int .i64 0, .int .i64 0]), 5, 40) := by kernel_rfl
theorem infoFun12 : (Try.prog.info? 41).map (fun i => (i.zero, i.size, i.bytes)) = some (some (.agg #[.string ⟨#[]⟩, .int .i64 0, .int .i64 0, .slice none 0 0]), 4, 56) := by kernel_rfl

theorem take_succ_at {α : Type} [Inhabited α] (l : List α) (k : Nat) (h : k < l.length) : l.take (k + 1) = l.take k ++ [nth l k] := by
  rw [nth_eq _ _ h, List.take_succ_eq_append_getElem h]
theorem OwnE.neMap {α κ : Type} [DecidableEq κ] {K : KeyT κ} {E : Enc α} {base : Nat} {e : TypeId} {w : World} {v : Value} {l : List α} {b c : Nat} {L : List κ} (h : OwnE E base e w v l) (hm : MapB K w b c L) : ∀ k, v.ownBlock = some k → some k ≠ some b := by
  intro k hk he
  obtain ⟨es, clock, h1⟩ := hm.isMap
  obtain ⟨cur, h2⟩ := h.typed k hk
  cases he
  rw [h1] at h2
  cases h2
theorem BoxAt.neMap {κ : Type} [DecidableEq κ] {K : KeyT κ} {w : World} {b' : Nat} {t : TypeId} {vs : List Value} {b c : Nat} {L : List κ} (h : BoxAt w b' t vs) (hm : MapB K w b c L) : some b' ≠ some b := by
  intro he
  obtain ⟨es, clock, h1⟩ := hm.isMap
  cases he
  unfold BoxAt at h
  rw [h1] at h
  cases h
theorem MapB.neRow {α κ : Type} [DecidableEq κ] {K : KeyT κ} {E : Enc α} {base : Nat} {e : TypeId} {w : World} {v : Value} {l : List α} {b c : Nat} {L : List κ} (hm : MapB K w b c L) (h : OwnE E base e w v l) : some b ≠ v.ownBlock :=
  fun he => h.neMap hm b he.symm rfl

/-- Names of the first km functions in the map, the first kf functions, closed, in the row. -/
structure LvSt (lo : Nat) (w0 wr : World) (bM bQ : Nat) (vf vg vl vq : Value) (p : Prg) (kf km : Nat) (ss : List Slc) (c : Nat) : Prop where
  q : QFuns lo w0 wr vq ((p.funcs.take kf).map closeF) ss
  box : BoxAt wr bQ 26 [vq, vg, vl, .int .i64 p.main]
  arg : BoxAt wr w0.heap.size 26 [vf, vg, vl, .int .i64 p.main]
  m : MapB strK wr bM c ((p.funcs.take km).map (·.name))
  cle : c ≤ km
  ne : w0.heap.size < bQ
  bm : w0.heap.size ≤ bM
section
variable {lo : Nat} {w0 wr w' : World} {bM bQ : Nat} {vf vg vl vq v2 : Value} {p : Prg} {kf km : Nat} {ss : List Slc} {c : Nat}
theorem LvSt.fresh (h : LvSt lo w0 wr bM bQ vf vg vl vq p kf km ss c) (hb : Below wr.heap.size wr w') : LvSt lo w0 w' bM bQ vf vg vl vq p kf km ss c :=
  ⟨h.q.fresh hb, h.box.below hb, h.arg.below hb, h.m.below hb, h.cle, h.ne, h.bm⟩
theorem LvSt.map (h : LvSt lo w0 wr bM bQ vf vg vl vq p kf km ss c) (hk : km < p.funcs.length) (hg : wr.grownBy w' (some bM)) (hm : MapB strK w' bM (c + 1) ((nth p.funcs km).name :: (p.funcs.take km).map (·.name))) : LvSt lo w0 w' bM bQ vf vg vl vq p kf (km + 1) ss (c + 1) := by
  have hO : Only (some bM) wr w' := Only.grown hg
  have hb : Below w0.heap.size wr w' := Below.grown (Below.refl _ _) hg h.q.low.size (fun q hq => by cases hq; exact h.bm)
  refine ⟨h.q.only hO hb (h.q.row.neMap h.m) (fun _ _ hc => hc.neMap h.m), h.box.only hO (h.box.neMap h.m), h.arg.only hO (h.arg.neMap h.m), hm.congr fun x => ?_, by have := h.cle; omega, h.ne, h.bm⟩
  rw [take_succ_at p.funcs km hk]
  simp [or_comm]
theorem LvSt.snoc {s : Slc} (h : LvSt lo w0 wr bM bQ vf vg vl vq p kf km ss c) (hk : kf < p.funcs.length) (hg : wr.grownBy w' vq.ownBlock) (hrow : OwnE funE w0.heap.size 41 w' v2 (((p.funcs.take kf).map closeF).zip ss ++ [(closeF (nth p.funcs kf), s)]))
    (hc : CodeAt lo w0 s.val (closeF (nth p.funcs kf)).code ∨ OwnE insE w0.heap.size 43 wr s.val (closeF (nth p.funcs kf)).code) : LvSt lo w0 (w'.setCell ⟨bQ, 0, none⟩ v2) bM bQ vf vg vl v2 p (kf + 1) km (ss ++ [s]) c := by
  have hO : Only vq.ownBlock wr w' := Only.grown hg
  have hS : Only (some bQ) w' (w'.setCell ⟨bQ, 0, none⟩ v2) := Only.store _ _ _ _
  have hx : BoxAt w' bQ _ _ := h.box.only hO (h.box.neRow h.q.row (by decide))
  have hq := h.q.snoc hg hrow hc
  have hm := h.m.grown hg (h.m.neRow h.q.row)
  have harg : BoxAt w' w0.heap.size _ _ := h.arg.only hO (h.arg.neRow h.q.row (by decide))
  refine ⟨?_, hx.set 0 v2, harg.only hS (by have := h.ne; intro e; cases e; omega), hm.setCell (by intro e; exact (hx.neMap hm) (by rw [e])) _, h.cle, h.ne, h.bm⟩
  rw [take_succ_at p.funcs kf hk, List.map_append, List.map_singleton]
  exact hq.onlyBox hS ((Below.refl _ _).setCell (Nat.le_of_lt h.ne) _) hx (by decide) (by decide)
/-- A store into a box of a function that isn't in the row. -/
theorem LvSt.fbox {b : Nat} {vs : List Value} (h : LvSt lo w0 wr bM bQ vf vg vl vq p kf km ss c) (hx : BoxAt wr b 41 vs) (hv : ∀ k, vq.ownBlock = some k → k ≠ b) (hb : w0.heap.size ≤ b) (j : Nat) (u : Value) : LvSt lo w0 (wr.setCell ⟨b, j, none⟩ u) bM bQ vf vg vl vq p kf km ss c := by
  have hS : Only (some b) wr (wr.setCell ⟨b, j, none⟩ u) := Only.store _ _ _ _
  refine ⟨h.q.only hS ((Below.refl _ _).setCell hb _) (fun k hk e => hv k hk (by cases e; rfl)) (fun _ _ hc => hc.neBox hx (by decide)), h.box.only hS (h.box.neBox hx (by decide)), h.arg.only hS (h.arg.neBox hx (by decide)), h.m.setCell (by intro e; exact (hx.neMap h.m) (by rw [e])) _, h.cle, h.ne, h.bm⟩
end

end Go.Proofs.Ytealeofgfgbheaa

/-
  law12.great answers something, whatever the sizes.
-/
namespace Go.Proofs.Ytealeofgfgbheaa
set_option linter.unusedVariables false
set_option linter.unusedSimpArgs false
open Go.RowKit

set_option maxRecDepth 100000 in
theorem great_calls (lo : Nat) (vf vg vl : Value) (p : Prg) (w : World) (hp : ProgAt lo w vf vg vl p) (hwf : PrgWf p) :
    Calls Try.prog 10 #[.agg #[vf, vg, vl, .int .i64 p.main]] w fun e w' => (∃ b : Bool, e = .returned (.bool b)) ∧ Below w.heap.size w w' := by
  have HP := hid hp
  have hfz := hwf.funcs
  obtain ⟨fa, fc, fb, fo, FS, rfl, fp, f0, f1, f2, f3, fcode, fbl, -, -, -⟩ := hp.funcs.open
  obtain ⟨ga, gc, gb, go, rfl, -⟩ := hp.globs.open
  obtain ⟨la, lc, lb, lo', LS, rfl, -⟩ := hp.lays.open
  have HFQ := hid (And.intro fp (And.intro f3 (And.intro fcode fbl)))
  clear hp fp f0 f1 f2 f3 fcode fbl hwf
  go_enter Try.func10, Try.ntmps10
  go_wp2_with fail
  generalize hW : World.alloc _ _ = W
  have hbx := show BoxAt W w.heap.size 26 [.slice fa p.funcs.length fc, .slice ga p.globals.length gc, .slice la p.layouts.length lc, .int .i64 p.main] by rw [← hW]; exact BoxAt.new _ _ _ _ _ rfl rfl
  have hbW : Below w.heap.size w W := by rw [← hW]; exact (Below.refl _ _).alloc (Nat.le_refl _) _
  have HBX := hid hbx
  have HBW := hid hbW
  clear hW hbx hbW
  go_loopw [4, 3] (fun iv nv wr => ∃ (k : Nat) (m : Int), k ≤ p.funcs.length ∧ iv = .int .i64 k ∧ nv = .int .i64 m ∧ Below W.heap.size W wr) (fun iv _ _ => p.funcs.length - (intOf iv).toNat)
  case atStart => exact ⟨0, _, Nat.zero_le _, rfl, rfl, Below.refl _ _⟩
  case round =>
  obtain ⟨k, m, hk, rfl, rfl, hbl⟩ := hrel
  obtain ⟨wo, hwo⟩ : ∃ wo, wo = wr := ⟨_, rfl⟩
  subst hwo
  have HBL := hid hbl
  have hbx := HBX.out.below hbl
  have c0 := hbx.cell 0 _ rfl
  have cz := hbx.lt
  clear hbl hbx
  by_cases hlt : k < p.funcs.length
  · have hlt2 : (k : Int) < p.funcs.length := Int.ofNat_lt.2 hlt
    have hki : ¬ ((k : Int) < 0) := by omega
    obtain ⟨fp, f3, fcode, fbl⟩ := HFQ.out
    obtain rfl := fp (by omega)
    have hbw := HBW.out.trans (HBL.out.mono HBW.out.size)
    have gl := fbl (by omega)
    have y3 := (hbw.cell (p := ⟨fb, _, none⟩) gl).trans (f3 k hlt)
    clear fp f3 fcode fbl hbw
    go_wp2_with fail
    go_roundw
    case rel => exact ⟨k + 1, _, by omega, by go_num, rfl, HBL.out⟩
    case measure => simp [intOf] <;> omega
  · have hke : k = p.funcs.length := by omega
    subst hke
    go_wp2_with fail
    go_ret
    exact ⟨⟨_, rfl⟩, bvia HBW.out HBL.out⟩

end Go.Proofs.Ytealeofgfgbheaa
