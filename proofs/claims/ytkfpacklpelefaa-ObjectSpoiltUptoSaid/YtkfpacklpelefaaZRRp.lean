/-
  The reference's reader: programs.
-/
import Derived.Test.YtkfpacklpelefaaZRdPrg
import Derived.Test.YtkfpacklpelefaaZRRf
namespace Go.Proofs.Ytkfpacklpelefaa
set_option linter.unusedVariables false
set_option linter.unusedSimpArgs false
open Go.RowKit

abbrev PRG0 : List Value := [.slice none 0 0, .slice none 0 0, .slice none 0 0, .int .i64 0]
/-- What is carried: two boxes, the program's rows, the reader. -/
structure CarP (b N b3 : Nat) (fv gv lv : Value) (fs : List Fun) (cs : List Slc) (gs : List Glob) (ls : List (List Int)) (ss : List Slc) (l : List UInt8) (st : St10) (w0 w : World) : Prop where
  box2 : BoxAt w N 31 PRG0
  box3 : BoxAt w b3 31 [fv, gv, lv, .int .i64 0]
  funs : OwnFuns N w fv fs cs
  globs : OwnE globE N 50 w gv gs
  lays : OwnLays N w lv ls ss
  rd : RR b w l st
  kn : KN b N [81] w0 w
  hb : b < N
  h3 : N < b3
theorem layKR {base b : Nat} {w w' : World} {v : Value} {l : List (List Int)} {ss : List Slc} (h : OwnLays base w v l ss) (hk : KR b w w') : OwnLays base w' v l ss :=
  ⟨h.len, hk.own h.row (by decide), fun i hi => hk.own (h.each i hi) (by decide)⟩
theorem funKR {base b : Nat} {w w' : World} {v : Value} {l : List Fun} {ss : List Slc} (h : OwnFuns base w v l ss) (hk : KR b w w') : OwnFuns base w' v l ss :=
  ⟨h.len, hk.own h.row (by decide), fun i hi => hk.own (h.code i hi) (by decide), h.apart⟩
section
variable {b N b3 : Nat} {fv gv lv : Value} {fs : List Fun} {cs : List Slc} {gs : List Glob} {ls : List (List Int)} {ss : List Slc} {l : List UInt8} {st : St10} {w0 w : World}
theorem CarP.call (h : CarP b N b3 fv gv lv fs cs gs ls ss l st w0 w) {w' : World} {st' : St10} (hk : KR b w w') (hr : RR b w' l st') : CarP b N b3 fv gv lv fs cs gs ls ss l st' w0 w' :=
  ⟨hk.box h.box2 (by decide), hk.box h.box3 (by decide), funKR h.funs hk, hk.own h.globs (by decide), layKR h.lays hk, hr, h.kn.trans (hk.kn _), h.hb, h.h3⟩
theorem CarP.fresh (h : CarP b N b3 fv gv lv fs cs gs ls ss l st w0 w) {w' : World} (ho : Below w.heap.size w w') (hr : RR b w' l st) : CarP b N b3 fv gv lv fs cs gs ls ss l st w0 w' :=
  ⟨h.box2.below ho, h.box3.below ho, h.funs.fresh (Only.below ho _), h.globs.fresh (Only.below ho _), h.lays.fresh (Only.below ho _), hr, h.kn.trans ((KT.below _ ho (by have := h.rd.lt; omega)).kn _), h.hb, h.h3⟩
theorem CarP.alloc (h : CarP b N b3 fv gv lv fs cs gs ls ss l st w0 w) (o : Obj) : CarP b N b3 fv gv lv fs cs gs ls ss l st w0 (w.alloc o) :=
  h.fresh ((Below.refl _ _).alloc (Nat.le_refl _) _) (h.rd.alloc o)
theorem CarP.drew (h : CarP b N b3 fv gv lv fs cs gs ls ss l st w0 w) : CarP b N b3 fv gv lv fs cs gs ls ss l st w0 w.drew :=
  h.fresh (Below.refl _ _).drew (h.rd.kt rfl (Below.refl _ _).drew)
/-- A store into a newer block. -/
theorem CarP.newer (h : CarP b N b3 fv gv lv fs cs gs ls ss l st w0 w) {w00 : World} {st0 : St10} (h0 : CarP b N b3 fv gv lv fs cs gs ls ss l st0 w0 w00) (I k : Nat) (u : Value) (hI : w00.heap.size ≤ I) : CarP b N b3 fv gv lv fs cs gs ls ss l st w0 (w.setCell ⟨I, k, none⟩ u) := by
  have h1 := h0.box2.lt
  have h2 := h0.box3.lt
  have h4 := h.hb
  have ho : Only (some I) w (w.setCell ⟨I, k, none⟩ u) := Only.store _ _ _ _
  have e : ∀ q, q < w00.heap.size → some q ≠ some I := fun q hq e => by cases e; omega
  exact ⟨h.box2.other _ _ (by show N ≠ I; omega), h.box3.other _ _ (by show b3 ≠ I; omega), h.funs.only ho (fun q hq => e q (h0.funs.row.lt q hq).2) (fun i hi q hq => e q ((h0.funs.code i hi).lt q hq).2), h.globs.only ho (fun q hq => e q (h0.globs.lt q hq).2), h.lays.only ho (fun q hq => e q (h0.lays.row.lt q hq).2) (fun i hi q hq => e q ((h0.lays.each i hi).lt q hq).2), h.rd.other _ (by omega), h.kn.trans (KN.store _ (by omega) (by omega) _ _), h4, h.h3⟩
theorem rr_grow {α : Type} {E : Enc α} {e : TypeId} {v : Value} {L : List α} {w7 : World} (h : CarP b N b3 fv gv lv fs cs gs ls ss l st w0 w) (ho : OwnE E N e w v L) (hne : e ≠ 31) (hg : w.grownBy w7 v.ownBlock) :
    BoxAt w7 N 31 PRG0 ∧ BoxAt w7 b3 31 [fv, gv, lv, .int .i64 0] ∧ RR b w7 l st ∧ KN b N [81] w0 w7 :=
  ⟨h.box2.only (Only.grown hg) (h.box2.neRow ho hne), h.box3.only (Only.grown hg) (h.box3.neRow ho hne), h.rd.grown ho hg h.hb, h.kn.trans (KN.grown ho hg (by have := h.rd.lt; omega) (Nat.le_of_lt h.hb))⟩
theorem CarP.addG (h : CarP b N b3 fv gv lv fs cs gs ls ss l st w0 w) {w7 : World} {v7 : Value} {gs7 : List Glob} (hg : w.grownBy w7 gv.ownBlock) (ho : OwnE globE N 50 w7 v7 gs7) : CarP b N b3 fv v7 lv fs cs gs7 ls ss l st w0 (w7.setCell ⟨b3, 1, none⟩ v7) := by
  obtain ⟨h1, h2, h3, h4⟩ := rr_grow h h.globs (by decide) hg
  have h5 := h.hb
  have h6 := h.h3
  have hO : Only gv.ownBlock w w7 := Only.grown hg
  have hf : OwnFuns N w7 fv fs cs := ⟨h.funs.len, h.funs.row.only hO (OwnE.neRow h.funs.row h.globs (by decide)), fun i hi => (h.funs.code i hi).only hO (OwnE.neRow (h.funs.code i hi) h.globs (by decide)), h.funs.apart⟩
  have hl : OwnLays N w7 lv ls ss := ⟨h.lays.len, h.lays.row.only hO (OwnE.neRow h.lays.row h.globs (by decide)), fun i hi => (h.lays.each i hi).only hO (OwnE.neRow (h.lays.each i hi) h.globs (by decide))⟩
  exact ⟨h1.other _ _ (by show N ≠ b3; omega), h2.set 1 v7, hf.onlyBox (Only.store _ _ _ _) h2 (by decide) (by decide), OwnE.storeBox _ ho h2 (by decide), hl.onlyBox (Only.store _ _ _ _) h2 (by decide) (by decide), h3.other _ (by omega), h4.trans (KN.store _ (by omega) (by omega) _ _), h5, h6⟩
theorem CarP.addL (h : CarP b N b3 fv gv lv fs cs gs ls ss l st w0 w) {w7 : World} {v7 : Value} {x : Slc} {xs : List Int} {M : Nat} (hx : OwnE intE M 3 w x.val xs) (hM : N ≤ M) (hg : w.grownBy w7 lv.ownBlock) (ho : OwnE rowE N 52 w7 v7 (ss ++ [x])) : CarP b N b3 fv gv v7 fs cs gs (ls ++ [xs]) (ss ++ [x]) l st w0 (w7.setCell ⟨b3, 2, none⟩ v7) := by
  obtain ⟨h1, h2, h3, h4⟩ := rr_grow h h.lays.row (by decide) hg
  have h5 := h.hb
  have h6 := h.h3
  have hO : Only lv.ownBlock w w7 := Only.grown hg
  have hf : OwnFuns N w7 fv fs cs := ⟨h.funs.len, h.funs.row.only hO (OwnE.neRow h.funs.row h.lays.row (by decide)), fun i hi => (h.funs.code i hi).only hO (OwnE.neRow (h.funs.code i hi) h.lays.row (by decide)), h.funs.apart⟩
  have hgl : OwnE globE N 50 w7 gv gs := h.globs.only hO (OwnE.neRow h.globs h.lays.row (by decide))
  have hl : OwnLays N w7 v7 (ls ++ [xs]) (ss ++ [x]) := OwnLays.snoc h.lays ho (fun i hi => (h.lays.each i hi).only hO (OwnE.neRow (h.lays.each i hi) h.lays.row (by decide))) ((hx.mono hM).only hO (OwnE.neRow hx h.lays.row (by decide)))
  exact ⟨h1.other _ _ (by show N ≠ b3; omega), h2.set 2 v7, hf.onlyBox (Only.store _ _ _ _) h2 (by decide) (by decide), OwnE.storeBox _ hgl h2 (by decide), hl.onlyBox (Only.store _ _ _ _) h2 (by decide) (by decide), h3.other _ (by omega), h4.trans (KN.store _ (by omega) (by omega) _ _), h5, h6⟩
theorem CarP.addF (h : CarP b N b3 fv gv lv fs cs gs ls ss l st w0 w) {w7 : World} {v7 : Value} {x : Slc} {f : Fun} {M : Nat} (hold : ∀ i, i < fs.length → ∀ k, (nth cs i).val.ownBlock = some k → k < M) (hx : OwnE insE M 57 w x.val f.code) (hM : N ≤ M) (hg : w.grownBy w7 fv.ownBlock) (ho : OwnE funE N 55 w7 v7 (fs.zip cs ++ [(f, x)])) : CarP b N b3 v7 gv lv (fs ++ [f]) (cs ++ [x]) gs ls ss l st w0 (w7.setCell ⟨b3, 0, none⟩ v7) := by
  obtain ⟨h1, h2, h3, h4⟩ := rr_grow h h.funs.row (by decide) hg
  have h5 := h.hb
  have h6 := h.h3
  have hO : Only fv.ownBlock w w7 := Only.grown hg
  have hf : OwnFuns N w7 v7 (fs ++ [f]) (cs ++ [x]) := OwnFuns.snoc h.funs hold ho (fun i hi => (h.funs.code i hi).only hO (OwnE.neRow (h.funs.code i hi) h.funs.row (by decide))) (hx.only hO (OwnE.neRow hx h.funs.row (by decide))) hM
  have hgl : OwnE globE N 50 w7 gv gs := h.globs.only hO (OwnE.neRow h.globs h.funs.row (by decide))
  have hl : OwnLays N w7 lv ls ss := ⟨h.lays.len, h.lays.row.only hO (OwnE.neRow h.lays.row h.funs.row (by decide)), fun i hi => (h.lays.each i hi).only hO (OwnE.neRow (h.lays.each i hi) h.funs.row (by decide))⟩
  exact ⟨h1.other _ _ (by show N ≠ b3; omega), h2.set 0 v7, hf.onlyBox (Only.store _ _ _ _) h2 (by decide) (by decide), OwnE.storeBox _ hgl h2 (by decide), hl.onlyBox (Only.store _ _ _ _) h2 (by decide) (by decide), h3.other _ (by omega), h4.trans (KN.store _ (by omega) (by omega) _ _), h5, h6⟩
end

/-- What the program's value is. -/
def RPrgQ (b : Nat) (l : List UInt8) (st : St10) (w : World) (e : Ending) (w' : World) : Prop := ∃ (p : Prg) (vf vg vl : Value) (st' : St10), e = .returned (.agg #[vf, vg, vl, .int .i64 p.main]) ∧ OwnPrg w.heap.size w' vf vg vl p ∧ p.funcs.length ≤ l.length ∧ p.globals.length ≤ l.length ∧ p.layouts.length ≤ l.length ∧ Stp rdPrg st p st' ∧ RR b w' l st' ∧ KR b w w'
theorem many_succ {α : Type} (p : Rd1 α) (n : Nat) (r : List UInt8) : rdMany p (n + 1) r = rdBind p (fun x => rdBind (rdMany p n) fun l => rdPure (x :: l)) r := by
  unfold rdBind
  rw [rdMany]
  cases p r with
  | none => rfl
  | some q =>
    obtain ⟨x, s⟩ := q
    dsimp only
    cases rdMany p n s <;> rfl
theorem Stp.list {α : Type} {p : Rd1 α} {n : Nat} {st st1 st2 : St10} {xs : List α} (h1 : Stp rdC st n st1) (h2 : Stp (rdMany p n) st1 xs st2) : Stp (rdList p) st xs st2 := by
  have h : Stp (rdBind rdC (rdMany p)) st xs st2 := h1.bind h2
  have e : rdBind rdC (rdMany p) = rdList p := by
    funext l
    unfold rdBind rdList
    cases rdC l <;> rfl
  rw [← e]
  exact h

noncomputable def planRP24 : Plan := mkPlan (regionOf Try.f42 24) [(3, .new), (4, .new), (5, .new), (7, .fin)] []
/-- The frame of the drawn region. -/
def GPR (b N b3 : Nat) (vs : List Value) (wo w' : World) : Prop := KN b N [81] wo w' ∧ BoxAt w' b3 31 vs
theorem rprg_end {b b3 : Nat} {fv gv lv : Value} {fs : List Fun} {cs : List Slc} {gs : List Glob} {ls : List (List Int)} {ss : List Slc} {l : List UInt8} {st6 : St10} {w w6 : World} (h : CarP b w.heap.size b3 fv gv lv fs cs gs ls ss l st6 w w6) (hk : KN b w.heap.size [81] w w6) (m : Int) (st : St10)
    (hf : fs.length ≤ l.length) (hg : gs.length ≤ l.length) (hl : ls.length ≤ l.length) (hs : Stp rdPrg st ⟨fs, gs, ls, m⟩ st6) :
    let W := ((((w6.setCell ⟨b3, 3, none⟩ (.int .i64 m)).setCell ⟨w.heap.size, 0, none⟩ fv).setCell ⟨w.heap.size, 1, none⟩ gv).setCell ⟨w.heap.size, 2, none⟩ lv).setCell ⟨w.heap.size, 3, none⟩ (.int .i64 m)
    BoxAt W w.heap.size 31 [fv, gv, lv, .int .i64 m] ∧ RPrgQ b l st w (.returned (.agg #[fv, gv, lv, .int .i64 m])) W := by
  intro W
  have hb := h.hb
  have h3 := h.h3
  have one : ∀ (wa : World) (B k : Nat) (u : Value) (vs : List Value), w.heap.size ≤ B → BoxAt wa B 31 vs → (OwnFuns w.heap.size wa fv fs cs ∧ OwnLays w.heap.size wa lv ls ss ∧ OwnE globE w.heap.size 50 wa gv gs ∧ KN b w.heap.size [81] w wa ∧ RR b wa l st6) →
      (OwnFuns w.heap.size (wa.setCell ⟨B, k, none⟩ u) fv fs cs ∧ OwnLays w.heap.size (wa.setCell ⟨B, k, none⟩ u) lv ls ss ∧ OwnE globE w.heap.size 50 (wa.setCell ⟨B, k, none⟩ u) gv gs ∧ KN b w.heap.size [81] w (wa.setCell ⟨B, k, none⟩ u) ∧ RR b (wa.setCell ⟨B, k, none⟩ u) l st6) := fun wa B k u vs hB hx h =>
    ⟨h.1.onlyBox (Only.store _ _ _ _) hx (by decide) (by decide), h.2.1.onlyBox (Only.store _ _ _ _) hx (by decide) (by decide), OwnE.storeBox _ h.2.2.1 hx (by decide), h.2.2.2.1.trans (KN.store _ (by omega) hB _ _), h.2.2.2.2.other _ (by omega)⟩
  have b0 := h.box2.other ⟨b3, 3, none⟩ (.int .i64 m) (by show w.heap.size ≠ b3; omega)
  have b1 := b0.set 0 fv
  have b2 := b1.set 1 gv
  have b4 := b2.set 2 lv
  have b5 := b4.set 3 (.int .i64 m)
  obtain ⟨z1, z2, z3, z4, z5⟩ := one _ w.heap.size 3 (.int .i64 m) _ (Nat.le_refl _) b4 (one _ w.heap.size 2 lv _ (Nat.le_refl _) b2 (one _ w.heap.size 1 gv _ (Nat.le_refl _) b1 (one _ w.heap.size 0 fv _ (Nat.le_refl _) b0 (one _ b3 3 (.int .i64 m) _ (Nat.le_of_lt h3) h.box3 ⟨h.funs, h.lays, h.globs, hk, h.rd⟩))))
  exact ⟨b5, ⟨fs, gs, ls, m⟩, fv, gv, lv, st6, rfl, ⟨⟨cs, z1⟩, z3, ⟨ss, z2⟩⟩, hf, hg, hl, hs, z5, z4.kt⟩

set_option maxRecDepth 200000 in
set_option maxHeartbeats 8000000 in
theorem rrprg_calls (b : Nat) (l : List UInt8) (st : St10) (w : World) (h : RR b w l st) (hl : l.length ≤ 1000000000) :
    Calls Try.prog 42 #[.pointer (some ⟨b, 0, none⟩)] w fun e w' => RPrgQ b l st w e w' := by
  have H := hid h
  have hbw := h.lt
  have HBW := hid hbw
  clear h
  go_enter Try.func42, Try.ntmps42
  go_wp2_with fail
  generalize hW : World.alloc (World.alloc _ _) _ = W
  have hcar : CarP b w.heap.size (w.heap.size + 1) (.slice none 0 0) (.slice none 0 0) (.slice none 0 0) [] [] [] [] [] l st w W := by
    have h1 : BoxAt W w.heap.size 31 PRG0 := by rw [← hW]; exact (BoxAt.new _ _ _ _ _ rfl rfl).alloc _
    have h2 : BoxAt W (w.heap.size + 1) 31 PRG0 := by rw [← hW]; exact BoxAt.new _ _ _ _ _ (by simp) rfl
    refine ⟨h1, h2, OwnFuns.nil _ _, OwnE.nil _ _ _ _, OwnLays.nil _ _, ?_, ?_, hbw, by omega⟩
    · rw [← hW]; exact (H.out.alloc _).alloc _
    · rw [← hW]; exact ((KT.alloc _ w _ (by omega)).trans (KT.alloc _ _ _ (by simp; omega))).kn _
  have HC0 := hid hcar
  clear hW hcar H
  refine (rrcount_calls b l st W HC0.out.rd).mono ?_
  rintro e w1 ⟨k1, st1, rfl, hs, hr, hk, hkl⟩
  have HS1 := hid hs
  have HC1 := hid (HC0.out.call hk hr)
  have HK1 := hid hkl
  clear hs hr hk hkl HC0
  go_wp2_with fail
  go_loopw [5] (fun i wr => ∃ (j : Nat) (gs : List Glob) (stj : St10) (a : Option Addr) (c : Nat), j ≤ k1 ∧ i = .int .i64 j ∧ gs.length = j ∧ LoopR (rdMany rdGlob k1) (rdMany rdGlob (k1 - j)) st1 stj gs ∧ CarP b w.heap.size (w.heap.size + 1) (.slice none 0 0) (.slice a j c) (.slice none 0 0) [] [] gs [] [] l stj w wr) (fun i _ => k1 - (intOf i).toNat)
  case atStart => exact ⟨0, [], st1, none, 0, Nat.zero_le _, rfl, rfl, LoopR.start _ _, HC1.out⟩
  case round =>
    clear HC1
    obtain ⟨j, gs, stj, a, c, hj, rfl, hdl, hlr, hcar⟩ := hrel
    obtain ⟨wo, hwo⟩ : ∃ wo, wo = wr := ⟨_, rfl⟩
    subst hwo
    have HLR := hid hlr
    have HC := hid hcar
    have HDL := hid hdl
    obtain ⟨nn, hrr, _⟩ := hcar.rd
    obtain ⟨bb, bo, cc, m0, m1, m2, mz, _, _, _, _, _, _, _, _⟩ := hrr.cells
    clear hrr
    clear hlr hcar hdl
    by_cases hgo : j < k1 ∧ stj.isSome = true
    · obtain ⟨hlt, hsm⟩ := hgo
      obtain ⟨rj, rfl⟩ := Option.isSome_iff_exists.1 hsm
      have hltI : (j : Int) < k1 := Int.ofNat_lt.2 hlt
      have hd : decide ((j : Int) < (k1 : Int)) = true := decide_eq_true hltI
      have hd2 : decide (j < k1) = true := decide_eq_true hlt
      have HLT := hid hlt
      have t1 : (some rj : St10).isNone = false := rfl
      rw [t1] at m2
      clear hsm t1 hlt
      go_wp2_with fail
      clear m0 m1 m2 mz
      refine (rrtext_calls b l _ wo HC.out.rd).mono ?_
      rintro e v1 ⟨n1, s1, rfl, hs, hr, hk⟩
      have HSA := hid hs
      have HCA := hid (HC.out.call hk hr)
      clear hs hr hk
      go_wp2_with fail
      generalize hX : World.alloc _ _ = WI
      have hbx := show BoxAt WI v1.heap.size 50 [.string n1, .int .i64 0] by rw [← hX]; exact BoxAt.new _ _ _ _ _ rfl rfl
      have HCI := hid (show CarP b w.heap.size (w.heap.size + 1) (.slice none 0 0) (.slice a j c) (.slice none 0 0) [] [] gs [] [] l s1 w WI by rw [← hX]; exact HCA.out.alloc _)
      have HXI := hid hbx
      clear hX hbx
      refine (rrnum_calls b l _ WI HCI.out.rd).mono ?_
      rintro e v2 ⟨n2, s2, rfl, hs, hr, hk, _⟩
      have HSB := hid hs
      have hcb := HCI.out.call hk hr
      have hxb := hk.box HXI.out (by decide)
      have x0 := hxb.cell 0 _ rfl
      have x1 := hxb.cell 1 _ rfl
      have xz := hxb.lt
      have xf := hxb.frozen 1
      have g1 := hcb.box3.cell 1 _ rfl
      have gz := hcb.box3.lt
      have gf := hcb.box3.frozen 1
      have hzz := HCA.out.box3.lt
      have hne3 : ¬ v1.heap.size = w.heap.size + 1 := by omega
      have hne4 : ¬ w.heap.size + 1 = v1.heap.size := by omega
      have HCB := hid hcb
      clear hs hr hk hcb hxb HCI HXI
      have HCX := hid (show CarP b w.heap.size (w.heap.size + 1) (.slice none 0 0) (.slice a j c) (.slice none 0 0) [] [] gs [] [] l s2 w ((v2.setCell ⟨v1.heap.size, 1, none⟩ (.int .i64 n2)).alloc (.cells #[.string n1, .int .i64 n2] 50)) from (HCB.out.newer HCA.out v1.heap.size 1 _ (Nat.le_refl _)).alloc _)
      have HZ5 := hid (show w.heap.size ≤ v2.heap.size by have := HCB.out.box2.lt; omega)
      have HJL := hid (show j + 1 ≤ 1000000000 by have := HK1.out; have := HLT.out; omega)
      go_wp2_with (
        at_builtin
        go_loud (refine wpList_append_E globE (o := ⟨some 37, _, _, _, _, _⟩) rfl (.tmp 34) (.tmp 36) 28 rfl w.heap.size w.heap.size 50 _ 24 Try.underlying28 infoGlob10 rfl gs [⟨n1, n2⟩] HCX.out.globs ((OwnE.lit globE _ w.heap.size 50 [⟨n1, n2⟩] _ v2.heap.size 1 (by simp [World.setCell]) HZ5.out rfl rfl (by simp)).sl (Nat.le_refl _) (by simp)) (by have := HJL.out; have := HDL.out; simp; omega) (by have := HJL.out; have := HDL.out; simp only [maxLen]; simp; omega) (by have := HZ5.out; simp [World.setCell]; omega) ?_)
        intro q7 w7 ho7 hg7
        go_loud (obtain ⟨a7, c7, ha7⟩ := ho7.anySlice)
        go_loud (rw [show (gs ++ [(⟨n1, n2⟩ : Glob)]).length = j + 1 by simp [HDL.out]] at ha7)
        subst ha7
        have HO7 := hid ho7
        have HG7 := hid hg7
        have hf7 := (rr_grow HCX.out HCX.out.globs (by decide) hg7).2.1
        have k3 := hf7.cell 1 _ rfl
        have kz := hf7.lt
        have kf := hf7.frozen 1
        clear ho7 hg7 hf7)
      have HJW := hid (show wrap64 ((j : Int) + 1) = ((j + 1 : Nat) : Int) from wrap_succ HLT.out HK1.out hl)
      refine ⟨⟨j + 1, gs ++ [⟨n1, n2⟩], s2, a7, c7, HLT.out, by rw [HJW.out], by simp [HDL.out], ?_, HCX.out.addG HG7.out HO7.out⟩, by rw [HJW.out]; exact meas_lt HLT.out⟩
      refine HLR.out.step (x := (⟨n1, n2⟩ : Glob)) (px := rdGlob) (q' := fun _ => rdMany rdGlob (k1 - (j + 1))) (by rw [show k1 - j = (k1 - (j + 1)) + 1 by have := HLT.out; omega]; exact many_succ _ _ _) ?_
      exact Stp.bind HSA.out (Stp.bind HSB.out (Stp.pure (x := (⟨n1, n2⟩ : Glob))))
    · have HE := hid (show Stp (rdMany rdGlob k1) st1 gs stj by
        by_cases hjn : j < k1
        · have hno : stj = none := by
            cases hst : stj with
            | none => rfl
            | some r => exact absurd ⟨hjn, by rw [hst]; rfl⟩ hgo
          have h2 := HLR.out
          rw [hno] at h2 ⊢
          exact h2.end_bad
        · exact HLR.out.fin (fun r => by rw [show k1 - j = 0 by omega]; rfl))
      have hexit : (∃ e : ¬ (j : Int) < (k1 : Int), True) ∨ (decide ((j : Int) < (k1 : Int)) = true ∧ decide (j < k1) = true ∧ Option.isNone stj = true) := by
        by_cases hjn : j < k1
        · refine .inr ⟨decide_eq_true (by omega), decide_eq_true hjn, ?_⟩
          cases stj with
          | none => rfl
          | some r => exact absurd ⟨hjn, rfl⟩ hgo
        · exact .inl ⟨by omega, trivial⟩
      clear hgo
      rcases hexit with ⟨hjn, _⟩ | ⟨h1, h1', h2⟩
      · have hd : decide ((j : Int) < (k1 : Int)) = false := decide_eq_false hjn
        have hd2 : decide (j < k1) = false := decide_eq_false (by omega)
        clear hjn
        go_wp2_with fail
        clear m0 m1 m2 mz
        refine (rrcount_calls b l _ wo HC.out.rd).mono ?_
        rintro e w2 ⟨k2, st2, rfl, hs, hr, hk, hkl⟩
        have HS2 := hid hs
        have HC2 := hid (HC.out.call hk hr)
        have HK2 := hid hkl
        have HGL := hid (show gs.length ≤ l.length by have := HDL.out; have := HK1.out; omega)
        have HST := hid (show Stp (rdList rdGlob) st gs stj from Stp.list HS1.out HE.out)
        clear hs hr hk hkl HC HLR HDL HE
        go_wp2_with fail
        go_loopw [7] (fun i wr => ∃ (q : Nat) (ls : List (List Int)) (ss : List Slc) (stq : St10) (a2 : Option Addr) (c2 : Nat), q ≤ k2 ∧ i = .int .i64 q ∧ ls.length = q ∧ LoopR (rdMany rdLay k2) (rdMany rdLay (k2 - q)) st2 stq ls ∧ CarP b w.heap.size (w.heap.size + 1) (.slice none 0 0) (.slice a j c) (.slice a2 q c2) [] [] gs ls ss l stq w wr) (fun i _ => k2 - (intOf i).toNat)
        case atStart => exact ⟨0, [], [], st2, none, 0, Nat.zero_le _, rfl, rfl, LoopR.start _ _, HC2.out⟩
        case round =>
          clear HC2
          obtain ⟨q, ls, ss, stq, a2, c2, hq, rfl, hdl, hlr, hcar⟩ := hrel
          obtain ⟨wp, hwp⟩ : ∃ wp, wp = wr := ⟨_, rfl⟩
          subst hwp
          have HLR := hid hlr
          have HC := hid hcar
          have HDL := hid hdl
          obtain ⟨nn, hrr, _⟩ := hcar.rd
          obtain ⟨bb, bo, cc, m0, m1, m2, mz, _, _, _, _, _, _, _, _⟩ := hrr.cells
          clear hrr
          clear hlr hcar hdl
          by_cases hgo : q < k2 ∧ stq.isSome = true
          · obtain ⟨hlt, hsm⟩ := hgo
            obtain ⟨rq, rfl⟩ := Option.isSome_iff_exists.1 hsm
            have hltI : (q : Int) < k2 := Int.ofNat_lt.2 hlt
            have hd : decide ((q : Int) < (k2 : Int)) = true := decide_eq_true hltI
            have hd2 : decide (q < k2) = true := decide_eq_true hlt
            have HLT := hid hlt
            have t1 : (some rq : St10).isNone = false := rfl
            rw [t1] at m2
            clear hsm t1 hlt
            go_wp2_with fail
            clear m0 m1 m2 mz
            refine (rrcount_calls b l _ wp HC.out.rd).mono ?_
            rintro e w3 ⟨k3, st3, rfl, hs, hr, hk, hkl⟩
            have HS3 := hid hs
            have HC3 := hid (HC.out.call hk hr)
            have HK3 := hid hkl
            have HZ3 := hid (show w.heap.size < w3.heap.size from HC3.out.box2.lt)
            clear hs hr hk hkl
            go_wp2_with fail
            go_loopw [8, 10] (fun row i wr => ∃ (t : Nat) (xs : List Int) (stt : St10) (a3 : Option Addr) (c3 : Nat), t ≤ k3 ∧ i = .int .i64 t ∧ row = .slice a3 t c3 ∧ xs.length = t ∧ LoopR (rdMany rdN k3) (rdMany rdN (k3 - t)) st3 stt xs ∧ RR b wr l stt ∧ OwnE intE w3.heap.size 3 wr (.slice a3 t c3) xs ∧ KN b w3.heap.size [81] w3 wr) (fun _ i _ => k3 - (intOf i).toNat)
            case atStart => exact ⟨0, [], st3, none, 0, Nat.zero_le _, rfl, rfl, rfl, LoopR.start _ _, HC3.out.rd, OwnE.nil _ _ _ _, KN.refl _ _ _ _⟩
            case round =>
              obtain ⟨t, xs, stt, a3, c3, ht, rfl, rfl, hdl, hlr, hrd, hown, hkn⟩ := hrel
              obtain ⟨wq, hwq⟩ : ∃ wq, wq = wr := ⟨_, rfl⟩
              subst hwq
              have HLR3 := hid hlr
              have HRD3 := hid hrd
              have HXS := hid hown
              have HKN3 := hid hkn
              have HDL3 := hid hdl
              obtain ⟨nn, hrr, _⟩ := hrd
              obtain ⟨bb, bo, cc, m0, m1, m2, mz, _, _, _, _, _, _, _, _⟩ := hrr.cells
              clear hrr hlr hown hkn hdl
              by_cases hgo : t < k3 ∧ stt.isSome = true
              · obtain ⟨hlt, hsm⟩ := hgo
                obtain ⟨rt, rfl⟩ := Option.isSome_iff_exists.1 hsm
                clear HLT hltI hd hd2
                have hltI : (t : Int) < k3 := Int.ofNat_lt.2 hlt
                have hd : decide ((t : Int) < (k3 : Int)) = true := decide_eq_true hltI
                have hd2 : decide (t < k3) = true := decide_eq_true hlt
                have HLT := hid hlt
                have t1 : (some rt : St10).isNone = false := rfl
                rw [t1] at m2
                clear hsm t1 hlt
                go_wp2_with fail
                clear m0 m1 m2 mz
                refine (rrnum_calls b l _ wq HRD3.out).mono ?_
                rintro e w4 ⟨m, s4, rfl, hs, hr, hk, _⟩
                have HS4 := hid hs
                have HR4 := hid hr
                have HX4 := hid (show OwnE intE w3.heap.size 3 w4 (.slice a3 t c3) xs from hk.own HXS.out (by decide))
                have HK4 := hid (HKN3.out.trans (hk.kn _))
                have HZ4 := hid (show w3.heap.size ≤ w4.heap.size from (HKN3.out.trans (hk.kn w3.heap.size)).2.1)
                have HJL := hid (show t + 1 ≤ 1000000000 by have := HK3.out; have := HLT.out; omega)
                clear hs hr hk HRD3 HXS HKN3
                go_wp2_with (
                  at_builtin
                  go_loud (refine wpList_append_E intE (o := ⟨some 71, _, _, _, _, _⟩) rfl (.tmp 67) (.tmp 70) 52 rfl w3.heap.size w3.heap.size 3 _ 8 Try.underlying52 infoInt10 rfl xs [m] (HX4.out.alloc _) ((OwnE.lit intE _ w3.heap.size 3 [m] _ w4.heap.size 1 rfl HZ4.out rfl rfl (by simp)).sl (Nat.le_refl _) (by simp)) (by have := HJL.out; have := HDL3.out; simp; omega) (by have := HJL.out; have := HDL3.out; simp only [maxLen]; simp; omega) (by have := HZ4.out; simp; omega) ?_)
                  intro q7 w7 ho7 hg7
                  go_loud (obtain ⟨a7, c7, ha7⟩ := ho7.anySlice)
                  go_loud (rw [show (xs ++ [m]).length = t + 1 by simp [HDL3.out]] at ha7)
                  subst ha7
                  have HO7 := hid ho7
                  have HG7 := hid hg7
                  clear ho7 hg7)
                have HJW := hid (show wrap64 ((t : Int) + 1) = ((t + 1 : Nat) : Int) from wrap_succ HLT.out HK3.out hl)
                have hbz : b < w3.heap.size := Nat.lt_trans HBW.out HZ3.out
                refine ⟨⟨t + 1, xs ++ [m], s4, a7, c7, HLT.out, by rw [HJW.out], rfl, by simp [HDL3.out], ?_, (HR4.out.alloc _).grown (HX4.out.alloc _) HG7.out hbz, HO7.out, HK4.out.trans ((KN.alloc _ _ _ (Nat.le_trans (Nat.le_of_lt hbz) HZ4.out)).trans (KN.grown (HX4.out.alloc _) HG7.out (by have := HZ4.out; simp; omega) (Nat.le_of_lt hbz)))⟩, by rw [HJW.out]; exact meas_lt HLT.out⟩
                exact HLR3.out.step (x := m) (px := rdN) (q' := fun _ => rdMany rdN (k3 - (t + 1))) (by rw [show k3 - t = (k3 - (t + 1)) + 1 by have := HLT.out; omega]; exact many_succ _ _ _) HS4.out
              · have HE3 := hid (show Stp (rdMany rdN k3) st3 xs stt by
                  by_cases hjn : t < k3
                  · have hno : stt = none := by
                      cases hst : stt with
                      | none => rfl
                      | some r => exact absurd ⟨hjn, by rw [hst]; rfl⟩ hgo
                    have h2 := HLR3.out
                    rw [hno] at h2 ⊢
                    exact h2.end_bad
                  · exact HLR3.out.fin (fun r => by rw [show k3 - t = 0 by omega]; rfl))
                have HCQ := hid (show CarP b w.heap.size (w.heap.size + 1) (.slice none 0 0) (.slice a j c) (.slice a2 q c2) [] [] gs ls ss l stt w wq from HC3.out.call HKN3.out.kt HRD3.out)
                have HSL := hid HCQ.out.lays.len
                have g2 := HCQ.out.box3.cell 2 _ rfl
                have gz := HCQ.out.box3.lt
                have HWZ := hid (show w.heap.size ≤ wq.heap.size by have := HCQ.out.box2.lt; omega)
                have HJL := hid (show q + 1 ≤ 1000000000 by have := HK2.out; have := HLT.out; omega)
                have HCX := hid (fun o => HCQ.out.alloc o)
                have HXX := hid (fun o : Obj => HXS.out.alloc o)
                have hexit : (∃ e : ¬ (t : Int) < (k3 : Int), True) ∨ (decide ((t : Int) < (k3 : Int)) = true ∧ decide (t < k3) = true ∧ Option.isNone stt = true) := by
                  by_cases hjn : t < k3
                  · refine .inr ⟨decide_eq_true (by omega), decide_eq_true hjn, ?_⟩
                    cases stt with
                    | none => rfl
                    | some r => exact absurd ⟨hjn, rfl⟩ hgo
                  · exact .inl ⟨by omega, trivial⟩
                clear HC3 HKN3
                clear hd hd2
                clear hgo
                rcases hexit with ⟨hjn, _⟩ | ⟨h1, h1', h2⟩
                · have hd : decide ((t : Int) < (k3 : Int)) = false := decide_eq_false hjn
                  have hd2 : decide (t < k3) = false := decide_eq_false (by omega)
                  clear hjn
                  go_wp2_with (
                    at_builtin
                    go_loud (refine wpList_append_E rowE (o := ⟨some 76, _, _, _, _, _⟩) rfl (.tmp 73) (.tmp 75) 29 rfl w.heap.size w.heap.size 52 _ 24 Try.underlying29 infoRow10 rfl ss [⟨a3, t, c3⟩] (HCX.out _).lays.row ((OwnE.lit rowE _ w.heap.size 52 [⟨a3, t, c3⟩] _ wq.heap.size 1 rfl HWZ.out rfl rfl (by simp)).sl (Nat.le_refl _) (by simp)) (by have := HJL.out; have := HDL.out; have := HSL.out; simp; omega) (by have := HJL.out; have := HDL.out; have := HSL.out; simp only [maxLen]; simp; omega) (by have := HWZ.out; simp; omega) ?_)
                    intro q7 w7 ho7 hg7
                    go_loud (obtain ⟨a7, c7, ha7⟩ := ho7.anySlice)
                    go_loud (rw [show (ss ++ [(⟨a3, t, c3⟩ : Slc)]).length = q + 1 by simp [HSL.out, HDL.out]] at ha7)
                    subst ha7
                    have HO7 := hid ho7
                    have HG7 := hid hg7
                    have hf7 := (rr_grow (HCX.out _) (HCX.out _).lays.row (by decide) hg7).2.1
                    have k3' := hf7.cell 2 _ rfl
                    have kz := hf7.lt
                    have kf := hf7.frozen 2
                    clear ho7 hg7 hf7)
                  have HJW := hid (show wrap64 ((q : Int) + 1) = ((q + 1 : Nat) : Int) from wrap_succ HLT.out HK2.out hl)
                  refine ⟨⟨q + 1, ls ++ [xs], ss ++ [⟨a3, t, c3⟩], stt, a7, c7, HLT.out, by rw [HJW.out], by simp [HDL.out], ?_, (HCX.out _).addL (x := ⟨a3, t, c3⟩) (HXX.out _) (Nat.le_of_lt HZ3.out) HG7.out HO7.out⟩, by rw [HJW.out]; exact meas_lt HLT.out⟩
                  exact HLR.out.step (x := xs) (px := rdLay) (q' := fun _ => rdMany rdLay (k2 - (q + 1))) (by rw [show k2 - q = (k2 - (q + 1)) + 1 by have := HLT.out; omega]; exact many_succ _ _ _) (Stp.list HS3.out HE3.out)
                · rw [h2] at m2
                  clear h2
                  go_wp2_with (
                    at_builtin
                    go_loud (refine wpList_append_E rowE (o := ⟨some 76, _, _, _, _, _⟩) rfl (.tmp 73) (.tmp 75) 29 rfl w.heap.size w.heap.size 52 _ 24 Try.underlying29 infoRow10 rfl ss [⟨a3, t, c3⟩] (HCX.out _).lays.row ((OwnE.lit rowE _ w.heap.size 52 [⟨a3, t, c3⟩] _ wq.heap.size 1 rfl HWZ.out rfl rfl (by simp)).sl (Nat.le_refl _) (by simp)) (by have := HJL.out; have := HDL.out; have := HSL.out; simp; omega) (by have := HJL.out; have := HDL.out; have := HSL.out; simp only [maxLen]; simp; omega) (by have := HWZ.out; simp; omega) ?_)
                    intro q7 w7 ho7 hg7
                    go_loud (obtain ⟨a7, c7, ha7⟩ := ho7.anySlice)
                    go_loud (rw [show (ss ++ [(⟨a3, t, c3⟩ : Slc)]).length = q + 1 by simp [HSL.out, HDL.out]] at ha7)
                    subst ha7
                    have HO7 := hid ho7
                    have HG7 := hid hg7
                    have hf7 := (rr_grow (HCX.out _) (HCX.out _).lays.row (by decide) hg7).2.1
                    have k3' := hf7.cell 2 _ rfl
                    have kz := hf7.lt
                    have kf := hf7.frozen 2
                    clear ho7 hg7 hf7)
                  have HJW := hid (show wrap64 ((q : Int) + 1) = ((q + 1 : Nat) : Int) from wrap_succ HLT.out HK2.out hl)
                  refine ⟨⟨q + 1, ls ++ [xs], ss ++ [⟨a3, t, c3⟩], stt, a7, c7, HLT.out, by rw [HJW.out], by simp [HDL.out], ?_, (HCX.out _).addL (x := ⟨a3, t, c3⟩) (HXX.out _) (Nat.le_of_lt HZ3.out) HG7.out HO7.out⟩, by rw [HJW.out]; exact meas_lt HLT.out⟩
                  exact HLR.out.step (x := xs) (px := rdLay) (q' := fun _ => rdMany rdLay (k2 - (q + 1))) (by rw [show k2 - q = (k2 - (q + 1)) + 1 by have := HLT.out; omega]; exact many_succ _ _ _) (Stp.list HS3.out HE3.out)
          · have HE := hid (show Stp (rdMany rdLay k2) st2 ls stq by
              by_cases hjn : q < k2
              · have hno : stq = none := by
                  cases hst : stq with
                  | none => rfl
                  | some r => exact absurd ⟨hjn, by rw [hst]; rfl⟩ hgo
                have h2 := HLR.out
                rw [hno] at h2 ⊢
                exact h2.end_bad
              · exact HLR.out.fin (fun r => by rw [show k2 - q = 0 by omega]; rfl))
            have hexit : (∃ e : ¬ (q : Int) < (k2 : Int), True) ∨ (decide ((q : Int) < (k2 : Int)) = true ∧ decide (q < k2) = true ∧ Option.isNone stq = true) := by
              by_cases hjn : q < k2
              · refine .inr ⟨decide_eq_true (by omega), decide_eq_true hjn, ?_⟩
                cases stq with
                | none => rfl
                | some r => exact absurd ⟨hjn, rfl⟩ hgo
              · exact .inl ⟨by omega, trivial⟩
            clear hgo
            rcases hexit with ⟨hjn, _⟩ | ⟨h1, h1', h2⟩
            · have hd : decide ((q : Int) < (k2 : Int)) = false := decide_eq_false hjn
              have hd2 : decide (q < k2) = false := decide_eq_false (by omega)
              clear hjn
              go_wp2_with fail
              refine (rrcount_calls b l _ wp HC.out.rd).mono ?_
              rintro e w5 ⟨k5, st5, rfl, hs, hr, hk, hkl⟩
              have HS5 := hid hs
              have HC5 := hid (HC.out.call hk hr)
              have HK5 := hid hkl
              have HLL := hid (show ls.length ≤ l.length by have := HDL.out; have := HK2.out; omega)
              have HST2 := hid (show Stp (rdList rdLay) stj ls stq from Stp.list HS2.out HE.out)
              clear hs hr hk hkl HC HLR HDL HE
              go_wp2_with fail
              go_loopw [11] (fun i wr => ∃ (v : Nat) (fs : List Fun) (cs : List Slc) (stv : St10) (a5 : Option Addr) (c5 : Nat), v ≤ k5 ∧ i = .int .i64 v ∧ fs.length = v ∧ LoopR (rdMany rdFun k5) (rdMany rdFun (k5 - v)) st5 stv fs ∧ CarP b w.heap.size (w.heap.size + 1) (.slice a5 v c5) (.slice a j c) (.slice a2 q c2) fs cs gs ls ss l stv w wr) (fun i _ => k5 - (intOf i).toNat)
              case atStart => exact ⟨0, [], [], st5, none, 0, Nat.zero_le _, rfl, rfl, LoopR.start _ _, HC5.out⟩
              case round =>
                clear HC5
                obtain ⟨v, fs, cs, stv, a5, c5, hv, rfl, hdl, hlr, hcar⟩ := hrel
                obtain ⟨wv, hwv⟩ : ∃ wv, wv = wr := ⟨_, rfl⟩
                subst hwv
                have HLR := hid hlr
                have HC := hid hcar
                have HDL := hid hdl
                clear m0 m1 m2 mz
                obtain ⟨nn, hrr, _⟩ := hcar.rd
                obtain ⟨bb, bo, cc, m0, m1, m2, mz, _, _, _, _, _, _, _, _⟩ := hrr.cells
                clear hrr
                clear hlr hcar hdl
                by_cases hgo : v < k5 ∧ stv.isSome = true
                · obtain ⟨hlt, hsm⟩ := hgo
                  obtain ⟨rv, rfl⟩ := Option.isSome_iff_exists.1 hsm
                  have hltI : (v : Int) < k5 := Int.ofNat_lt.2 hlt
                  have hd : decide ((v : Int) < (k5 : Int)) = true := decide_eq_true hltI
                  have hd2 : decide (v < k5) = true := decide_eq_true hlt
                  have HLT := hid hlt
                  have t1 : (some rv : St10).isNone = false := rfl
                  rw [t1] at m2
                  have HJL := hid (show v + 1 ≤ 1000000000 by have := HK5.out; omega)
                  clear hsm t1 hlt
                  go_wp2_with fail
                  clear m0 m1 m2 mz
                  have HG := hid (show ∀ w', GPR b w.heap.size (w.heap.size + 1) [.slice a5 v c5, .slice a j c, .slice a2 q c2, .int .i64 0] wv w' → (∀ b1 o, b1 < b → w'.cell? ⟨b1, o, none⟩ = wv.cell? ⟨b1, o, none⟩) ∧ w'.cell? ⟨w.heap.size + 1, 0, none⟩ = some (.slice a5 v c5) from fun w' h => ⟨(bcellB h.1.1).1, h.2.cell 0 _ rfl⟩)
                  refine Plan.wp_chainG planRP24 (GPR b w.heap.size (w.heap.size + 1) [.slice a5 v c5, .slice a j c, .slice a2 q c2, .int .i64 0] wv) ⟨KN.drew _ _ _ _, HC.out.drew.box3⟩ (by kernel_rfl) rfl (by kernel_rfl) (by kernel_rfl) ?_
                  repeat (first | (apply Plan.chain_skip rfl rfl; simp only [Act.put, List.setIfInBounds_toArray, List.set_cons_zero, List.set_cons_succ]) | (apply Plan.chain_det rfl rfl; (· intro w' hb; obtain ⟨hcl, hG⟩ := HG.out w' hb; go_simp; rfl); simp only [Act.put, List.setIfInBounds_toArray, List.set_cons_zero, List.set_cons_succ]))
                  refine Plan.chain_call 57 #[.pointer (some ⟨b, 0, none⟩)] (fun u w' => ∃ (f : Fun) (ac : Option Addr) (cc : Nat) (st' : St10), u = .agg #[.string f.name, .int .i64 f.params, .int .i64 f.regs, .slice ac f.code.length cc] ∧ OwnE insE wv.heap.size 57 w' (.slice ac f.code.length cc) f.code ∧ Stp rdFun (some rv) f st' ∧ RR b w' l st' ∧ KR b wv.drew w') rfl rfl rfl (by go_simp) ?_ (fun u w' h => by
                    obtain ⟨f, ac, cc, st', _, _, _, _, hk⟩ := h
                    exact ⟨(KN.drew _ _ _ _).trans (hk.kn _), hk.box HC.out.drew.box3 (by decide)⟩) (fun va wb h => ?_)
                  · refine (rrfun_calls b l _ wv.drew HC.out.drew.rd hl).mono ?_
                    rintro e w' ⟨f, s, st', rfl, ho, _, hs, hr, hk⟩
                    obtain ⟨ac, cc, hv⟩ := ho.anySlice
                    rw [hv] at ho ⊢
                    exact ⟨_, rfl, f, ac, cc, st', rfl, ho, hs, hr, hk⟩
                  obtain ⟨f, ac, cc, st', rfl, hcode, hs, hr, hkb⟩ := h
                  simp only [Act.put, List.setIfInBounds_toArray, List.set_cons_zero, List.set_cons_succ]
                  have HCO := hid (show OwnE insE wv.heap.size 57 wb (Slc.val ⟨ac, f.code.length, cc⟩) f.code from hcode)
                  have HSF := hid hs
                  have HCB := hid (HC.out.drew.call hkb hr)
                  have HKB := hid (show KN b w.heap.size [81] wv wb from (KN.drew _ _ _ _).trans (hkb.kn _))
                  have HSZ := hid (show w.heap.size < wb.heap.size from HCB.out.box2.lt)
                  have HCL := hid HC.out.funs.len
                  have HWZ := hid (show w.heap.size ≤ wv.heap.size by have := HC.out.box2.lt; omega)
                  clear hs hr hkb hcode
                  repeat (first | (apply Plan.chain_skip rfl rfl; simp only [Act.put, List.setIfInBounds_toArray, List.set_cons_zero, List.set_cons_succ]) | (apply Plan.chain_det rfl rfl; (· intro w' hb; obtain ⟨hcl, hG⟩ := HG.out w' hb; go_simp; rfl); simp only [Act.put, List.setIfInBounds_toArray, List.set_cons_zero, List.set_cons_succ]))
                  refine Plan.chain_litG funE w.heap.size 55 [(f, ⟨ac, f.code.length, cc⟩)] #[.string f.name, .int .i64 f.params, .int .i64 f.regs, .slice ac f.code.length cc] 1 rfl rfl rfl (by go_simp) rfl rfl (by simp) (Nat.le_of_lt HSZ.out) ⟨HKB.out.trans (KN.alloc _ _ _ (by have := HSZ.out; have := HBW.out; omega)), HCB.out.box3.alloc _⟩ (fun ho1 => ?_)
                  simp only [Act.put, List.setIfInBounds_toArray, List.set_cons_zero, List.set_cons_succ]
                  have HO1 := hid ho1
                  clear ho1
                  repeat (first | (apply Plan.chain_skip rfl rfl; simp only [Act.put, List.setIfInBounds_toArray, List.set_cons_zero, List.set_cons_succ]) | (apply Plan.chain_det rfl rfl; (· intro w' hb; obtain ⟨hcl, hG⟩ := HG.out w' hb; go_simp; rfl); simp only [Act.put, List.setIfInBounds_toArray, List.set_cons_zero, List.set_cons_succ]))
                  refine Plan.chain_appendG funE (.tmp 93) (.tmp 96) 27 w.heap.size w.heap.size 55 _ 56 (fs.zip cs) [(f, ⟨ac, f.code.length, cc⟩)] rfl rfl rfl rfl Try.underlying27 infoFun10 rfl (HCB.out.alloc _).funs.row (HO1.out.sl (Nat.le_refl _) (by simp)) (by have := HJL.out; have := HDL.out; simp; omega) (by have := HJL.out; have := HDL.out; simp only [maxLen]; simp; omega) (by have := HSZ.out; simp; omega) (fun w7 hg7 => ?_) (fun a7 c7 w7 ho7 hg7 => ?_)
                  · have h1 := (rr_grow (HCB.out.alloc _) (HCB.out.alloc _).funs.row (by decide) hg7).2.1
                    exact ⟨HKB.out.trans ((KN.alloc _ _ _ (by have := HSZ.out; have := HBW.out; omega)).trans (KN.grown (HCB.out.alloc _).funs.row hg7 (by have := HSZ.out; have := HBW.out; simp; omega) (Nat.le_of_lt HBW.out))), h1⟩
                  simp only [Act.put, List.setIfInBounds_toArray, List.set_cons_zero, List.set_cons_succ]
                  rw [show (fs.zip cs ++ [(f, (⟨ac, f.code.length, cc⟩ : Slc))]).length = v + 1 by simp [HDL.out, HCL.out]] at ho7 ⊢
                  have h1 := (rr_grow (HCB.out.alloc _) (HCB.out.alloc _).funs.row (by decide) hg7).2.1
                  have HO7 := hid ho7
                  have HG7 := hid hg7
                  have k0' := h1.cell 0 _ rfl
                  have kz := h1.lt
                  have kf := h1.frozen 0
                  clear h1 ho7 hg7
                  repeat (first | (apply Plan.chain_skip rfl rfl; simp only [Act.put, List.setIfInBounds_toArray, List.set_cons_zero, List.set_cons_succ]) | (apply Plan.chain_det rfl rfl; (· intro w' hb; obtain ⟨hcl, hG⟩ := HG.out w' hb; go_simp; rfl); simp only [Act.put, List.setIfInBounds_toArray, List.set_cons_zero, List.set_cons_succ]))
                  refine Plan.chain_fin rfl rfl ?_
                  unfold Oper.wp
                  go_simp
                  go_wp2_with fail
                  have HJW := hid (show wrap64 ((v : Int) + 1) = ((v + 1 : Nat) : Int) from wrap_succ HLT.out HK5.out hl)
                  refine ⟨⟨v + 1, fs ++ [f], cs ++ [⟨ac, f.code.length, cc⟩], st', a7, c7, HLT.out, by rw [HJW.out], by simp [HDL.out], ?_, (HCB.out.alloc _).addF (x := ⟨ac, f.code.length, cc⟩) (fun i hi k hk => ((HC.out.funs.code i hi).lt k hk).2) (HCO.out.alloc _) HWZ.out HG7.out HO7.out⟩, by rw [HJW.out]; exact meas_lt HLT.out⟩
                  exact HLR.out.step (x := f) (px := rdFun) (q' := fun _ => rdMany rdFun (k5 - (v + 1))) (by rw [show k5 - v = (k5 - (v + 1)) + 1 by have := HLT.out; omega]; exact many_succ _ _ _) HSF.out
                · have HE := hid (show Stp (rdMany rdFun k5) st5 fs stv by
                    by_cases hjn : v < k5
                    · have hno : stv = none := by
                        cases hst : stv with
                        | none => rfl
                        | some r => exact absurd ⟨hjn, by rw [hst]; rfl⟩ hgo
                      have h2 := HLR.out
                      rw [hno] at h2 ⊢
                      exact h2.end_bad
                    · exact HLR.out.fin (fun r => by rw [show k5 - v = 0 by omega]; rfl))
                  have hexit : (∃ e : ¬ (v : Int) < (k5 : Int), True) ∨ (decide ((v : Int) < (k5 : Int)) = true ∧ decide (v < k5) = true ∧ Option.isNone stv = true) := by
                    by_cases hjn : v < k5
                    · refine .inr ⟨decide_eq_true (by omega), decide_eq_true hjn, ?_⟩
                      cases stv with
                      | none => rfl
                      | some r => exact absurd ⟨hjn, rfl⟩ hgo
                    · exact .inl ⟨by omega, trivial⟩
                  clear hgo
                  rcases hexit with ⟨hjn, _⟩ | ⟨h1, h1', h2⟩
                  · have hd : decide ((v : Int) < (k5 : Int)) = false := decide_eq_false hjn
                    have hd2 : decide (v < k5) = false := decide_eq_false (by omega)
                    clear hjn
                    go_wp2_with fail
                    clear m0 m1 m2 mz
                    refine (rrnum_calls b l _ wv HC.out.rd).mono ?_
                    rintro e w6 ⟨m, st6, rfl, hs, hr, hk, _⟩
                    have hc6 := HC.out.call hk hr
                    have HS6 := hid hs
                    have x0 := hc6.box3.cell 0 _ rfl
                    have x1 := hc6.box3.cell 1 _ rfl
                    have x2 := hc6.box3.cell 2 _ rfl
                    have x3 := hc6.box3.cell 3 _ rfl
                    have xz := hc6.box3.lt
                    have xf := hc6.box3.frozen 3
                    have y0 := hc6.box2.cell 0 _ rfl
                    have y1 := hc6.box2.cell 1 _ rfl
                    have y2 := hc6.box2.cell 2 _ rfl
                    have y3 := hc6.box2.cell 3 _ rfl
                    have yz := hc6.box2.lt
                    have f0 := hc6.box2.frozen 0
                    have f1 := hc6.box2.frozen 1
                    have f2 := hc6.box2.frozen 2
                    have f3 := hc6.box2.frozen 3
                    have HC6 := hid hc6
                    have HFL := hid (show fs.length ≤ l.length by have := HDL.out; have := HK5.out; omega)
                    clear hs hr hk hc6
                    go_wp2_with fail
                    obtain ⟨e1, e2⟩ := rprg_end HC6.out HC6.out.kn m st HFL.out HGL.out HLL.out (HST.out.bind (HST2.out.bind (Stp.bind (Stp.list HS5.out HE.out) (Stp.bind HS6.out (Stp.pure (x := (⟨fs, gs, ls, m⟩ : Prg)))))))
                    refine bodyPost_ret (v := .agg #[.slice a5 v c5, .slice a j c, .slice a2 q c2, .int .i64 m]) ?_ rfl e2
                    exact results_cell_row (P := Try.prog) rfl _ _ w.heap.size 31 #[.slice a5 v c5, .slice a j c, .slice a2 q c2, .int .i64 m] (0, 0) _ rfl e1 Try.underlying31 rfl rfl
                  · rw [h2] at m2
                    clear h2
                    go_wp2_with fail
                    clear m0 m1 m2 mz
                    refine (rrnum_calls b l _ wv HC.out.rd).mono ?_
                    rintro e w6 ⟨m, st6, rfl, hs, hr, hk, _⟩
                    have hc6 := HC.out.call hk hr
                    have HS6 := hid hs
                    have x0 := hc6.box3.cell 0 _ rfl
                    have x1 := hc6.box3.cell 1 _ rfl
                    have x2 := hc6.box3.cell 2 _ rfl
                    have x3 := hc6.box3.cell 3 _ rfl
                    have xz := hc6.box3.lt
                    have xf := hc6.box3.frozen 3
                    have y0 := hc6.box2.cell 0 _ rfl
                    have y1 := hc6.box2.cell 1 _ rfl
                    have y2 := hc6.box2.cell 2 _ rfl
                    have y3 := hc6.box2.cell 3 _ rfl
                    have yz := hc6.box2.lt
                    have f0 := hc6.box2.frozen 0
                    have f1 := hc6.box2.frozen 1
                    have f2 := hc6.box2.frozen 2
                    have f3 := hc6.box2.frozen 3
                    have HC6 := hid hc6
                    have HFL := hid (show fs.length ≤ l.length by have := HDL.out; have := HK5.out; omega)
                    clear hs hr hk hc6
                    go_wp2_with fail
                    obtain ⟨e1, e2⟩ := rprg_end HC6.out HC6.out.kn m st HFL.out HGL.out HLL.out (HST.out.bind (HST2.out.bind (Stp.bind (Stp.list HS5.out HE.out) (Stp.bind HS6.out (Stp.pure (x := (⟨fs, gs, ls, m⟩ : Prg)))))))
                    refine bodyPost_ret (v := .agg #[.slice a5 v c5, .slice a j c, .slice a2 q c2, .int .i64 m]) ?_ rfl e2
                    exact results_cell_row (P := Try.prog) rfl _ _ w.heap.size 31 #[.slice a5 v c5, .slice a j c, .slice a2 q c2, .int .i64 m] (0, 0) _ rfl e1 Try.underlying31 rfl rfl
            · rw [h2] at m2
              clear h2
              go_wp2_with fail
              refine (rrcount_calls b l _ wp HC.out.rd).mono ?_
              rintro e w5 ⟨k5, st5, rfl, hs, hr, hk, hkl⟩
              have HS5 := hid hs
              have HC5 := hid (HC.out.call hk hr)
              have HK5 := hid hkl
              have HLL := hid (show ls.length ≤ l.length by have := HDL.out; have := HK2.out; omega)
              have HST2 := hid (show Stp (rdList rdLay) stj ls stq from Stp.list HS2.out HE.out)
              clear hs hr hk hkl HC HLR HDL HE
              go_wp2_with fail
              go_loopw [11] (fun i wr => ∃ (v : Nat) (fs : List Fun) (cs : List Slc) (stv : St10) (a5 : Option Addr) (c5 : Nat), v ≤ k5 ∧ i = .int .i64 v ∧ fs.length = v ∧ LoopR (rdMany rdFun k5) (rdMany rdFun (k5 - v)) st5 stv fs ∧ CarP b w.heap.size (w.heap.size + 1) (.slice a5 v c5) (.slice a j c) (.slice a2 q c2) fs cs gs ls ss l stv w wr) (fun i _ => k5 - (intOf i).toNat)
              case atStart => exact ⟨0, [], [], st5, none, 0, Nat.zero_le _, rfl, rfl, LoopR.start _ _, HC5.out⟩
              case round =>
                clear HC5
                obtain ⟨v, fs, cs, stv, a5, c5, hv, rfl, hdl, hlr, hcar⟩ := hrel
                obtain ⟨wv, hwv⟩ : ∃ wv, wv = wr := ⟨_, rfl⟩
                subst hwv
                have HLR := hid hlr
                have HC := hid hcar
                have HDL := hid hdl
                clear m0 m1 m2 mz
                obtain ⟨nn, hrr, _⟩ := hcar.rd
                obtain ⟨bb, bo, cc, m0, m1, m2, mz, _, _, _, _, _, _, _, _⟩ := hrr.cells
                clear hrr
                clear hlr hcar hdl
                by_cases hgo : v < k5 ∧ stv.isSome = true
                · obtain ⟨hlt, hsm⟩ := hgo
                  obtain ⟨rv, rfl⟩ := Option.isSome_iff_exists.1 hsm
                  have hltI : (v : Int) < k5 := Int.ofNat_lt.2 hlt
                  have hd : decide ((v : Int) < (k5 : Int)) = true := decide_eq_true hltI
                  have hd2 : decide (v < k5) = true := decide_eq_true hlt
                  have HLT := hid hlt
                  have t1 : (some rv : St10).isNone = false := rfl
                  rw [t1] at m2
                  have HJL := hid (show v + 1 ≤ 1000000000 by have := HK5.out; omega)
                  clear hsm t1 hlt
                  go_wp2_with fail
                  clear m0 m1 m2 mz
                  have HG := hid (show ∀ w', GPR b w.heap.size (w.heap.size + 1) [.slice a5 v c5, .slice a j c, .slice a2 q c2, .int .i64 0] wv w' → (∀ b1 o, b1 < b → w'.cell? ⟨b1, o, none⟩ = wv.cell? ⟨b1, o, none⟩) ∧ w'.cell? ⟨w.heap.size + 1, 0, none⟩ = some (.slice a5 v c5) from fun w' h => ⟨(bcellB h.1.1).1, h.2.cell 0 _ rfl⟩)
                  refine Plan.wp_chainG planRP24 (GPR b w.heap.size (w.heap.size + 1) [.slice a5 v c5, .slice a j c, .slice a2 q c2, .int .i64 0] wv) ⟨KN.drew _ _ _ _, HC.out.drew.box3⟩ (by kernel_rfl) rfl (by kernel_rfl) (by kernel_rfl) ?_
                  repeat (first | (apply Plan.chain_skip rfl rfl; simp only [Act.put, List.setIfInBounds_toArray, List.set_cons_zero, List.set_cons_succ]) | (apply Plan.chain_det rfl rfl; (· intro w' hb; obtain ⟨hcl, hG⟩ := HG.out w' hb; go_simp; rfl); simp only [Act.put, List.setIfInBounds_toArray, List.set_cons_zero, List.set_cons_succ]))
                  refine Plan.chain_call 57 #[.pointer (some ⟨b, 0, none⟩)] (fun u w' => ∃ (f : Fun) (ac : Option Addr) (cc : Nat) (st' : St10), u = .agg #[.string f.name, .int .i64 f.params, .int .i64 f.regs, .slice ac f.code.length cc] ∧ OwnE insE wv.heap.size 57 w' (.slice ac f.code.length cc) f.code ∧ Stp rdFun (some rv) f st' ∧ RR b w' l st' ∧ KR b wv.drew w') rfl rfl rfl (by go_simp) ?_ (fun u w' h => by
                    obtain ⟨f, ac, cc, st', _, _, _, _, hk⟩ := h
                    exact ⟨(KN.drew _ _ _ _).trans (hk.kn _), hk.box HC.out.drew.box3 (by decide)⟩) (fun va wb h => ?_)
                  · refine (rrfun_calls b l _ wv.drew HC.out.drew.rd hl).mono ?_
                    rintro e w' ⟨f, s, st', rfl, ho, _, hs, hr, hk⟩
                    obtain ⟨ac, cc, hv⟩ := ho.anySlice
                    rw [hv] at ho ⊢
                    exact ⟨_, rfl, f, ac, cc, st', rfl, ho, hs, hr, hk⟩
                  obtain ⟨f, ac, cc, st', rfl, hcode, hs, hr, hkb⟩ := h
                  simp only [Act.put, List.setIfInBounds_toArray, List.set_cons_zero, List.set_cons_succ]
                  have HCO := hid (show OwnE insE wv.heap.size 57 wb (Slc.val ⟨ac, f.code.length, cc⟩) f.code from hcode)
                  have HSF := hid hs
                  have HCB := hid (HC.out.drew.call hkb hr)
                  have HKB := hid (show KN b w.heap.size [81] wv wb from (KN.drew _ _ _ _).trans (hkb.kn _))
                  have HSZ := hid (show w.heap.size < wb.heap.size from HCB.out.box2.lt)
                  have HCL := hid HC.out.funs.len
                  have HWZ := hid (show w.heap.size ≤ wv.heap.size by have := HC.out.box2.lt; omega)
                  clear hs hr hkb hcode
                  repeat (first | (apply Plan.chain_skip rfl rfl; simp only [Act.put, List.setIfInBounds_toArray, List.set_cons_zero, List.set_cons_succ]) | (apply Plan.chain_det rfl rfl; (· intro w' hb; obtain ⟨hcl, hG⟩ := HG.out w' hb; go_simp; rfl); simp only [Act.put, List.setIfInBounds_toArray, List.set_cons_zero, List.set_cons_succ]))
                  refine Plan.chain_litG funE w.heap.size 55 [(f, ⟨ac, f.code.length, cc⟩)] #[.string f.name, .int .i64 f.params, .int .i64 f.regs, .slice ac f.code.length cc] 1 rfl rfl rfl (by go_simp) rfl rfl (by simp) (Nat.le_of_lt HSZ.out) ⟨HKB.out.trans (KN.alloc _ _ _ (by have := HSZ.out; have := HBW.out; omega)), HCB.out.box3.alloc _⟩ (fun ho1 => ?_)
                  simp only [Act.put, List.setIfInBounds_toArray, List.set_cons_zero, List.set_cons_succ]
                  have HO1 := hid ho1
                  clear ho1
                  repeat (first | (apply Plan.chain_skip rfl rfl; simp only [Act.put, List.setIfInBounds_toArray, List.set_cons_zero, List.set_cons_succ]) | (apply Plan.chain_det rfl rfl; (· intro w' hb; obtain ⟨hcl, hG⟩ := HG.out w' hb; go_simp; rfl); simp only [Act.put, List.setIfInBounds_toArray, List.set_cons_zero, List.set_cons_succ]))
                  refine Plan.chain_appendG funE (.tmp 93) (.tmp 96) 27 w.heap.size w.heap.size 55 _ 56 (fs.zip cs) [(f, ⟨ac, f.code.length, cc⟩)] rfl rfl rfl rfl Try.underlying27 infoFun10 rfl (HCB.out.alloc _).funs.row (HO1.out.sl (Nat.le_refl _) (by simp)) (by have := HJL.out; have := HDL.out; simp; omega) (by have := HJL.out; have := HDL.out; simp only [maxLen]; simp; omega) (by have := HSZ.out; simp; omega) (fun w7 hg7 => ?_) (fun a7 c7 w7 ho7 hg7 => ?_)
                  · have h1 := (rr_grow (HCB.out.alloc _) (HCB.out.alloc _).funs.row (by decide) hg7).2.1
                    exact ⟨HKB.out.trans ((KN.alloc _ _ _ (by have := HSZ.out; have := HBW.out; omega)).trans (KN.grown (HCB.out.alloc _).funs.row hg7 (by have := HSZ.out; have := HBW.out; simp; omega) (Nat.le_of_lt HBW.out))), h1⟩
                  simp only [Act.put, List.setIfInBounds_toArray, List.set_cons_zero, List.set_cons_succ]
                  rw [show (fs.zip cs ++ [(f, (⟨ac, f.code.length, cc⟩ : Slc))]).length = v + 1 by simp [HDL.out, HCL.out]] at ho7 ⊢
                  have h1 := (rr_grow (HCB.out.alloc _) (HCB.out.alloc _).funs.row (by decide) hg7).2.1
                  have HO7 := hid ho7
                  have HG7 := hid hg7
                  have k0' := h1.cell 0 _ rfl
                  have kz := h1.lt
                  have kf := h1.frozen 0
                  clear h1 ho7 hg7
                  repeat (first | (apply Plan.chain_skip rfl rfl; simp only [Act.put, List.setIfInBounds_toArray, List.set_cons_zero, List.set_cons_succ]) | (apply Plan.chain_det rfl rfl; (· intro w' hb; obtain ⟨hcl, hG⟩ := HG.out w' hb; go_simp; rfl); simp only [Act.put, List.setIfInBounds_toArray, List.set_cons_zero, List.set_cons_succ]))
                  refine Plan.chain_fin rfl rfl ?_
                  unfold Oper.wp
                  go_simp
                  go_wp2_with fail
                  have HJW := hid (show wrap64 ((v : Int) + 1) = ((v + 1 : Nat) : Int) from wrap_succ HLT.out HK5.out hl)
                  refine ⟨⟨v + 1, fs ++ [f], cs ++ [⟨ac, f.code.length, cc⟩], st', a7, c7, HLT.out, by rw [HJW.out], by simp [HDL.out], ?_, (HCB.out.alloc _).addF (x := ⟨ac, f.code.length, cc⟩) (fun i hi k hk => ((HC.out.funs.code i hi).lt k hk).2) (HCO.out.alloc _) HWZ.out HG7.out HO7.out⟩, by rw [HJW.out]; exact meas_lt HLT.out⟩
                  exact HLR.out.step (x := f) (px := rdFun) (q' := fun _ => rdMany rdFun (k5 - (v + 1))) (by rw [show k5 - v = (k5 - (v + 1)) + 1 by have := HLT.out; omega]; exact many_succ _ _ _) HSF.out
                · have HE := hid (show Stp (rdMany rdFun k5) st5 fs stv by
                    by_cases hjn : v < k5
                    · have hno : stv = none := by
                        cases hst : stv with
                        | none => rfl
                        | some r => exact absurd ⟨hjn, by rw [hst]; rfl⟩ hgo
                      have h2 := HLR.out
                      rw [hno] at h2 ⊢
                      exact h2.end_bad
                    · exact HLR.out.fin (fun r => by rw [show k5 - v = 0 by omega]; rfl))
                  have hexit : (∃ e : ¬ (v : Int) < (k5 : Int), True) ∨ (decide ((v : Int) < (k5 : Int)) = true ∧ decide (v < k5) = true ∧ Option.isNone stv = true) := by
                    by_cases hjn : v < k5
                    · refine .inr ⟨decide_eq_true (by omega), decide_eq_true hjn, ?_⟩
                      cases stv with
                      | none => rfl
                      | some r => exact absurd ⟨hjn, rfl⟩ hgo
                    · exact .inl ⟨by omega, trivial⟩
                  clear hgo
                  rcases hexit with ⟨hjn, _⟩ | ⟨h1, h1', h2⟩
                  · have hd : decide ((v : Int) < (k5 : Int)) = false := decide_eq_false hjn
                    have hd2 : decide (v < k5) = false := decide_eq_false (by omega)
                    clear hjn
                    go_wp2_with fail
                    clear m0 m1 m2 mz
                    refine (rrnum_calls b l _ wv HC.out.rd).mono ?_
                    rintro e w6 ⟨m, st6, rfl, hs, hr, hk, _⟩
                    have hc6 := HC.out.call hk hr
                    have HS6 := hid hs
                    have x0 := hc6.box3.cell 0 _ rfl
                    have x1 := hc6.box3.cell 1 _ rfl
                    have x2 := hc6.box3.cell 2 _ rfl
                    have x3 := hc6.box3.cell 3 _ rfl
                    have xz := hc6.box3.lt
                    have xf := hc6.box3.frozen 3
                    have y0 := hc6.box2.cell 0 _ rfl
                    have y1 := hc6.box2.cell 1 _ rfl
                    have y2 := hc6.box2.cell 2 _ rfl
                    have y3 := hc6.box2.cell 3 _ rfl
                    have yz := hc6.box2.lt
                    have f0 := hc6.box2.frozen 0
                    have f1 := hc6.box2.frozen 1
                    have f2 := hc6.box2.frozen 2
                    have f3 := hc6.box2.frozen 3
                    have HC6 := hid hc6
                    have HFL := hid (show fs.length ≤ l.length by have := HDL.out; have := HK5.out; omega)
                    clear hs hr hk hc6
                    go_wp2_with fail
                    obtain ⟨e1, e2⟩ := rprg_end HC6.out HC6.out.kn m st HFL.out HGL.out HLL.out (HST.out.bind (HST2.out.bind (Stp.bind (Stp.list HS5.out HE.out) (Stp.bind HS6.out (Stp.pure (x := (⟨fs, gs, ls, m⟩ : Prg)))))))
                    refine bodyPost_ret (v := .agg #[.slice a5 v c5, .slice a j c, .slice a2 q c2, .int .i64 m]) ?_ rfl e2
                    exact results_cell_row (P := Try.prog) rfl _ _ w.heap.size 31 #[.slice a5 v c5, .slice a j c, .slice a2 q c2, .int .i64 m] (0, 0) _ rfl e1 Try.underlying31 rfl rfl
                  · rw [h2] at m2
                    clear h2
                    go_wp2_with fail
                    clear m0 m1 m2 mz
                    refine (rrnum_calls b l _ wv HC.out.rd).mono ?_
                    rintro e w6 ⟨m, st6, rfl, hs, hr, hk, _⟩
                    have hc6 := HC.out.call hk hr
                    have HS6 := hid hs
                    have x0 := hc6.box3.cell 0 _ rfl
                    have x1 := hc6.box3.cell 1 _ rfl
                    have x2 := hc6.box3.cell 2 _ rfl
                    have x3 := hc6.box3.cell 3 _ rfl
                    have xz := hc6.box3.lt
                    have xf := hc6.box3.frozen 3
                    have y0 := hc6.box2.cell 0 _ rfl
                    have y1 := hc6.box2.cell 1 _ rfl
                    have y2 := hc6.box2.cell 2 _ rfl
                    have y3 := hc6.box2.cell 3 _ rfl
                    have yz := hc6.box2.lt
                    have f0 := hc6.box2.frozen 0
                    have f1 := hc6.box2.frozen 1
                    have f2 := hc6.box2.frozen 2
                    have f3 := hc6.box2.frozen 3
                    have HC6 := hid hc6
                    have HFL := hid (show fs.length ≤ l.length by have := HDL.out; have := HK5.out; omega)
                    clear hs hr hk hc6
                    go_wp2_with fail
                    obtain ⟨e1, e2⟩ := rprg_end HC6.out HC6.out.kn m st HFL.out HGL.out HLL.out (HST.out.bind (HST2.out.bind (Stp.bind (Stp.list HS5.out HE.out) (Stp.bind HS6.out (Stp.pure (x := (⟨fs, gs, ls, m⟩ : Prg)))))))
                    refine bodyPost_ret (v := .agg #[.slice a5 v c5, .slice a j c, .slice a2 q c2, .int .i64 m]) ?_ rfl e2
                    exact results_cell_row (P := Try.prog) rfl _ _ w.heap.size 31 #[.slice a5 v c5, .slice a j c, .slice a2 q c2, .int .i64 m] (0, 0) _ rfl e1 Try.underlying31 rfl rfl
      · rw [h2] at m2
        clear h2
        go_wp2_with fail
        clear m0 m1 m2 mz
        refine (rrcount_calls b l _ wo HC.out.rd).mono ?_
        rintro e w2 ⟨k2, st2, rfl, hs, hr, hk, hkl⟩
        have HS2 := hid hs
        have HC2 := hid (HC.out.call hk hr)
        have HK2 := hid hkl
        have HGL := hid (show gs.length ≤ l.length by have := HDL.out; have := HK1.out; omega)
        have HST := hid (show Stp (rdList rdGlob) st gs stj from Stp.list HS1.out HE.out)
        clear hs hr hk hkl HC HLR HDL HE
        go_wp2_with fail
        go_loopw [7] (fun i wr => ∃ (q : Nat) (ls : List (List Int)) (ss : List Slc) (stq : St10) (a2 : Option Addr) (c2 : Nat), q ≤ k2 ∧ i = .int .i64 q ∧ ls.length = q ∧ LoopR (rdMany rdLay k2) (rdMany rdLay (k2 - q)) st2 stq ls ∧ CarP b w.heap.size (w.heap.size + 1) (.slice none 0 0) (.slice a j c) (.slice a2 q c2) [] [] gs ls ss l stq w wr) (fun i _ => k2 - (intOf i).toNat)
        case atStart => exact ⟨0, [], [], st2, none, 0, Nat.zero_le _, rfl, rfl, LoopR.start _ _, HC2.out⟩
        case round =>
          clear HC2
          obtain ⟨q, ls, ss, stq, a2, c2, hq, rfl, hdl, hlr, hcar⟩ := hrel
          obtain ⟨wp, hwp⟩ : ∃ wp, wp = wr := ⟨_, rfl⟩
          subst hwp
          have HLR := hid hlr
          have HC := hid hcar
          have HDL := hid hdl
          obtain ⟨nn, hrr, _⟩ := hcar.rd
          obtain ⟨bb, bo, cc, m0, m1, m2, mz, _, _, _, _, _, _, _, _⟩ := hrr.cells
          clear hrr
          clear hlr hcar hdl
          by_cases hgo : q < k2 ∧ stq.isSome = true
          · obtain ⟨hlt, hsm⟩ := hgo
            obtain ⟨rq, rfl⟩ := Option.isSome_iff_exists.1 hsm
            have hltI : (q : Int) < k2 := Int.ofNat_lt.2 hlt
            have hd : decide ((q : Int) < (k2 : Int)) = true := decide_eq_true hltI
            have hd2 : decide (q < k2) = true := decide_eq_true hlt
            have HLT := hid hlt
            have t1 : (some rq : St10).isNone = false := rfl
            rw [t1] at m2
            clear hsm t1 hlt
            go_wp2_with fail
            clear m0 m1 m2 mz
            refine (rrcount_calls b l _ wp HC.out.rd).mono ?_
            rintro e w3 ⟨k3, st3, rfl, hs, hr, hk, hkl⟩
            have HS3 := hid hs
            have HC3 := hid (HC.out.call hk hr)
            have HK3 := hid hkl
            have HZ3 := hid (show w.heap.size < w3.heap.size from HC3.out.box2.lt)
            clear hs hr hk hkl
            go_wp2_with fail
            go_loopw [8, 10] (fun row i wr => ∃ (t : Nat) (xs : List Int) (stt : St10) (a3 : Option Addr) (c3 : Nat), t ≤ k3 ∧ i = .int .i64 t ∧ row = .slice a3 t c3 ∧ xs.length = t ∧ LoopR (rdMany rdN k3) (rdMany rdN (k3 - t)) st3 stt xs ∧ RR b wr l stt ∧ OwnE intE w3.heap.size 3 wr (.slice a3 t c3) xs ∧ KN b w3.heap.size [81] w3 wr) (fun _ i _ => k3 - (intOf i).toNat)
            case atStart => exact ⟨0, [], st3, none, 0, Nat.zero_le _, rfl, rfl, rfl, LoopR.start _ _, HC3.out.rd, OwnE.nil _ _ _ _, KN.refl _ _ _ _⟩
            case round =>
              obtain ⟨t, xs, stt, a3, c3, ht, rfl, rfl, hdl, hlr, hrd, hown, hkn⟩ := hrel
              obtain ⟨wq, hwq⟩ : ∃ wq, wq = wr := ⟨_, rfl⟩
              subst hwq
              have HLR3 := hid hlr
              have HRD3 := hid hrd
              have HXS := hid hown
              have HKN3 := hid hkn
              have HDL3 := hid hdl
              obtain ⟨nn, hrr, _⟩ := hrd
              obtain ⟨bb, bo, cc, m0, m1, m2, mz, _, _, _, _, _, _, _, _⟩ := hrr.cells
              clear hrr hlr hown hkn hdl
              by_cases hgo : t < k3 ∧ stt.isSome = true
              · obtain ⟨hlt, hsm⟩ := hgo
                obtain ⟨rt, rfl⟩ := Option.isSome_iff_exists.1 hsm
                clear HLT hltI hd hd2
                have hltI : (t : Int) < k3 := Int.ofNat_lt.2 hlt
                have hd : decide ((t : Int) < (k3 : Int)) = true := decide_eq_true hltI
                have hd2 : decide (t < k3) = true := decide_eq_true hlt
                have HLT := hid hlt
                have t1 : (some rt : St10).isNone = false := rfl
                rw [t1] at m2
                clear hsm t1 hlt
                go_wp2_with fail
                clear m0 m1 m2 mz
                refine (rrnum_calls b l _ wq HRD3.out).mono ?_
                rintro e w4 ⟨m, s4, rfl, hs, hr, hk, _⟩
                have HS4 := hid hs
                have HR4 := hid hr
                have HX4 := hid (show OwnE intE w3.heap.size 3 w4 (.slice a3 t c3) xs from hk.own HXS.out (by decide))
                have HK4 := hid (HKN3.out.trans (hk.kn _))
                have HZ4 := hid (show w3.heap.size ≤ w4.heap.size from (HKN3.out.trans (hk.kn w3.heap.size)).2.1)
                have HJL := hid (show t + 1 ≤ 1000000000 by have := HK3.out; have := HLT.out; omega)
                clear hs hr hk HRD3 HXS HKN3
                go_wp2_with (
                  at_builtin
                  go_loud (refine wpList_append_E intE (o := ⟨some 71, _, _, _, _, _⟩) rfl (.tmp 67) (.tmp 70) 52 rfl w3.heap.size w3.heap.size 3 _ 8 Try.underlying52 infoInt10 rfl xs [m] (HX4.out.alloc _) ((OwnE.lit intE _ w3.heap.size 3 [m] _ w4.heap.size 1 rfl HZ4.out rfl rfl (by simp)).sl (Nat.le_refl _) (by simp)) (by have := HJL.out; have := HDL3.out; simp; omega) (by have := HJL.out; have := HDL3.out; simp only [maxLen]; simp; omega) (by have := HZ4.out; simp; omega) ?_)
                  intro q7 w7 ho7 hg7
                  go_loud (obtain ⟨a7, c7, ha7⟩ := ho7.anySlice)
                  go_loud (rw [show (xs ++ [m]).length = t + 1 by simp [HDL3.out]] at ha7)
                  subst ha7
                  have HO7 := hid ho7
                  have HG7 := hid hg7
                  clear ho7 hg7)
                have HJW := hid (show wrap64 ((t : Int) + 1) = ((t + 1 : Nat) : Int) from wrap_succ HLT.out HK3.out hl)
                have hbz : b < w3.heap.size := Nat.lt_trans HBW.out HZ3.out
                refine ⟨⟨t + 1, xs ++ [m], s4, a7, c7, HLT.out, by rw [HJW.out], rfl, by simp [HDL3.out], ?_, (HR4.out.alloc _).grown (HX4.out.alloc _) HG7.out hbz, HO7.out, HK4.out.trans ((KN.alloc _ _ _ (Nat.le_trans (Nat.le_of_lt hbz) HZ4.out)).trans (KN.grown (HX4.out.alloc _) HG7.out (by have := HZ4.out; simp; omega) (Nat.le_of_lt hbz)))⟩, by rw [HJW.out]; exact meas_lt HLT.out⟩
                exact HLR3.out.step (x := m) (px := rdN) (q' := fun _ => rdMany rdN (k3 - (t + 1))) (by rw [show k3 - t = (k3 - (t + 1)) + 1 by have := HLT.out; omega]; exact many_succ _ _ _) HS4.out
              · have HE3 := hid (show Stp (rdMany rdN k3) st3 xs stt by
                  by_cases hjn : t < k3
                  · have hno : stt = none := by
                      cases hst : stt with
                      | none => rfl
                      | some r => exact absurd ⟨hjn, by rw [hst]; rfl⟩ hgo
                    have h2 := HLR3.out
                    rw [hno] at h2 ⊢
                    exact h2.end_bad
                  · exact HLR3.out.fin (fun r => by rw [show k3 - t = 0 by omega]; rfl))
                have HCQ := hid (show CarP b w.heap.size (w.heap.size + 1) (.slice none 0 0) (.slice a j c) (.slice a2 q c2) [] [] gs ls ss l stt w wq from HC3.out.call HKN3.out.kt HRD3.out)
                have HSL := hid HCQ.out.lays.len
                have g2 := HCQ.out.box3.cell 2 _ rfl
                have gz := HCQ.out.box3.lt
                have HWZ := hid (show w.heap.size ≤ wq.heap.size by have := HCQ.out.box2.lt; omega)
                have HJL := hid (show q + 1 ≤ 1000000000 by have := HK2.out; have := HLT.out; omega)
                have HCX := hid (fun o => HCQ.out.alloc o)
                have HXX := hid (fun o : Obj => HXS.out.alloc o)
                have hexit : (∃ e : ¬ (t : Int) < (k3 : Int), True) ∨ (decide ((t : Int) < (k3 : Int)) = true ∧ decide (t < k3) = true ∧ Option.isNone stt = true) := by
                  by_cases hjn : t < k3
                  · refine .inr ⟨decide_eq_true (by omega), decide_eq_true hjn, ?_⟩
                    cases stt with
                    | none => rfl
                    | some r => exact absurd ⟨hjn, rfl⟩ hgo
                  · exact .inl ⟨by omega, trivial⟩
                clear HC3 HKN3
                clear hd hd2
                clear hgo
                rcases hexit with ⟨hjn, _⟩ | ⟨h1, h1', h2⟩
                · have hd : decide ((t : Int) < (k3 : Int)) = false := decide_eq_false hjn
                  have hd2 : decide (t < k3) = false := decide_eq_false (by omega)
                  clear hjn
                  go_wp2_with (
                    at_builtin
                    go_loud (refine wpList_append_E rowE (o := ⟨some 76, _, _, _, _, _⟩) rfl (.tmp 73) (.tmp 75) 29 rfl w.heap.size w.heap.size 52 _ 24 Try.underlying29 infoRow10 rfl ss [⟨a3, t, c3⟩] (HCX.out _).lays.row ((OwnE.lit rowE _ w.heap.size 52 [⟨a3, t, c3⟩] _ wq.heap.size 1 rfl HWZ.out rfl rfl (by simp)).sl (Nat.le_refl _) (by simp)) (by have := HJL.out; have := HDL.out; have := HSL.out; simp; omega) (by have := HJL.out; have := HDL.out; have := HSL.out; simp only [maxLen]; simp; omega) (by have := HWZ.out; simp; omega) ?_)
                    intro q7 w7 ho7 hg7
                    go_loud (obtain ⟨a7, c7, ha7⟩ := ho7.anySlice)
                    go_loud (rw [show (ss ++ [(⟨a3, t, c3⟩ : Slc)]).length = q + 1 by simp [HSL.out, HDL.out]] at ha7)
                    subst ha7
                    have HO7 := hid ho7
                    have HG7 := hid hg7
                    have hf7 := (rr_grow (HCX.out _) (HCX.out _).lays.row (by decide) hg7).2.1
                    have k3' := hf7.cell 2 _ rfl
                    have kz := hf7.lt
                    have kf := hf7.frozen 2
                    clear ho7 hg7 hf7)
                  have HJW := hid (show wrap64 ((q : Int) + 1) = ((q + 1 : Nat) : Int) from wrap_succ HLT.out HK2.out hl)
                  refine ⟨⟨q + 1, ls ++ [xs], ss ++ [⟨a3, t, c3⟩], stt, a7, c7, HLT.out, by rw [HJW.out], by simp [HDL.out], ?_, (HCX.out _).addL (x := ⟨a3, t, c3⟩) (HXX.out _) (Nat.le_of_lt HZ3.out) HG7.out HO7.out⟩, by rw [HJW.out]; exact meas_lt HLT.out⟩
                  exact HLR.out.step (x := xs) (px := rdLay) (q' := fun _ => rdMany rdLay (k2 - (q + 1))) (by rw [show k2 - q = (k2 - (q + 1)) + 1 by have := HLT.out; omega]; exact many_succ _ _ _) (Stp.list HS3.out HE3.out)
                · rw [h2] at m2
                  clear h2
                  go_wp2_with (
                    at_builtin
                    go_loud (refine wpList_append_E rowE (o := ⟨some 76, _, _, _, _, _⟩) rfl (.tmp 73) (.tmp 75) 29 rfl w.heap.size w.heap.size 52 _ 24 Try.underlying29 infoRow10 rfl ss [⟨a3, t, c3⟩] (HCX.out _).lays.row ((OwnE.lit rowE _ w.heap.size 52 [⟨a3, t, c3⟩] _ wq.heap.size 1 rfl HWZ.out rfl rfl (by simp)).sl (Nat.le_refl _) (by simp)) (by have := HJL.out; have := HDL.out; have := HSL.out; simp; omega) (by have := HJL.out; have := HDL.out; have := HSL.out; simp only [maxLen]; simp; omega) (by have := HWZ.out; simp; omega) ?_)
                    intro q7 w7 ho7 hg7
                    go_loud (obtain ⟨a7, c7, ha7⟩ := ho7.anySlice)
                    go_loud (rw [show (ss ++ [(⟨a3, t, c3⟩ : Slc)]).length = q + 1 by simp [HSL.out, HDL.out]] at ha7)
                    subst ha7
                    have HO7 := hid ho7
                    have HG7 := hid hg7
                    have hf7 := (rr_grow (HCX.out _) (HCX.out _).lays.row (by decide) hg7).2.1
                    have k3' := hf7.cell 2 _ rfl
                    have kz := hf7.lt
                    have kf := hf7.frozen 2
                    clear ho7 hg7 hf7)
                  have HJW := hid (show wrap64 ((q : Int) + 1) = ((q + 1 : Nat) : Int) from wrap_succ HLT.out HK2.out hl)
                  refine ⟨⟨q + 1, ls ++ [xs], ss ++ [⟨a3, t, c3⟩], stt, a7, c7, HLT.out, by rw [HJW.out], by simp [HDL.out], ?_, (HCX.out _).addL (x := ⟨a3, t, c3⟩) (HXX.out _) (Nat.le_of_lt HZ3.out) HG7.out HO7.out⟩, by rw [HJW.out]; exact meas_lt HLT.out⟩
                  exact HLR.out.step (x := xs) (px := rdLay) (q' := fun _ => rdMany rdLay (k2 - (q + 1))) (by rw [show k2 - q = (k2 - (q + 1)) + 1 by have := HLT.out; omega]; exact many_succ _ _ _) (Stp.list HS3.out HE3.out)
          · have HE := hid (show Stp (rdMany rdLay k2) st2 ls stq by
              by_cases hjn : q < k2
              · have hno : stq = none := by
                  cases hst : stq with
                  | none => rfl
                  | some r => exact absurd ⟨hjn, by rw [hst]; rfl⟩ hgo
                have h2 := HLR.out
                rw [hno] at h2 ⊢
                exact h2.end_bad
              · exact HLR.out.fin (fun r => by rw [show k2 - q = 0 by omega]; rfl))
            have hexit : (∃ e : ¬ (q : Int) < (k2 : Int), True) ∨ (decide ((q : Int) < (k2 : Int)) = true ∧ decide (q < k2) = true ∧ Option.isNone stq = true) := by
              by_cases hjn : q < k2
              · refine .inr ⟨decide_eq_true (by omega), decide_eq_true hjn, ?_⟩
                cases stq with
                | none => rfl
                | some r => exact absurd ⟨hjn, rfl⟩ hgo
              · exact .inl ⟨by omega, trivial⟩
            clear hgo
            rcases hexit with ⟨hjn, _⟩ | ⟨h1, h1', h2⟩
            · have hd : decide ((q : Int) < (k2 : Int)) = false := decide_eq_false hjn
              have hd2 : decide (q < k2) = false := decide_eq_false (by omega)
              clear hjn
              go_wp2_with fail
              refine (rrcount_calls b l _ wp HC.out.rd).mono ?_
              rintro e w5 ⟨k5, st5, rfl, hs, hr, hk, hkl⟩
              have HS5 := hid hs
              have HC5 := hid (HC.out.call hk hr)
              have HK5 := hid hkl
              have HLL := hid (show ls.length ≤ l.length by have := HDL.out; have := HK2.out; omega)
              have HST2 := hid (show Stp (rdList rdLay) stj ls stq from Stp.list HS2.out HE.out)
              clear hs hr hk hkl HC HLR HDL HE
              go_wp2_with fail
              go_loopw [11] (fun i wr => ∃ (v : Nat) (fs : List Fun) (cs : List Slc) (stv : St10) (a5 : Option Addr) (c5 : Nat), v ≤ k5 ∧ i = .int .i64 v ∧ fs.length = v ∧ LoopR (rdMany rdFun k5) (rdMany rdFun (k5 - v)) st5 stv fs ∧ CarP b w.heap.size (w.heap.size + 1) (.slice a5 v c5) (.slice a j c) (.slice a2 q c2) fs cs gs ls ss l stv w wr) (fun i _ => k5 - (intOf i).toNat)
              case atStart => exact ⟨0, [], [], st5, none, 0, Nat.zero_le _, rfl, rfl, LoopR.start _ _, HC5.out⟩
              case round =>
                clear HC5
                obtain ⟨v, fs, cs, stv, a5, c5, hv, rfl, hdl, hlr, hcar⟩ := hrel
                obtain ⟨wv, hwv⟩ : ∃ wv, wv = wr := ⟨_, rfl⟩
                subst hwv
                have HLR := hid hlr
                have HC := hid hcar
                have HDL := hid hdl
                clear m0 m1 m2 mz
                obtain ⟨nn, hrr, _⟩ := hcar.rd
                obtain ⟨bb, bo, cc, m0, m1, m2, mz, _, _, _, _, _, _, _, _⟩ := hrr.cells
                clear hrr
                clear hlr hcar hdl
                by_cases hgo : v < k5 ∧ stv.isSome = true
                · obtain ⟨hlt, hsm⟩ := hgo
                  obtain ⟨rv, rfl⟩ := Option.isSome_iff_exists.1 hsm
                  have hltI : (v : Int) < k5 := Int.ofNat_lt.2 hlt
                  have hd : decide ((v : Int) < (k5 : Int)) = true := decide_eq_true hltI
                  have hd2 : decide (v < k5) = true := decide_eq_true hlt
                  have HLT := hid hlt
                  have t1 : (some rv : St10).isNone = false := rfl
                  rw [t1] at m2
                  have HJL := hid (show v + 1 ≤ 1000000000 by have := HK5.out; omega)
                  clear hsm t1 hlt
                  go_wp2_with fail
                  clear m0 m1 m2 mz
                  have HG := hid (show ∀ w', GPR b w.heap.size (w.heap.size + 1) [.slice a5 v c5, .slice a j c, .slice a2 q c2, .int .i64 0] wv w' → (∀ b1 o, b1 < b → w'.cell? ⟨b1, o, none⟩ = wv.cell? ⟨b1, o, none⟩) ∧ w'.cell? ⟨w.heap.size + 1, 0, none⟩ = some (.slice a5 v c5) from fun w' h => ⟨(bcellB h.1.1).1, h.2.cell 0 _ rfl⟩)
                  refine Plan.wp_chainG planRP24 (GPR b w.heap.size (w.heap.size + 1) [.slice a5 v c5, .slice a j c, .slice a2 q c2, .int .i64 0] wv) ⟨KN.drew _ _ _ _, HC.out.drew.box3⟩ (by kernel_rfl) rfl (by kernel_rfl) (by kernel_rfl) ?_
                  repeat (first | (apply Plan.chain_skip rfl rfl; simp only [Act.put, List.setIfInBounds_toArray, List.set_cons_zero, List.set_cons_succ]) | (apply Plan.chain_det rfl rfl; (· intro w' hb; obtain ⟨hcl, hG⟩ := HG.out w' hb; go_simp; rfl); simp only [Act.put, List.setIfInBounds_toArray, List.set_cons_zero, List.set_cons_succ]))
                  refine Plan.chain_call 57 #[.pointer (some ⟨b, 0, none⟩)] (fun u w' => ∃ (f : Fun) (ac : Option Addr) (cc : Nat) (st' : St10), u = .agg #[.string f.name, .int .i64 f.params, .int .i64 f.regs, .slice ac f.code.length cc] ∧ OwnE insE wv.heap.size 57 w' (.slice ac f.code.length cc) f.code ∧ Stp rdFun (some rv) f st' ∧ RR b w' l st' ∧ KR b wv.drew w') rfl rfl rfl (by go_simp) ?_ (fun u w' h => by
                    obtain ⟨f, ac, cc, st', _, _, _, _, hk⟩ := h
                    exact ⟨(KN.drew _ _ _ _).trans (hk.kn _), hk.box HC.out.drew.box3 (by decide)⟩) (fun va wb h => ?_)
                  · refine (rrfun_calls b l _ wv.drew HC.out.drew.rd hl).mono ?_
                    rintro e w' ⟨f, s, st', rfl, ho, _, hs, hr, hk⟩
                    obtain ⟨ac, cc, hv⟩ := ho.anySlice
                    rw [hv] at ho ⊢
                    exact ⟨_, rfl, f, ac, cc, st', rfl, ho, hs, hr, hk⟩
                  obtain ⟨f, ac, cc, st', rfl, hcode, hs, hr, hkb⟩ := h
                  simp only [Act.put, List.setIfInBounds_toArray, List.set_cons_zero, List.set_cons_succ]
                  have HCO := hid (show OwnE insE wv.heap.size 57 wb (Slc.val ⟨ac, f.code.length, cc⟩) f.code from hcode)
                  have HSF := hid hs
                  have HCB := hid (HC.out.drew.call hkb hr)
                  have HKB := hid (show KN b w.heap.size [81] wv wb from (KN.drew _ _ _ _).trans (hkb.kn _))
                  have HSZ := hid (show w.heap.size < wb.heap.size from HCB.out.box2.lt)
                  have HCL := hid HC.out.funs.len
                  have HWZ := hid (show w.heap.size ≤ wv.heap.size by have := HC.out.box2.lt; omega)
                  clear hs hr hkb hcode
                  repeat (first | (apply Plan.chain_skip rfl rfl; simp only [Act.put, List.setIfInBounds_toArray, List.set_cons_zero, List.set_cons_succ]) | (apply Plan.chain_det rfl rfl; (· intro w' hb; obtain ⟨hcl, hG⟩ := HG.out w' hb; go_simp; rfl); simp only [Act.put, List.setIfInBounds_toArray, List.set_cons_zero, List.set_cons_succ]))
                  refine Plan.chain_litG funE w.heap.size 55 [(f, ⟨ac, f.code.length, cc⟩)] #[.string f.name, .int .i64 f.params, .int .i64 f.regs, .slice ac f.code.length cc] 1 rfl rfl rfl (by go_simp) rfl rfl (by simp) (Nat.le_of_lt HSZ.out) ⟨HKB.out.trans (KN.alloc _ _ _ (by have := HSZ.out; have := HBW.out; omega)), HCB.out.box3.alloc _⟩ (fun ho1 => ?_)
                  simp only [Act.put, List.setIfInBounds_toArray, List.set_cons_zero, List.set_cons_succ]
                  have HO1 := hid ho1
                  clear ho1
                  repeat (first | (apply Plan.chain_skip rfl rfl; simp only [Act.put, List.setIfInBounds_toArray, List.set_cons_zero, List.set_cons_succ]) | (apply Plan.chain_det rfl rfl; (· intro w' hb; obtain ⟨hcl, hG⟩ := HG.out w' hb; go_simp; rfl); simp only [Act.put, List.setIfInBounds_toArray, List.set_cons_zero, List.set_cons_succ]))
                  refine Plan.chain_appendG funE (.tmp 93) (.tmp 96) 27 w.heap.size w.heap.size 55 _ 56 (fs.zip cs) [(f, ⟨ac, f.code.length, cc⟩)] rfl rfl rfl rfl Try.underlying27 infoFun10 rfl (HCB.out.alloc _).funs.row (HO1.out.sl (Nat.le_refl _) (by simp)) (by have := HJL.out; have := HDL.out; simp; omega) (by have := HJL.out; have := HDL.out; simp only [maxLen]; simp; omega) (by have := HSZ.out; simp; omega) (fun w7 hg7 => ?_) (fun a7 c7 w7 ho7 hg7 => ?_)
                  · have h1 := (rr_grow (HCB.out.alloc _) (HCB.out.alloc _).funs.row (by decide) hg7).2.1
                    exact ⟨HKB.out.trans ((KN.alloc _ _ _ (by have := HSZ.out; have := HBW.out; omega)).trans (KN.grown (HCB.out.alloc _).funs.row hg7 (by have := HSZ.out; have := HBW.out; simp; omega) (Nat.le_of_lt HBW.out))), h1⟩
                  simp only [Act.put, List.setIfInBounds_toArray, List.set_cons_zero, List.set_cons_succ]
                  rw [show (fs.zip cs ++ [(f, (⟨ac, f.code.length, cc⟩ : Slc))]).length = v + 1 by simp [HDL.out, HCL.out]] at ho7 ⊢
                  have h1 := (rr_grow (HCB.out.alloc _) (HCB.out.alloc _).funs.row (by decide) hg7).2.1
                  have HO7 := hid ho7
                  have HG7 := hid hg7
                  have k0' := h1.cell 0 _ rfl
                  have kz := h1.lt
                  have kf := h1.frozen 0
                  clear h1 ho7 hg7
                  repeat (first | (apply Plan.chain_skip rfl rfl; simp only [Act.put, List.setIfInBounds_toArray, List.set_cons_zero, List.set_cons_succ]) | (apply Plan.chain_det rfl rfl; (· intro w' hb; obtain ⟨hcl, hG⟩ := HG.out w' hb; go_simp; rfl); simp only [Act.put, List.setIfInBounds_toArray, List.set_cons_zero, List.set_cons_succ]))
                  refine Plan.chain_fin rfl rfl ?_
                  unfold Oper.wp
                  go_simp
                  go_wp2_with fail
                  have HJW := hid (show wrap64 ((v : Int) + 1) = ((v + 1 : Nat) : Int) from wrap_succ HLT.out HK5.out hl)
                  refine ⟨⟨v + 1, fs ++ [f], cs ++ [⟨ac, f.code.length, cc⟩], st', a7, c7, HLT.out, by rw [HJW.out], by simp [HDL.out], ?_, (HCB.out.alloc _).addF (x := ⟨ac, f.code.length, cc⟩) (fun i hi k hk => ((HC.out.funs.code i hi).lt k hk).2) (HCO.out.alloc _) HWZ.out HG7.out HO7.out⟩, by rw [HJW.out]; exact meas_lt HLT.out⟩
                  exact HLR.out.step (x := f) (px := rdFun) (q' := fun _ => rdMany rdFun (k5 - (v + 1))) (by rw [show k5 - v = (k5 - (v + 1)) + 1 by have := HLT.out; omega]; exact many_succ _ _ _) HSF.out
                · have HE := hid (show Stp (rdMany rdFun k5) st5 fs stv by
                    by_cases hjn : v < k5
                    · have hno : stv = none := by
                        cases hst : stv with
                        | none => rfl
                        | some r => exact absurd ⟨hjn, by rw [hst]; rfl⟩ hgo
                      have h2 := HLR.out
                      rw [hno] at h2 ⊢
                      exact h2.end_bad
                    · exact HLR.out.fin (fun r => by rw [show k5 - v = 0 by omega]; rfl))
                  have hexit : (∃ e : ¬ (v : Int) < (k5 : Int), True) ∨ (decide ((v : Int) < (k5 : Int)) = true ∧ decide (v < k5) = true ∧ Option.isNone stv = true) := by
                    by_cases hjn : v < k5
                    · refine .inr ⟨decide_eq_true (by omega), decide_eq_true hjn, ?_⟩
                      cases stv with
                      | none => rfl
                      | some r => exact absurd ⟨hjn, rfl⟩ hgo
                    · exact .inl ⟨by omega, trivial⟩
                  clear hgo
                  rcases hexit with ⟨hjn, _⟩ | ⟨h1, h1', h2⟩
                  · have hd : decide ((v : Int) < (k5 : Int)) = false := decide_eq_false hjn
                    have hd2 : decide (v < k5) = false := decide_eq_false (by omega)
                    clear hjn
                    go_wp2_with fail
                    clear m0 m1 m2 mz
                    refine (rrnum_calls b l _ wv HC.out.rd).mono ?_
                    rintro e w6 ⟨m, st6, rfl, hs, hr, hk, _⟩
                    have hc6 := HC.out.call hk hr
                    have HS6 := hid hs
                    have x0 := hc6.box3.cell 0 _ rfl
                    have x1 := hc6.box3.cell 1 _ rfl
                    have x2 := hc6.box3.cell 2 _ rfl
                    have x3 := hc6.box3.cell 3 _ rfl
                    have xz := hc6.box3.lt
                    have xf := hc6.box3.frozen 3
                    have y0 := hc6.box2.cell 0 _ rfl
                    have y1 := hc6.box2.cell 1 _ rfl
                    have y2 := hc6.box2.cell 2 _ rfl
                    have y3 := hc6.box2.cell 3 _ rfl
                    have yz := hc6.box2.lt
                    have f0 := hc6.box2.frozen 0
                    have f1 := hc6.box2.frozen 1
                    have f2 := hc6.box2.frozen 2
                    have f3 := hc6.box2.frozen 3
                    have HC6 := hid hc6
                    have HFL := hid (show fs.length ≤ l.length by have := HDL.out; have := HK5.out; omega)
                    clear hs hr hk hc6
                    go_wp2_with fail
                    obtain ⟨e1, e2⟩ := rprg_end HC6.out HC6.out.kn m st HFL.out HGL.out HLL.out (HST.out.bind (HST2.out.bind (Stp.bind (Stp.list HS5.out HE.out) (Stp.bind HS6.out (Stp.pure (x := (⟨fs, gs, ls, m⟩ : Prg)))))))
                    refine bodyPost_ret (v := .agg #[.slice a5 v c5, .slice a j c, .slice a2 q c2, .int .i64 m]) ?_ rfl e2
                    exact results_cell_row (P := Try.prog) rfl _ _ w.heap.size 31 #[.slice a5 v c5, .slice a j c, .slice a2 q c2, .int .i64 m] (0, 0) _ rfl e1 Try.underlying31 rfl rfl
                  · rw [h2] at m2
                    clear h2
                    go_wp2_with fail
                    clear m0 m1 m2 mz
                    refine (rrnum_calls b l _ wv HC.out.rd).mono ?_
                    rintro e w6 ⟨m, st6, rfl, hs, hr, hk, _⟩
                    have hc6 := HC.out.call hk hr
                    have HS6 := hid hs
                    have x0 := hc6.box3.cell 0 _ rfl
                    have x1 := hc6.box3.cell 1 _ rfl
                    have x2 := hc6.box3.cell 2 _ rfl
                    have x3 := hc6.box3.cell 3 _ rfl
                    have xz := hc6.box3.lt
                    have xf := hc6.box3.frozen 3
                    have y0 := hc6.box2.cell 0 _ rfl
                    have y1 := hc6.box2.cell 1 _ rfl
                    have y2 := hc6.box2.cell 2 _ rfl
                    have y3 := hc6.box2.cell 3 _ rfl
                    have yz := hc6.box2.lt
                    have f0 := hc6.box2.frozen 0
                    have f1 := hc6.box2.frozen 1
                    have f2 := hc6.box2.frozen 2
                    have f3 := hc6.box2.frozen 3
                    have HC6 := hid hc6
                    have HFL := hid (show fs.length ≤ l.length by have := HDL.out; have := HK5.out; omega)
                    clear hs hr hk hc6
                    go_wp2_with fail
                    obtain ⟨e1, e2⟩ := rprg_end HC6.out HC6.out.kn m st HFL.out HGL.out HLL.out (HST.out.bind (HST2.out.bind (Stp.bind (Stp.list HS5.out HE.out) (Stp.bind HS6.out (Stp.pure (x := (⟨fs, gs, ls, m⟩ : Prg)))))))
                    refine bodyPost_ret (v := .agg #[.slice a5 v c5, .slice a j c, .slice a2 q c2, .int .i64 m]) ?_ rfl e2
                    exact results_cell_row (P := Try.prog) rfl _ _ w.heap.size 31 #[.slice a5 v c5, .slice a j c, .slice a2 q c2, .int .i64 m] (0, 0) _ rfl e1 Try.underlying31 rfl rfl
            · rw [h2] at m2
              clear h2
              go_wp2_with fail
              refine (rrcount_calls b l _ wp HC.out.rd).mono ?_
              rintro e w5 ⟨k5, st5, rfl, hs, hr, hk, hkl⟩
              have HS5 := hid hs
              have HC5 := hid (HC.out.call hk hr)
              have HK5 := hid hkl
              have HLL := hid (show ls.length ≤ l.length by have := HDL.out; have := HK2.out; omega)
              have HST2 := hid (show Stp (rdList rdLay) stj ls stq from Stp.list HS2.out HE.out)
              clear hs hr hk hkl HC HLR HDL HE
              go_wp2_with fail
              go_loopw [11] (fun i wr => ∃ (v : Nat) (fs : List Fun) (cs : List Slc) (stv : St10) (a5 : Option Addr) (c5 : Nat), v ≤ k5 ∧ i = .int .i64 v ∧ fs.length = v ∧ LoopR (rdMany rdFun k5) (rdMany rdFun (k5 - v)) st5 stv fs ∧ CarP b w.heap.size (w.heap.size + 1) (.slice a5 v c5) (.slice a j c) (.slice a2 q c2) fs cs gs ls ss l stv w wr) (fun i _ => k5 - (intOf i).toNat)
              case atStart => exact ⟨0, [], [], st5, none, 0, Nat.zero_le _, rfl, rfl, LoopR.start _ _, HC5.out⟩
              case round =>
                clear HC5
                obtain ⟨v, fs, cs, stv, a5, c5, hv, rfl, hdl, hlr, hcar⟩ := hrel
                obtain ⟨wv, hwv⟩ : ∃ wv, wv = wr := ⟨_, rfl⟩
                subst hwv
                have HLR := hid hlr
                have HC := hid hcar
                have HDL := hid hdl
                clear m0 m1 m2 mz
                obtain ⟨nn, hrr, _⟩ := hcar.rd
                obtain ⟨bb, bo, cc, m0, m1, m2, mz, _, _, _, _, _, _, _, _⟩ := hrr.cells
                clear hrr
                clear hlr hcar hdl
                by_cases hgo : v < k5 ∧ stv.isSome = true
                · obtain ⟨hlt, hsm⟩ := hgo
                  obtain ⟨rv, rfl⟩ := Option.isSome_iff_exists.1 hsm
                  have hltI : (v : Int) < k5 := Int.ofNat_lt.2 hlt
                  have hd : decide ((v : Int) < (k5 : Int)) = true := decide_eq_true hltI
                  have hd2 : decide (v < k5) = true := decide_eq_true hlt
                  have HLT := hid hlt
                  have t1 : (some rv : St10).isNone = false := rfl
                  rw [t1] at m2
                  have HJL := hid (show v + 1 ≤ 1000000000 by have := HK5.out; omega)
                  clear hsm t1 hlt
                  go_wp2_with fail
                  clear m0 m1 m2 mz
                  have HG := hid (show ∀ w', GPR b w.heap.size (w.heap.size + 1) [.slice a5 v c5, .slice a j c, .slice a2 q c2, .int .i64 0] wv w' → (∀ b1 o, b1 < b → w'.cell? ⟨b1, o, none⟩ = wv.cell? ⟨b1, o, none⟩) ∧ w'.cell? ⟨w.heap.size + 1, 0, none⟩ = some (.slice a5 v c5) from fun w' h => ⟨(bcellB h.1.1).1, h.2.cell 0 _ rfl⟩)
                  refine Plan.wp_chainG planRP24 (GPR b w.heap.size (w.heap.size + 1) [.slice a5 v c5, .slice a j c, .slice a2 q c2, .int .i64 0] wv) ⟨KN.drew _ _ _ _, HC.out.drew.box3⟩ (by kernel_rfl) rfl (by kernel_rfl) (by kernel_rfl) ?_
                  repeat (first | (apply Plan.chain_skip rfl rfl; simp only [Act.put, List.setIfInBounds_toArray, List.set_cons_zero, List.set_cons_succ]) | (apply Plan.chain_det rfl rfl; (· intro w' hb; obtain ⟨hcl, hG⟩ := HG.out w' hb; go_simp; rfl); simp only [Act.put, List.setIfInBounds_toArray, List.set_cons_zero, List.set_cons_succ]))
                  refine Plan.chain_call 57 #[.pointer (some ⟨b, 0, none⟩)] (fun u w' => ∃ (f : Fun) (ac : Option Addr) (cc : Nat) (st' : St10), u = .agg #[.string f.name, .int .i64 f.params, .int .i64 f.regs, .slice ac f.code.length cc] ∧ OwnE insE wv.heap.size 57 w' (.slice ac f.code.length cc) f.code ∧ Stp rdFun (some rv) f st' ∧ RR b w' l st' ∧ KR b wv.drew w') rfl rfl rfl (by go_simp) ?_ (fun u w' h => by
                    obtain ⟨f, ac, cc, st', _, _, _, _, hk⟩ := h
                    exact ⟨(KN.drew _ _ _ _).trans (hk.kn _), hk.box HC.out.drew.box3 (by decide)⟩) (fun va wb h => ?_)
                  · refine (rrfun_calls b l _ wv.drew HC.out.drew.rd hl).mono ?_
                    rintro e w' ⟨f, s, st', rfl, ho, _, hs, hr, hk⟩
                    obtain ⟨ac, cc, hv⟩ := ho.anySlice
                    rw [hv] at ho ⊢
                    exact ⟨_, rfl, f, ac, cc, st', rfl, ho, hs, hr, hk⟩
                  obtain ⟨f, ac, cc, st', rfl, hcode, hs, hr, hkb⟩ := h
                  simp only [Act.put, List.setIfInBounds_toArray, List.set_cons_zero, List.set_cons_succ]
                  have HCO := hid (show OwnE insE wv.heap.size 57 wb (Slc.val ⟨ac, f.code.length, cc⟩) f.code from hcode)
                  have HSF := hid hs
                  have HCB := hid (HC.out.drew.call hkb hr)
                  have HKB := hid (show KN b w.heap.size [81] wv wb from (KN.drew _ _ _ _).trans (hkb.kn _))
                  have HSZ := hid (show w.heap.size < wb.heap.size from HCB.out.box2.lt)
                  have HCL := hid HC.out.funs.len
                  have HWZ := hid (show w.heap.size ≤ wv.heap.size by have := HC.out.box2.lt; omega)
                  clear hs hr hkb hcode
                  repeat (first | (apply Plan.chain_skip rfl rfl; simp only [Act.put, List.setIfInBounds_toArray, List.set_cons_zero, List.set_cons_succ]) | (apply Plan.chain_det rfl rfl; (· intro w' hb; obtain ⟨hcl, hG⟩ := HG.out w' hb; go_simp; rfl); simp only [Act.put, List.setIfInBounds_toArray, List.set_cons_zero, List.set_cons_succ]))
                  refine Plan.chain_litG funE w.heap.size 55 [(f, ⟨ac, f.code.length, cc⟩)] #[.string f.name, .int .i64 f.params, .int .i64 f.regs, .slice ac f.code.length cc] 1 rfl rfl rfl (by go_simp) rfl rfl (by simp) (Nat.le_of_lt HSZ.out) ⟨HKB.out.trans (KN.alloc _ _ _ (by have := HSZ.out; have := HBW.out; omega)), HCB.out.box3.alloc _⟩ (fun ho1 => ?_)
                  simp only [Act.put, List.setIfInBounds_toArray, List.set_cons_zero, List.set_cons_succ]
                  have HO1 := hid ho1
                  clear ho1
                  repeat (first | (apply Plan.chain_skip rfl rfl; simp only [Act.put, List.setIfInBounds_toArray, List.set_cons_zero, List.set_cons_succ]) | (apply Plan.chain_det rfl rfl; (· intro w' hb; obtain ⟨hcl, hG⟩ := HG.out w' hb; go_simp; rfl); simp only [Act.put, List.setIfInBounds_toArray, List.set_cons_zero, List.set_cons_succ]))
                  refine Plan.chain_appendG funE (.tmp 93) (.tmp 96) 27 w.heap.size w.heap.size 55 _ 56 (fs.zip cs) [(f, ⟨ac, f.code.length, cc⟩)] rfl rfl rfl rfl Try.underlying27 infoFun10 rfl (HCB.out.alloc _).funs.row (HO1.out.sl (Nat.le_refl _) (by simp)) (by have := HJL.out; have := HDL.out; simp; omega) (by have := HJL.out; have := HDL.out; simp only [maxLen]; simp; omega) (by have := HSZ.out; simp; omega) (fun w7 hg7 => ?_) (fun a7 c7 w7 ho7 hg7 => ?_)
                  · have h1 := (rr_grow (HCB.out.alloc _) (HCB.out.alloc _).funs.row (by decide) hg7).2.1
                    exact ⟨HKB.out.trans ((KN.alloc _ _ _ (by have := HSZ.out; have := HBW.out; omega)).trans (KN.grown (HCB.out.alloc _).funs.row hg7 (by have := HSZ.out; have := HBW.out; simp; omega) (Nat.le_of_lt HBW.out))), h1⟩
                  simp only [Act.put, List.setIfInBounds_toArray, List.set_cons_zero, List.set_cons_succ]
                  rw [show (fs.zip cs ++ [(f, (⟨ac, f.code.length, cc⟩ : Slc))]).length = v + 1 by simp [HDL.out, HCL.out]] at ho7 ⊢
                  have h1 := (rr_grow (HCB.out.alloc _) (HCB.out.alloc _).funs.row (by decide) hg7).2.1
                  have HO7 := hid ho7
                  have HG7 := hid hg7
                  have k0' := h1.cell 0 _ rfl
                  have kz := h1.lt
                  have kf := h1.frozen 0
                  clear h1 ho7 hg7
                  repeat (first | (apply Plan.chain_skip rfl rfl; simp only [Act.put, List.setIfInBounds_toArray, List.set_cons_zero, List.set_cons_succ]) | (apply Plan.chain_det rfl rfl; (· intro w' hb; obtain ⟨hcl, hG⟩ := HG.out w' hb; go_simp; rfl); simp only [Act.put, List.setIfInBounds_toArray, List.set_cons_zero, List.set_cons_succ]))
                  refine Plan.chain_fin rfl rfl ?_
                  unfold Oper.wp
                  go_simp
                  go_wp2_with fail
                  have HJW := hid (show wrap64 ((v : Int) + 1) = ((v + 1 : Nat) : Int) from wrap_succ HLT.out HK5.out hl)
                  refine ⟨⟨v + 1, fs ++ [f], cs ++ [⟨ac, f.code.length, cc⟩], st', a7, c7, HLT.out, by rw [HJW.out], by simp [HDL.out], ?_, (HCB.out.alloc _).addF (x := ⟨ac, f.code.length, cc⟩) (fun i hi k hk => ((HC.out.funs.code i hi).lt k hk).2) (HCO.out.alloc _) HWZ.out HG7.out HO7.out⟩, by rw [HJW.out]; exact meas_lt HLT.out⟩
                  exact HLR.out.step (x := f) (px := rdFun) (q' := fun _ => rdMany rdFun (k5 - (v + 1))) (by rw [show k5 - v = (k5 - (v + 1)) + 1 by have := HLT.out; omega]; exact many_succ _ _ _) HSF.out
                · have HE := hid (show Stp (rdMany rdFun k5) st5 fs stv by
                    by_cases hjn : v < k5
                    · have hno : stv = none := by
                        cases hst : stv with
                        | none => rfl
                        | some r => exact absurd ⟨hjn, by rw [hst]; rfl⟩ hgo
                      have h2 := HLR.out
                      rw [hno] at h2 ⊢
                      exact h2.end_bad
                    · exact HLR.out.fin (fun r => by rw [show k5 - v = 0 by omega]; rfl))
                  have hexit : (∃ e : ¬ (v : Int) < (k5 : Int), True) ∨ (decide ((v : Int) < (k5 : Int)) = true ∧ decide (v < k5) = true ∧ Option.isNone stv = true) := by
                    by_cases hjn : v < k5
                    · refine .inr ⟨decide_eq_true (by omega), decide_eq_true hjn, ?_⟩
                      cases stv with
                      | none => rfl
                      | some r => exact absurd ⟨hjn, rfl⟩ hgo
                    · exact .inl ⟨by omega, trivial⟩
                  clear hgo
                  rcases hexit with ⟨hjn, _⟩ | ⟨h1, h1', h2⟩
                  · have hd : decide ((v : Int) < (k5 : Int)) = false := decide_eq_false hjn
                    have hd2 : decide (v < k5) = false := decide_eq_false (by omega)
                    clear hjn
                    go_wp2_with fail
                    clear m0 m1 m2 mz
                    refine (rrnum_calls b l _ wv HC.out.rd).mono ?_
                    rintro e w6 ⟨m, st6, rfl, hs, hr, hk, _⟩
                    have hc6 := HC.out.call hk hr
                    have HS6 := hid hs
                    have x0 := hc6.box3.cell 0 _ rfl
                    have x1 := hc6.box3.cell 1 _ rfl
                    have x2 := hc6.box3.cell 2 _ rfl
                    have x3 := hc6.box3.cell 3 _ rfl
                    have xz := hc6.box3.lt
                    have xf := hc6.box3.frozen 3
                    have y0 := hc6.box2.cell 0 _ rfl
                    have y1 := hc6.box2.cell 1 _ rfl
                    have y2 := hc6.box2.cell 2 _ rfl
                    have y3 := hc6.box2.cell 3 _ rfl
                    have yz := hc6.box2.lt
                    have f0 := hc6.box2.frozen 0
                    have f1 := hc6.box2.frozen 1
                    have f2 := hc6.box2.frozen 2
                    have f3 := hc6.box2.frozen 3
                    have HC6 := hid hc6
                    have HFL := hid (show fs.length ≤ l.length by have := HDL.out; have := HK5.out; omega)
                    clear hs hr hk hc6
                    go_wp2_with fail
                    obtain ⟨e1, e2⟩ := rprg_end HC6.out HC6.out.kn m st HFL.out HGL.out HLL.out (HST.out.bind (HST2.out.bind (Stp.bind (Stp.list HS5.out HE.out) (Stp.bind HS6.out (Stp.pure (x := (⟨fs, gs, ls, m⟩ : Prg)))))))
                    refine bodyPost_ret (v := .agg #[.slice a5 v c5, .slice a j c, .slice a2 q c2, .int .i64 m]) ?_ rfl e2
                    exact results_cell_row (P := Try.prog) rfl _ _ w.heap.size 31 #[.slice a5 v c5, .slice a j c, .slice a2 q c2, .int .i64 m] (0, 0) _ rfl e1 Try.underlying31 rfl rfl
                  · rw [h2] at m2
                    clear h2
                    go_wp2_with fail
                    clear m0 m1 m2 mz
                    refine (rrnum_calls b l _ wv HC.out.rd).mono ?_
                    rintro e w6 ⟨m, st6, rfl, hs, hr, hk, _⟩
                    have hc6 := HC.out.call hk hr
                    have HS6 := hid hs
                    have x0 := hc6.box3.cell 0 _ rfl
                    have x1 := hc6.box3.cell 1 _ rfl
                    have x2 := hc6.box3.cell 2 _ rfl
                    have x3 := hc6.box3.cell 3 _ rfl
                    have xz := hc6.box3.lt
                    have xf := hc6.box3.frozen 3
                    have y0 := hc6.box2.cell 0 _ rfl
                    have y1 := hc6.box2.cell 1 _ rfl
                    have y2 := hc6.box2.cell 2 _ rfl
                    have y3 := hc6.box2.cell 3 _ rfl
                    have yz := hc6.box2.lt
                    have f0 := hc6.box2.frozen 0
                    have f1 := hc6.box2.frozen 1
                    have f2 := hc6.box2.frozen 2
                    have f3 := hc6.box2.frozen 3
                    have HC6 := hid hc6
                    have HFL := hid (show fs.length ≤ l.length by have := HDL.out; have := HK5.out; omega)
                    clear hs hr hk hc6
                    go_wp2_with fail
                    obtain ⟨e1, e2⟩ := rprg_end HC6.out HC6.out.kn m st HFL.out HGL.out HLL.out (HST.out.bind (HST2.out.bind (Stp.bind (Stp.list HS5.out HE.out) (Stp.bind HS6.out (Stp.pure (x := (⟨fs, gs, ls, m⟩ : Prg)))))))
                    refine bodyPost_ret (v := .agg #[.slice a5 v c5, .slice a j c, .slice a2 q c2, .int .i64 m]) ?_ rfl e2
                    exact results_cell_row (P := Try.prog) rfl _ _ w.heap.size 31 #[.slice a5 v c5, .slice a j c, .slice a2 q c2, .int .i64 m] (0, 0) _ rfl e1 Try.underlying31 rfl rfl

end Go.Proofs.Ytkfpacklpelefaa
