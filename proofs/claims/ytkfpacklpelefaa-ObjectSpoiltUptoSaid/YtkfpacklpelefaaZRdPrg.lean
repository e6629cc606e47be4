/-
  The reader's program, walked.
-/
import Derived.Test.YtkfpacklpelefaaZBcell
import Derived.Test.YtkfpacklpelefaaZChainG
import Derived.Test.YtkfpacklpelefaaZRdFun
namespace Go.Proofs.Ytkfpacklpelefaa
set_option linter.unusedVariables false
set_option linter.unusedSimpArgs false
open Go.RowKit

theorem list_some {α β : Type} {p : Rd1 α} {f : List α → Rd1 β} {l r : List UInt8} {n : Nat} (h : rdC l = some (n, r)) : rdBind (rdList p) f l = rdBind (rdMany p n) f r := by
  unfold rdBind rdList; rw [h]
theorem list_none {α β : Type} {p : Rd1 α} {f : List α → Rd1 β} {l : List UInt8} (h : rdC l = none) : rdBind (rdList p) f l = none := rdBind_none (by unfold rdList; rw [h])
theorem many_none {α : Type} {p : Rd1 α} {n : Nat} {l : List UInt8} (h : p l = none) : rdMany p (n + 1) l = none := by simp only [rdMany]; rw [h]
theorem many_step {α : Type} {p : Rd1 α} {n : Nat} {l s : List UInt8} {x : α} {xs : List α} (h : p l = some (x, s)) :
    (rdMany p (n + 1) l).map (fun y => (xs ++ y.1, y.2)) = (rdMany p n s).map (fun y => ((xs ++ [x]) ++ y.1, y.2)) := by
  simp only [rdMany]
  rw [h]
  cases hq : rdMany p n s with
  | none => simp [hq]
  | some q => simp [hq]
theorem infoGlob10 : (Try.prog.info? 50).map (fun i => (i.zero, i.size, i.bytes)) = some (some (.agg #[.string ⟨#[]⟩, .int .i64 0]), globE.sz, 24) := by kernel_rfl
theorem infoFun10 : (Try.prog.info? 55).map (fun i => (i.zero, i.size, i.bytes)) = some (some (.agg #[.string ⟨#[]⟩, .int .i64 0, .int .i64 0, .slice none 0 0]), funE.sz, 56) := by kernel_rfl
theorem infoRow10 : (Try.prog.info? 52).map (fun i => (i.zero, i.size, i.bytes)) = some (some (.slice none 0 0), rowE.sz, 24) := by kernel_rfl
theorem infoInt10 : (Try.prog.info? 3).map (fun i => (i.zero, i.size, i.bytes)) = some (some (.int .i64 0), intE.sz, 8) := by kernel_rfl
noncomputable def planP3 : Plan := mkPlan (regionOf Try.f29 3) [(3, .new), (5, .new), (7, .new), (8, .new), (10, .fin)] []
noncomputable def planP16 : Plan := mkPlan (regionOf Try.f29 16) [(3, .new), (4, .new), (5, .new), (7, .fin)] []

/-- What the program's value is. -/
def PrgQ (base : Nat) (l : List UInt8) (e : Ending) (w' : World) : Prop := (∃ p vf vg vl, rdPrg l = some (p, []) ∧ e = .returned (.agg #[vf, vg, vl, .int .i64 p.main]) ∧ OwnPrg base w' vf vg vl p) ∨ ((∀ p, rdPrg l ≠ some (p, [])) ∧ e = .panicked malP)
/-- The frame of a drawn region of the reader. -/
def GP (b N : Nat) (vs : List Value) (wo w' : World) : Prop := KN b N [64] wo w' ∧ BoxAt w' N 31 vs
theorem KN.drew (b N : Nat) (S : List TypeId) (w : World) : KN b N S w w.drew := ⟨(Below.refl _ _).drew, Nat.le_refl _, fun _ _ _ _ _ _ => rfl⟩
theorem RdAt.drew {b : Nat} {w : World} {l : List UInt8} (h : RdAt b w l) : RdAt b w.drew l := h.kt rfl (Below.refl _ _).drew
theorem grow_step {α : Type} {E : Enc α} {b N : Nat} {e : TypeId} {vs : List Value} {w0 wb w7 : World} {o : Obj} {v : Value} {L : List α} {s2 : List UInt8} (hn : KN b N [64] w0 wb) (hx : BoxAt wb N 31 vs) (hr : RdAt b wb s2) (ho : OwnE E N e wb v L) (hne : e ≠ 31) (hbN : b < N) (hg : (wb.alloc o).grownBy w7 v.ownBlock) :
    BoxAt w7 N 31 vs ∧ RdAt b w7 s2 ∧ KN b N [64] w0 w7 := by
  have hz := hx.lt
  refine ⟨(hx.alloc o).only (Only.grown hg) ((hx.alloc o).neRow (ho.alloc o) hne), (hr.alloc _).grown (ho.alloc o) hg hbN, hn.trans ((KN.alloc _ _ _ (by omega)).trans (KN.grown (ho.alloc o) hg (by simp; omega) (by omega)))⟩
theorem OwnLays.kt {base b : Nat} {w w' : World} {v : Value} {l : List (List Int)} {ss : List Slc} (h : OwnLays base w v l ss) (hk : KT b [64] w w') : OwnLays base w' v l ss :=
  ⟨h.len, hk.own h.row (by decide), fun i hi => hk.own (h.each i hi) (by decide)⟩
theorem OwnFuns.kt {base b : Nat} {w w' : World} {v : Value} {l : List Fun} {ss : List Slc} (h : OwnFuns base w v l ss) (hk : KT b [64] w w') : OwnFuns base w' v l ss :=
  ⟨h.len, hk.own h.row (by decide), fun i hi => hk.own (h.code i hi) (by decide), h.apart⟩
theorem KN.ktM {b M : Nat} {S : List TypeId} {w w' : World} (h : KN b M S w w') (e : M = w.heap.size) : KT b S w w' := by subst e; exact h.kt
theorem lays_more {N M : Nat} {wq w7 : World} {o : Obj} {V V' : Value} {ls : List (List Int)} {ss : List Slc} {x : Slc} {xs : List Int} (h : OwnLays N wq V ls ss) (hx : OwnE intE M 3 wq x.val xs) (hM : N ≤ M)
    (hrow : OwnE rowE N 52 w7 V' (ss ++ [x])) (hg : (wq.alloc o).grownBy w7 V.ownBlock) : OwnLays N w7 V' (ls ++ [xs]) (ss ++ [x]) :=
  OwnLays.snoc h hrow (fun i hi => ((h.each i hi).alloc o).only (Only.grown hg) (OwnE.neRow ((h.each i hi).alloc o) (h.row.alloc o) (by decide))) (((hx.mono hM).alloc o).only (Only.grown hg) (OwnE.neRow ((hx.mono hM).alloc o) (h.row.alloc o) (by decide)))
theorem OwnE.grownOther {α β : Type} {E : Enc α} {E' : Enc β} {base base' : Nat} {e e' : TypeId} {w w7 : World} {o : Obj} {v v' : Value} {l : List α} {l' : List β} (h : OwnE E base e w v l) (h' : OwnE E' base' e' w v' l') (hne : e ≠ e') (hg : (w.alloc o).grownBy w7 v'.ownBlock) : OwnE E base e w7 v l :=
  (h.alloc o).only (Only.grown hg) (OwnE.neRow (h.alloc o) (h'.alloc o) hne)
theorem OwnE.storeBox {α : Type} {E : Enc α} {base : Nat} {e : TypeId} {w : World} {v : Value} {l : List α} {b k : Nat} {t : TypeId} {vs : List Value} (u : Value) (h : OwnE E base e w v l) (hb : BoxAt w b t vs) (hne : e ≠ t) : OwnE E base e (w.setCell ⟨b, k, none⟩ u) v l :=
  h.other _ _ (fun q hq e => h.neBox hb hne q hq (congrArg some e))
theorem OwnLays.grownOther {β : Type} {E' : Enc β} {base base' : Nat} {e' : TypeId} {w w7 : World} {o : Obj} {v v' : Value} {ls : List (List Int)} {ss : List Slc} {l' : List β} (h : OwnLays base w v ls ss) (h' : OwnE E' base' e' w v' l') (h1 : 52 ≠ e') (h2 : 3 ≠ e') (hg : (w.alloc o).grownBy w7 v'.ownBlock) : OwnLays base w7 v ls ss :=
  ⟨h.len, OwnE.grownOther h.row h' h1 hg, fun i hi => OwnE.grownOther (h.each i hi) h' h2 hg⟩
theorem funcs_more {N M : Nat} {wq w7 : World} {o : Obj} {V V' : Value} {fs : List Fun} {ss : List Slc} {x : Slc} {f : Fun} (h : OwnFuns N wq V fs ss) (hold : ∀ i, i < fs.length → ∀ k, (nth ss i).val.ownBlock = some k → k < M) (hx : OwnE insE M 57 wq x.val f.code) (hM : N ≤ M)
    (hrow : OwnE funE N 55 w7 V' (fs.zip ss ++ [(f, x)])) (hg : (wq.alloc o).grownBy w7 V.ownBlock) : OwnFuns N w7 V' (fs ++ [f]) (ss ++ [x]) :=
  OwnFuns.snoc h hold hrow (fun i hi => OwnE.grownOther (h.code i hi) h.row (by decide) hg) (OwnE.grownOther hx h.row (by decide) hg) hM
theorem rdFun_len {l r : List UInt8} {f : Fun} (h : rdFun l = some (f, r)) : r.length ≤ l.length := by
  have h1 := congrArg List.length (rdFun_of h)
  rw [List.length_append] at h1
  omega

set_option maxRecDepth 200000 in
set_option maxHeartbeats 8000000 in
theorem orprg_calls (b : Nat) (l : List UInt8) (w : World) (h : RdAt b w l) (hl : l.length ≤ 1000000000) :
    Calls Try.prog 29 #[.pointer (some ⟨b, 0, none⟩)] w fun e w' => PrgQ w.heap.size l e w' ∧ KT b [64] w w' := by
  have H := hid h
  have hbw := h.lt
  have HBW := hid hbw
  clear h
  go_enter Try.func29, Try.ntmps29
  go_wp2_with fail
  generalize hW : World.alloc _ _ = W
  have hbx := show BoxAt W w.heap.size 31 [.slice none 0 0, .slice none 0 0, .slice none 0 0, .int .i64 0] by rw [← hW]; exact BoxAt.new _ _ _ _ _ rfl rfl
  have HRW := hid (show RdAt b W l by rw [← hW]; exact H.out.alloc _)
  have HK0 := hid (show KT b [64] w W by rw [← hW]; exact KT.alloc _ w _ (by omega))
  have HZW := hid (show W.heap.size = w.heap.size + 1 by rw [← hW]; simp)
  have HRES := hid hbx
  have HBWW := hid hbw
  clear hW hbx
  refine (orcount_calls b l W HRW.out).mono ?_
  rintro e w1 ⟨hq, hk⟩
  rcases hq with ⟨k1, r1, hs, rfl, hrd⟩ | ⟨hs, rfl⟩
  rotate_left
  · refine ⟨rfl, .inr ⟨fun p e => ?_, rfl⟩, HK0.out.trans hk⟩
    unfold rdPrg at e
    rw [list_none hs] at e
    cases e
  have HR1 := hid hrd
  have HEQ1 := hid (show rdPrg l = rdBind (rdMany rdGlob k1) (fun g => rdBind (rdList rdLay) fun l => rdBind (rdList rdFun) fun f => rdBind rdN fun m => rdPure ⟨f, g, l, m⟩) r1 from list_some hs)
  have HLE1 := hid (show k1 ≤ 1000000000 ∧ r1.length ≤ 1000000000 by
    have h1 := congrArg List.length (rdC_of hs).1
    have h2 := (rdC_of hs).2.1
    rw [List.length_append] at h1
    omega)
  have HB1 := hid (hk.box HRES.out (by decide))
  have HT1 := hid ((HK0.out.trans hk).kn w.heap.size)
  clear hrd hk hs HRW HK0 HRES H
  go_wp2_with fail
  go_loopw [6] (fun i wr => ∃ (j : Nat) (gs : List Glob) (rj : List UInt8) (a : Option Addr) (c : Nat), j ≤ k1 ∧ i = .int .i64 j ∧ gs.length = j ∧ rdMany rdGlob k1 r1 = (rdMany rdGlob (k1 - j) rj).map (fun x => (gs ++ x.1, x.2)) ∧ rj.length ≤ 1000000000 ∧ RdAt b wr rj ∧ BoxAt wr w.heap.size 31 [.slice none 0 0, .slice a j c, .slice none 0 0, .int .i64 0] ∧ OwnE globE w.heap.size 50 wr (.slice a j c) gs ∧ KN b w.heap.size [64] w wr) (fun i _ => k1 - (intOf i).toNat)
  case atStart => exact ⟨0, [], r1, none, 0, Nat.zero_le _, rfl, rfl, by rw [Nat.sub_zero]; cases rdMany rdGlob k1 r1 <;> rfl, HLE1.out.2, HR1.out, HB1.out, OwnE.nil _ _ _ _, HT1.out⟩
  case round =>
    clear HR1 HB1 HT1
    obtain ⟨j, gs, rj, a, c, hj, rfl, hdl, hrc, hrl, hrd, hb, hown, hkn⟩ := hrel
    obtain ⟨wo, hwo⟩ : ∃ wo, wo = wr := ⟨_, rfl⟩
    subst hwo
    have HRC := hid hrc
    have HRL := hid hrl
    have HRD := hid hrd
    have HB := hid hb
    have HOW := hid hown
    have HKN := hid hkn
    have HDL := hid hdl
    have HNW := hid (show w.heap.size < wo.heap.size from hb.lt)
    have gz := hb.lt
    clear hrc hrd hb hown hkn hdl hrl
    by_cases hlt : j < k1
    · have hlt2 : (j : Int) < k1 := Int.ofNat_lt.2 hlt
      have HKJ := hid (show k1 - j = (k1 - (j + 1)) + 1 by omega)
      have HBAD := hid (show rdGlob rj = none → ∀ p, rdPrg l ≠ some (p, []) from fun h p e => by
        rw [HEQ1.out, rdBind_none (by rw [HRC.out, HKJ.out, many_none h]; rfl)] at e
        cases e)
      go_wp2_with fail
      have HG := hid (show ∀ w', GP b w.heap.size [.slice none 0 0, .slice a j c, .slice none 0 0, .int .i64 0] wo w' → (∀ b1 o, b1 < b → w'.cell? ⟨b1, o, none⟩ = wo.cell? ⟨b1, o, none⟩) ∧ w'.cell? ⟨w.heap.size, 1, none⟩ = some (.slice a j c) from fun w' h => ⟨(bcellB h.1.1).1, h.2.cell 1 _ rfl⟩)
      refine Plan.wp_chainG planP3 (GP b w.heap.size [.slice none 0 0, .slice a j c, .slice none 0 0, .int .i64 0] wo) ⟨⟨(Below.refl _ _).drew, Nat.le_refl _, fun _ _ _ _ _ _ => rfl⟩, HB.out.drew⟩ (by kernel_rfl) rfl (by kernel_rfl) (by kernel_rfl) ?_
      repeat (first | (apply Plan.chain_skip rfl rfl; simp only [Act.put, List.setIfInBounds_toArray, List.set_cons_zero, List.set_cons_succ]) | (apply Plan.chain_det rfl rfl; (· intro w' hb; obtain ⟨hcl, hG⟩ := HG.out w' hb; go_simp; rfl); simp only [Act.put, List.setIfInBounds_toArray, List.set_cons_zero, List.set_cons_succ]))
      rcases hst : rdT rj with _ | ⟨n1, s1⟩
      · have HST := hid hst
        clear hst
        refine Plan.chain_panic 44 #[.pointer (some ⟨b, 0, none⟩)] rfl rfl rfl (by go_simp) ?_ undef ?_
        · refine (ortext_bad b rj wo.drew (HRD.out.kt rfl (Below.refl _ _).drew) HST.out).mono ?_
          rintro e w' ⟨rfl, hk⟩
          refine ⟨_, rfl, fun b' hb' => ?_⟩
          exact ⟨hb', .inr ⟨HBAD.out (rdBind_none HST.out), rfl⟩, (HKN.out.trans (KN.trans ⟨(Below.refl _ _).drew, Nat.le_refl _, fun _ _ _ _ _ _ => rfl⟩ (hk.kn _))).kt⟩
        · simp only [Act.put, List.setIfInBounds_toArray, List.set_cons_zero, List.set_cons_succ]
          repeat (first | (apply Plan.weak_skip rfl rfl; simp only [Act.put, List.setIfInBounds_toArray, List.set_cons_zero, List.set_cons_succ]) | (apply Plan.weak_det rfl rfl; (· intro w' hb; go_simp; rfl); simp only [Act.put, List.setIfInBounds_toArray, List.set_cons_zero, List.set_cons_succ]) | (apply Plan.weak_new undef rfl; simp only [Act.put, List.setIfInBounds_toArray, List.set_cons_zero, List.set_cons_succ]) | exact Plan.weak_fin rfl | exact Plan.weak_nil)
      · have HST := hid hst
        clear hst
        refine Plan.chain_call 44 #[.pointer (some ⟨b, 0, none⟩)] (fun v w' => v = .string n1 ∧ RdAt b w' s1 ∧ KT b [64] wo.drew w') rfl rfl rfl (by go_simp) ?_ (fun v w' h => ⟨(KN.drew _ _ _ _).trans (h.2.2.kn _), h.2.2.box HB.out.drew (by decide)⟩) (fun va wa h => ?_)
        · refine (ortext_ok b rj s1 n1 wo.drew HRD.out.drew HST.out).mono ?_
          rintro e w' ⟨rfl, h1, h2⟩
          exact ⟨_, rfl, rfl, h1, h2⟩
        obtain ⟨rfl, hra, hka⟩ := h
        simp only [Act.put, List.setIfInBounds_toArray, List.set_cons_zero, List.set_cons_succ]
        have HRA := hid hra
        have HKA := hid hka
        clear hra hka
        repeat (first | (apply Plan.chain_skip rfl rfl; simp only [Act.put, List.setIfInBounds_toArray, List.set_cons_zero, List.set_cons_succ]) | (apply Plan.chain_det rfl rfl; (· intro w' hb; obtain ⟨hcl, hG⟩ := HG.out w' hb; go_simp; rfl); simp only [Act.put, List.setIfInBounds_toArray, List.set_cons_zero, List.set_cons_succ]))
        rcases hsn : rdN s1 with _ | ⟨m1, s2⟩
        · have HSN := hid hsn
          clear hsn
          refine Plan.chain_panic 45 #[.pointer (some ⟨b, 0, none⟩)] rfl rfl rfl (by go_simp) ?_ undef ?_
          · refine (ornum_bad b s1 wa HRA.out HSN.out).mono ?_
            rintro e w' ⟨rfl, rfl⟩
            refine ⟨_, rfl, fun b' hb' => ?_⟩
            exact ⟨hb', .inr ⟨HBAD.out ((rdBind_some HST.out).trans (rdBind_none HSN.out)), rfl⟩, (HKN.out.trans ((KN.drew _ _ _ _).trans (HKA.out.kn _))).kt⟩
          · simp only [Act.put, List.setIfInBounds_toArray, List.set_cons_zero, List.set_cons_succ]
            repeat (first | (apply Plan.weak_skip rfl rfl; simp only [Act.put, List.setIfInBounds_toArray, List.set_cons_zero, List.set_cons_succ]) | (apply Plan.weak_det rfl rfl; (· intro w' hb; go_simp; rfl); simp only [Act.put, List.setIfInBounds_toArray, List.set_cons_zero, List.set_cons_succ]) | (apply Plan.weak_new undef rfl; simp only [Act.put, List.setIfInBounds_toArray, List.set_cons_zero, List.set_cons_succ]) | exact Plan.weak_fin rfl | exact Plan.weak_nil)
        · have HSN := hid hsn
          clear hsn
          refine Plan.chain_call 45 #[.pointer (some ⟨b, 0, none⟩)] (fun v w' => v = .int .i64 m1 ∧ RdAt b w' s2 ∧ KT b [64] wa w') rfl rfl rfl (by go_simp) ?_ (fun v w' h => ⟨(KN.drew _ _ _ _).trans ((HKA.out.trans h.2.2).kn _), (HKA.out.trans h.2.2).box HB.out.drew (by decide)⟩) (fun vb wb h => ?_)
          · refine (ornum_ok b s1 s2 m1 wa HRA.out HSN.out).mono ?_
            rintro e w' ⟨rfl, h1, h2⟩
            exact ⟨_, rfl, rfl, h1, h2⟩
          obtain ⟨rfl, hrb, hkb⟩ := h
          simp only [Act.put, List.setIfInBounds_toArray, List.set_cons_zero, List.set_cons_succ]
          have HSB := hid hrb
          have HSX := hid (show BoxAt wb w.heap.size 31 [.slice none 0 0, .slice a j c, .slice none 0 0, .int .i64 0] from (HKA.out.trans hkb).box HB.out.drew (by decide))
          have HSO := hid (show OwnE globE w.heap.size 50 wb (.slice a j c) gs from (HKA.out.trans hkb).own HOW.out.drew (by decide))
          have HSK := hid (show KN b w.heap.size [64] wo wb from (KN.drew _ _ _ _).trans ((HKA.out.trans hkb).kn _))
          have HSZ := hid (show w.heap.size < wb.heap.size from HSX.out.lt)
          have HEL := hid (show rdGlob rj = some (⟨n1, m1⟩, s2) from (rdBind_some HST.out).trans (rdBind_some HSN.out))
          clear hrb hkb HKA HRA
          repeat (first | (apply Plan.chain_skip rfl rfl; simp only [Act.put, List.setIfInBounds_toArray, List.set_cons_zero, List.set_cons_succ]) | (apply Plan.chain_det rfl rfl; (· intro w' hb; obtain ⟨hcl, hG⟩ := HG.out w' hb; go_simp; rfl); simp only [Act.put, List.setIfInBounds_toArray, List.set_cons_zero, List.set_cons_succ]))
          refine Plan.chain_litG globE w.heap.size 50 [⟨n1, m1⟩] #[.string n1, .int .i64 m1] 1 rfl rfl rfl (by go_simp) rfl rfl (by simp) (Nat.le_of_lt HSZ.out) ⟨HSK.out.trans (KN.alloc _ _ _ (by have := HSZ.out; have := HBW.out; omega)), HSX.out.alloc _⟩ (fun ho1 => ?_)
          simp only [Act.put, List.setIfInBounds_toArray, List.set_cons_zero, List.set_cons_succ]
          have HO1 := hid ho1
          clear ho1
          repeat (first | (apply Plan.chain_skip rfl rfl; simp only [Act.put, List.setIfInBounds_toArray, List.set_cons_zero, List.set_cons_succ]) | (apply Plan.chain_det rfl rfl; (· intro w' hb; obtain ⟨hcl, hG⟩ := HG.out w' hb; go_simp; rfl); simp only [Act.put, List.setIfInBounds_toArray, List.set_cons_zero, List.set_cons_succ]))
          refine Plan.chain_appendG globE (.tmp 9) (.tmp 15) 28 w.heap.size w.heap.size 50 _ 24 gs [⟨n1, m1⟩] rfl rfl rfl rfl Try.underlying28 infoGlob10 rfl (HSO.out.alloc _) (HO1.out.sl (Nat.le_refl _) (by simp)) (by have := HLE1.out.1; have := HDL.out; simp; omega) (by have := HLE1.out.1; have := HDL.out; simp only [maxLen]; simp; omega) (by have := HSZ.out; simp; omega) (fun w7 hg7 => ?_) (fun a7 c7 w7 ho7 hg7 => ?_)
          · obtain ⟨h1, h2, h3⟩ := grow_step HSK.out HSX.out HSB.out HSO.out (by decide) HBW.out hg7
            exact ⟨h3, h1⟩
          simp only [Act.put, List.setIfInBounds_toArray, List.set_cons_zero, List.set_cons_succ]
          rw [show (gs ++ [(⟨n1, m1⟩ : Glob)]).length = j + 1 by simp [HDL.out]] at ho7 ⊢
          obtain ⟨h1, h2, h3⟩ := grow_step HSK.out HSX.out HSB.out HSO.out (by decide) HBW.out hg7
          have HO7 := hid ho7
          have HX7 := hid h1
          have HR7 := hid h2
          have HN7 := hid (HKN.out.trans h3)
          have k1' := h1.cell 1 _ rfl
          have kz := h1.lt
          have kf := h1.frozen 1
          clear h1 h2 h3 ho7 hg7 gz
          repeat (first | (apply Plan.chain_skip rfl rfl; simp only [Act.put, List.setIfInBounds_toArray, List.set_cons_zero, List.set_cons_succ]) | (apply Plan.chain_det rfl rfl; (· intro w' hb; obtain ⟨hcl, hG⟩ := HG.out w' hb; go_simp; rfl); simp only [Act.put, List.setIfInBounds_toArray, List.set_cons_zero, List.set_cons_succ]))
          refine Plan.chain_fin rfl rfl ?_
          unfold Oper.wp
          go_simp
          go_wp2_with fail
          have HJW := hid (show wrap64 ((j : Int) + 1) = ((j + 1 : Nat) : Int) from wrap_succ hlt (Nat.le_refl _) HLE1.out.1)
          refine ⟨⟨j + 1, gs ++ [⟨n1, m1⟩], s2, a7, c7, hlt, by rw [HJW.out], by simp [HDL.out], ?_, ?_, HR7.out.other _ HBW.out, HX7.out.set 1 _, HO7.out.other _ _ (fun k hk e => HO7.out.neBox HX7.out (by decide) k hk (congrArg some e)), HN7.out.trans (KN.store _ (Nat.le_of_lt HBW.out) (Nat.le_refl _) _ _)⟩, by rw [HJW.out]; exact meas_lt hlt⟩
          · rw [HRC.out, HKJ.out]
            exact many_step HEL.out
          · have h1 := congrArg List.length (rdT_of HST.out)
            have h2 := congrArg List.length (rdN_of HSN.out).1
            rw [List.length_append] at h1 h2
            have := HRL.out
            omega
    · have hlt2 : ¬ (j : Int) < k1 := by omega
      have HEQ2 := hid (show rdPrg l = (rdBind (rdList rdLay) fun l => rdBind (rdList rdFun) fun f => rdBind rdN fun m => rdPure (⟨f, gs, l, m⟩ : Prg)) rj by
        rw [HEQ1.out]
        refine rdBind_some ?_
        rw [HRC.out, show k1 - j = 0 by omega]
        simp [rdMany])
      have HGJ := hid (show gs.length ≤ 1000000000 by have := HDL.out; have := HLE1.out.1; omega)
      clear HRC HEQ1 gz
      go_wp2_with fail
      refine (orcount_calls b rj wo HRD.out).mono ?_
      rintro e w2 ⟨hq, hk⟩
      rcases hq with ⟨k2, r2, hs, rfl, hrd⟩ | ⟨hs, rfl⟩
      rotate_left
      · refine ⟨rfl, .inr ⟨fun p e => ?_, rfl⟩, (HKN.out.trans (hk.kn _)).kt⟩
        rw [HEQ2.out, list_none hs] at e
        cases e
      have HR2 := hid hrd
      have HEQ3 := hid (show rdPrg l = rdBind (rdMany rdLay k2) (fun l => rdBind (rdList rdFun) fun f => rdBind rdN fun m => rdPure (⟨f, gs, l, m⟩ : Prg)) r2 from HEQ2.out.trans (list_some hs))
      have HLE2 := hid (show k2 ≤ 1000000000 ∧ r2.length ≤ 1000000000 by
        have h1 := congrArg List.length (rdC_of hs).1
        have h2 := (rdC_of hs).2.1
        rw [List.length_append] at h1
        have := HRL.out
        omega)
      have HB2 := hid (hk.box HB.out (by decide))
      have HG2 := hid (show OwnE globE w.heap.size 50 w2 (.slice a j c) gs from hk.own HOW.out (by decide))
      have HN2 := hid (HKN.out.trans (hk.kn w.heap.size))
      have HJN := hid HDL.out
      clear hrd hk hs HRD HB HOW HKN HRL HEQ2 hlt hlt2 HNW
      go_wp2_with fail
      go_loopw [21] (fun i wr => ∃ (q : Nat) (ls : List (List Int)) (ss : List Slc) (rq : List UInt8) (a2 : Option Addr) (c2 : Nat), q ≤ k2 ∧ i = .int .i64 q ∧ ls.length = q ∧ rdMany rdLay k2 r2 = (rdMany rdLay (k2 - q) rq).map (fun x => (ls ++ x.1, x.2)) ∧ rq.length ≤ 1000000000 ∧ RdAt b wr rq ∧ BoxAt wr w.heap.size 31 [.slice none 0 0, .slice a j c, .slice a2 q c2, .int .i64 0] ∧ OwnE globE w.heap.size 50 wr (.slice a j c) gs ∧ OwnLays w.heap.size wr (.slice a2 q c2) ls ss ∧ KN b w.heap.size [64] w wr) (fun i _ => k2 - (intOf i).toNat)
      case atStart => exact ⟨0, [], [], r2, none, 0, Nat.zero_le _, rfl, rfl, by rw [Nat.sub_zero]; cases rdMany rdLay k2 r2 <;> rfl, HLE2.out.2, HR2.out, HB2.out, HG2.out, OwnLays.nil _ _, HN2.out⟩
      case round =>
        clear HR2 HB2 HG2 HN2
        obtain ⟨q, ls, ss, rq, a2, c2, hj2, rfl, hdl, hrc, hrl, hrd, hb, hgl, hown, hkn⟩ := hrel
        obtain ⟨wp, hwp⟩ : ∃ wp, wp = wr := ⟨_, rfl⟩
        subst hwp
        have HRC := hid hrc
        have HRL := hid hrl
        have HRD := hid hrd
        have HB := hid hb
        have HG := hid hgl
        have HOW := hid hown
        have HKN := hid hkn
        have HDL2 := hid hdl
        have gz := hb.lt
        clear hrc hrd hb hown hkn hdl hrl hgl
        by_cases hlt : q < k2
        · have hlt2 : (q : Int) < k2 := Int.ofNat_lt.2 hlt
          have HKJ := hid (show k2 - q = (k2 - (q + 1)) + 1 by omega)
          have HBAD := hid (show rdLay rq = none → ∀ p, rdPrg l ≠ some (p, []) from fun h p e => by
            rw [HEQ3.out, rdBind_none (by rw [HRC.out, HKJ.out, many_none h]; rfl)] at e
            cases e)
          go_wp2_with fail
          refine (orcount_calls b rq wp HRD.out).mono ?_
          rintro e w3 ⟨hq, hk⟩
          rcases hq with ⟨k3, r3, hs, rfl, hrd⟩ | ⟨hs, rfl⟩
          rotate_left
          · exact ⟨rfl, .inr ⟨HBAD.out (by unfold rdLay rdList; rw [hs]), rfl⟩, (HKN.out.trans (hk.kn _)).kt⟩
          have HR3 := hid hrd
          have HLE3 := hid (show k3 ≤ 1000000000 ∧ r3.length ≤ 1000000000 by
            have h1 := congrArg List.length (rdC_of hs).1
            have h2 := (rdC_of hs).2.1
            rw [List.length_append] at h1
            have := HRL.out
            omega)
          have HLY := hid (show rdLay rq = rdMany rdN k3 r3 by unfold rdLay rdList; rw [hs])
          have HB3 := hid (hk.box HB.out (by decide))
          have HG3 := hid (show OwnE globE w.heap.size 50 w3 (.slice a j c) gs from hk.own HG.out (by decide))
          have HOW3 := hid (show OwnLays w.heap.size w3 (.slice a2 q c2) ls ss from HOW.out.kt hk)
          have HN3 := hid (HKN.out.trans (hk.kn w.heap.size))
          have HZ3 := hid (show w.heap.size < w3.heap.size from HB3.out.lt)
          clear hrd hk hs HRD HB HG HOW HKN HRL gz
          go_wp2_with fail
          go_loopw [3, 25] (fun row i wr => ∃ (t : Nat) (xs : List Int) (rt : List UInt8) (a3 : Option Addr) (c3 : Nat), t ≤ k3 ∧ i = .int .i64 t ∧ row = .slice a3 t c3 ∧ xs.length = t ∧ rdMany rdN k3 r3 = (rdMany rdN (k3 - t) rt).map (fun x => (xs ++ x.1, x.2)) ∧ rt.length ≤ 1000000000 ∧ RdAt b wr rt ∧ OwnE intE w3.heap.size 3 wr (.slice a3 t c3) xs ∧ KN b w3.heap.size [64] w3 wr) (fun _ i _ => k3 - (intOf i).toNat)
          case atStart => exact ⟨0, [], r3, none, 0, Nat.zero_le _, rfl, rfl, rfl, by rw [Nat.sub_zero]; cases rdMany rdN k3 r3 <;> rfl, HLE3.out.2, HR3.out, OwnE.nil _ _ _ _, KN.refl _ _ _ _⟩
          case round =>
            clear HR3
            obtain ⟨t, xs, rt, a3, c3, hj3, rfl, rfl, hdl, hrc, hrl, hrd, hown, hkn⟩ := hrel
            obtain ⟨wq, hwq⟩ : ∃ wq, wq = wr := ⟨_, rfl⟩
            subst hwq
            have HRC3 := hid hrc
            have HRL3 := hid hrl
            have HRD3 := hid hrd
            have HXS := hid hown
            have HKN3 := hid hkn
            have HDL3 := hid hdl
            clear hrc hrd hown hkn hdl hrl
            by_cases hlt3 : t < k3
            · have hlt4 : (t : Int) < k3 := Int.ofNat_lt.2 hlt3
              have HKJ3 := hid (show k3 - t = (k3 - (t + 1)) + 1 by omega)
              go_wp2_with fail
              refine (ornum_calls b rt wq HRD3.out).mono ?_
              rintro e w4 ⟨hq, hk⟩
              rcases hq with ⟨m, r4, hs, rfl, hrd⟩ | ⟨hs, rfl⟩
              rotate_left
              · exact ⟨rfl, .inr ⟨HBAD.out (HLY.out.trans (by rw [HRC3.out, HKJ3.out, many_none hs]; rfl)), rfl⟩, (HN3.out.trans ((HKN3.out.kt.kn _).trans (hk.kn _))).kt⟩
              have HEN := hid hs
              have HR4 := hid hrd
              have HX4 := hid (show OwnE intE w3.heap.size 3 w4 (.slice a3 t c3) xs from hk.own HXS.out (by decide))
              have HK4 := hid (HKN3.out.trans (hk.kn _))
              have HZ4 := hid (show w3.heap.size ≤ w4.heap.size from (HKN3.out.trans (hk.kn w3.heap.size)).2.1)
              clear hs hrd hk HRD3 HXS HKN3
              go_wp2_with (
                at_builtin
                refine wpList_append_E intE (o := ⟨some 31, _, _, _, _, _⟩) rfl (.tmp 27) (.tmp 30) 52 rfl w3.heap.size w3.heap.size 3 _ 8 Try.underlying52 infoInt10 rfl xs [m] (HX4.out.alloc _) ((OwnE.lit intE _ w3.heap.size 3 [m] _ w4.heap.size 1 rfl HZ4.out rfl rfl (by simp)).sl (Nat.le_refl _) (by simp)) (by have := HLE3.out.1; have := HDL3.out; simp; omega) (by have := HLE3.out.1; have := HDL3.out; simp only [maxLen]; simp; omega) (by have := HZ4.out; simp; omega) ?_
                intro q7 w7 ho7 hg7
                obtain ⟨a7, c7, ha7⟩ := ho7.anySlice
                rw [show (xs ++ [m]).length = t + 1 by simp [HDL3.out]] at ha7
                subst ha7
                have HO7 := hid ho7
                have HG7 := hid hg7
                clear ho7 hg7)
              have HJW := hid (show wrap64 ((t : Int) + 1) = ((t + 1 : Nat) : Int) from wrap_succ hlt3 (Nat.le_refl _) HLE3.out.1)
              have hbz : b < w3.heap.size := Nat.lt_trans HBW.out HZ3.out
              refine ⟨⟨t + 1, xs ++ [m], r4, a7, c7, hlt3, by rw [HJW.out], rfl, by simp [HDL3.out], ?_, ?_, (HR4.out.alloc _).grown (HX4.out.alloc _) HG7.out hbz, HO7.out, HK4.out.trans ((KN.alloc _ _ _ (Nat.le_trans (Nat.le_of_lt hbz) HZ4.out)).trans (KN.grown (HX4.out.alloc _) HG7.out (by have := HZ4.out; simp; omega) (Nat.le_of_lt hbz)))⟩, by rw [HJW.out]; exact meas_lt hlt3⟩
              · rw [HRC3.out, HKJ3.out]
                exact many_step HEN.out
              · have h2 := congrArg List.length (rdN_of HEN.out).1
                rw [List.length_append] at h2
                have := HRL3.out
                omega
            · have hlt4 : ¬ (t : Int) < k3 := by omega
              have HKT := hid (show KT b [64] w3 wq from HKN3.out.kt)
              have HEL := hid (show rdLay rq = some (xs, rt) by
                rw [HLY.out, HRC3.out, show k3 - t = 0 by omega]
                simp [rdMany])
              have HXL := hid (show OwnLays w.heap.size wq (.slice a2 q c2) ls ss from HOW3.out.kt HKT.out)
              have HXG := hid (show OwnE globE w.heap.size 50 wq (.slice a j c) gs from HKT.out.own HG3.out (by decide))
              have hbx := HKT.out.box HB3.out (by decide)
              have HXB := hid hbx
              have HXK := hid (HN3.out.trans (HKT.out.kn w.heap.size))
              have HSL := hid HXL.out.len
              have g2 := hbx.cell 2 _ rfl
              have gz := hbx.lt
              have HWZ := hid gz
              clear hbx HOW3 HG3 HB3 HN3 HKN3 HRC3
              go_wp2_with (
                at_builtin
                refine wpList_append_E rowE (o := ⟨some 37, _, _, _, _, _⟩) rfl (.tmp 34) (.tmp 36) 29 rfl w.heap.size w.heap.size 52 _ 24 Try.underlying29 infoRow10 rfl ss [⟨a3, t, c3⟩] (HXL.out.row.alloc _) ((OwnE.lit rowE _ w.heap.size 52 [⟨a3, t, c3⟩] _ wq.heap.size 1 rfl (Nat.le_of_lt HWZ.out) rfl rfl (by simp)).sl (Nat.le_refl _) (by simp)) (by have := HLE2.out.1; have := HDL2.out; have := HSL.out; simp; omega) (by have := HLE2.out.1; have := HDL2.out; have := HSL.out; simp only [maxLen]; simp; omega) (by have := HWZ.out; simp; omega) ?_
                intro q7 w7 ho7 hg7
                obtain ⟨a7, c7, ha7⟩ := ho7.anySlice
                rw [show (ss ++ [(⟨a3, t, c3⟩ : Slc)]).length = q + 1 by simp [HSL.out, HDL2.out]] at ha7
                subst ha7
                obtain ⟨h1, h2, h3⟩ := grow_step HXK.out HXB.out HRD3.out HXL.out.row (by decide) HBW.out hg7
                have HO7 := hid (lays_more HXL.out HXS.out (Nat.le_of_lt HZ3.out) ho7 hg7)
                have HGG := hid (OwnE.grownOther HXG.out HXL.out.row (by decide) hg7)
                have HX7 := hid h1
                have HR7 := hid h2
                have HN7 := hid h3
                have k2' := h1.cell 2 _ rfl
                have kz := h1.lt
                have kf := h1.frozen 2
                clear ho7 hg7 h1 h2 h3)
              have HJW := hid (show wrap64 ((q : Int) + 1) = ((q + 1 : Nat) : Int) from wrap_succ hlt (Nat.le_refl _) HLE2.out.1)
              refine ⟨⟨q + 1, ls ++ [xs], ss ++ [⟨a3, t, c3⟩], rt, a7, c7, hlt, by rw [HJW.out], by simp [HDL2.out], ?_, HRL3.out, HR7.out.other _ HBW.out, HX7.out.set 2 _, OwnE.storeBox _ HGG.out HX7.out (by decide), HO7.out.onlyBox (Only.store _ _ _ _) HX7.out (by decide) (by decide), HN7.out.trans (KN.store _ (Nat.le_of_lt HBW.out) (Nat.le_refl _) _ _)⟩, by rw [HJW.out]; exact meas_lt hlt⟩
              rw [HRC.out, HKJ.out]
              exact many_step HEL.out
        · have hlt2 : ¬ (q : Int) < k2 := by omega
          have HEQ4 := hid (show rdPrg l = (rdBind (rdList rdFun) fun f => rdBind rdN fun m => rdPure (⟨f, gs, ls, m⟩ : Prg)) rq by
            rw [HEQ3.out]
            refine rdBind_some ?_
            rw [HRC.out, show k2 - q = 0 by omega]
            simp [rdMany])
          clear HRC HEQ3 gz
          go_wp2_with fail
          refine (orcount_calls b rq wp HRD.out).mono ?_
          rintro e w5 ⟨hq, hk⟩
          rcases hq with ⟨k5, r5, hs, rfl, hrd⟩ | ⟨hs, rfl⟩
          rotate_left
          · refine ⟨rfl, .inr ⟨fun p e => ?_, rfl⟩, (HKN.out.trans (hk.kn _)).kt⟩
            rw [HEQ4.out, list_none hs] at e
            cases e
          have HR5 := hid hrd
          have HEQ5 := hid (show rdPrg l = rdBind (rdMany rdFun k5) (fun f => rdBind rdN fun m => rdPure (⟨f, gs, ls, m⟩ : Prg)) r5 from HEQ4.out.trans (list_some hs))
          have HLE5 := hid (show k5 ≤ 1000000000 ∧ r5.length ≤ 1000000000 by
            have h1 := congrArg List.length (rdC_of hs).1
            have h2 := (rdC_of hs).2.1
            rw [List.length_append] at h1
            have := HRL.out
            omega)
          have HB5 := hid (hk.box HB.out (by decide))
          have HG5 := hid (show OwnE globE w.heap.size 50 w5 (.slice a j c) gs from hk.own HG.out (by decide))
          have HL5 := hid (show OwnLays w.heap.size w5 (.slice a2 q c2) ls ss from HOW.out.kt hk)
          have HN5 := hid (HKN.out.trans (hk.kn w.heap.size))
          clear hrd hk hs HRD HB HG HOW HKN HRL HEQ4 hlt hlt2
          go_wp2_with fail
          go_loopw [42] (fun i wr => ∃ (v : Nat) (fs : List Fun) (cs : List Slc) (rv : List UInt8) (a5 : Option Addr) (c5 : Nat), v ≤ k5 ∧ i = .int .i64 v ∧ fs.length = v ∧ rdMany rdFun k5 r5 = (rdMany rdFun (k5 - v) rv).map (fun x => (fs ++ x.1, x.2)) ∧ rv.length ≤ 1000000000 ∧ RdAt b wr rv ∧ BoxAt wr w.heap.size 31 [.slice a5 v c5, .slice a j c, .slice a2 q c2, .int .i64 0] ∧ OwnE globE w.heap.size 50 wr (.slice a j c) gs ∧ OwnLays w.heap.size wr (.slice a2 q c2) ls ss ∧ OwnFuns w.heap.size wr (.slice a5 v c5) fs cs ∧ KN b w.heap.size [64] w wr) (fun i _ => k5 - (intOf i).toNat)
          case atStart => exact ⟨0, [], [], r5, none, 0, Nat.zero_le _, rfl, rfl, by rw [Nat.sub_zero]; cases rdMany rdFun k5 r5 <;> rfl, HLE5.out.2, HR5.out, HB5.out, HG5.out, HL5.out, OwnFuns.nil _ _, HN5.out⟩
          case round =>
            clear HR5 HB5 HG5 HL5 HN5
            obtain ⟨v, fs, cs, rv, a5, c5, hj5, rfl, hdl, hrc, hrl, hrd, hb, hgl, hly, hown, hkn⟩ := hrel
            obtain ⟨wo, hwo⟩ : ∃ wo, wo = wr := ⟨_, rfl⟩
            subst hwo
            have HRC := hid hrc
            have HRL := hid hrl
            have HRD := hid hrd
            have HB := hid hb
            have HG0 := hid hgl
            have HL0 := hid hly
            have HOW := hid hown
            have HKN := hid hkn
            have HDL5 := hid hdl
            have HCL := hid hown.len
            have gz := hb.lt
            have HWZ := hid gz
            clear hrc hrd hb hown hkn hdl hrl hgl hly
            by_cases hlt : v < k5
            · have hlt2 : (v : Int) < k5 := Int.ofNat_lt.2 hlt
              have HKJ := hid (show k5 - v = (k5 - (v + 1)) + 1 by omega)
              have HBAD := hid (show rdFun rv = none → ∀ p, rdPrg l ≠ some (p, []) from fun h p e => by
                rw [HEQ5.out, rdBind_none (by rw [HRC.out, HKJ.out, many_none h]; rfl)] at e
                cases e)
              go_wp2_with fail
              have HG := hid (show ∀ w', GP b w.heap.size [.slice a5 v c5, .slice a j c, .slice a2 q c2, .int .i64 0] wo w' → (∀ b1 o, b1 < b → w'.cell? ⟨b1, o, none⟩ = wo.cell? ⟨b1, o, none⟩) ∧ w'.cell? ⟨w.heap.size, 0, none⟩ = some (.slice a5 v c5) from fun w' h => ⟨(bcellB h.1.1).1, h.2.cell 0 _ rfl⟩)
              refine Plan.wp_chainG planP16 (GP b w.heap.size [.slice a5 v c5, .slice a j c, .slice a2 q c2, .int .i64 0] wo) ⟨KN.drew _ _ _ _, HB.out.drew⟩ (by kernel_rfl) rfl (by kernel_rfl) (by kernel_rfl) ?_
              repeat (first | (apply Plan.chain_skip rfl rfl; simp only [Act.put, List.setIfInBounds_toArray, List.set_cons_zero, List.set_cons_succ]) | (apply Plan.chain_det rfl rfl; (· intro w' hb; obtain ⟨hcl, hG⟩ := HG.out w' hb; go_simp; rfl); simp only [Act.put, List.setIfInBounds_toArray, List.set_cons_zero, List.set_cons_succ]))
              rcases hst : rdFun rv with _ | ⟨f, s1⟩
              · have HST := hid hst
                clear hst
                refine Plan.chain_panic 46 #[.pointer (some ⟨b, 0, none⟩)] rfl rfl rfl (by go_simp) ?_ undef ?_
                · refine (orfun_calls b rv wo.drew HRD.out.drew HRL.out).mono ?_
                  rintro e w' ⟨hq, hk⟩
                  rcases hq with ⟨f, r, s, hs, rfl, _, _⟩ | ⟨hs, rfl⟩
                  · rw [HST.out] at hs; cases hs
                  refine ⟨_, rfl, fun b' hb' => ?_⟩
                  exact ⟨hb', .inr ⟨HBAD.out HST.out, rfl⟩, (HKN.out.trans ((KN.drew _ _ _ _).trans (hk.kn _))).kt⟩
                · simp only [Act.put, List.setIfInBounds_toArray, List.set_cons_zero, List.set_cons_succ]
                  repeat (first | (apply Plan.weak_skip rfl rfl; simp only [Act.put, List.setIfInBounds_toArray, List.set_cons_zero, List.set_cons_succ]) | (apply Plan.weak_det rfl rfl; (· intro w' hb; go_simp; rfl); simp only [Act.put, List.setIfInBounds_toArray, List.set_cons_zero, List.set_cons_succ]) | (apply Plan.weak_new undef rfl; simp only [Act.put, List.setIfInBounds_toArray, List.set_cons_zero, List.set_cons_succ]) | exact Plan.weak_fin rfl | exact Plan.weak_nil)
              · have HST := hid hst
                clear hst
                refine Plan.chain_call 46 #[.pointer (some ⟨b, 0, none⟩)] (fun u w' => ∃ ac cc, u = .agg #[.string f.name, .int .i64 f.params, .int .i64 f.regs, .slice ac f.code.length cc] ∧ OwnE insE wo.heap.size 57 w' (.slice ac f.code.length cc) f.code ∧ RdAt b w' s1 ∧ KT b [64] wo.drew w') rfl rfl rfl (by go_simp) ?_ (fun u w' h => by
                  obtain ⟨ac, cc, _, _, _, hk⟩ := h
                  exact ⟨(KN.drew _ _ _ _).trans (hk.kn _), hk.box HB.out.drew (by decide)⟩) (fun va wb h => ?_)
                · refine (orfun_calls b rv wo.drew HRD.out.drew HRL.out).mono ?_
                  rintro e w' ⟨hq, hk⟩
                  rcases hq with ⟨f', r, s, hs, rfl, ho, hr⟩ | ⟨hs, rfl⟩
                  · rw [HST.out] at hs
                    obtain ⟨rfl, rfl⟩ := Prod.mk.inj (Option.some.inj hs)
                    obtain ⟨ac, cc, hv⟩ := ho.anySlice
                    rw [hv] at ho ⊢
                    exact ⟨_, rfl, ac, cc, rfl, ho, hr, hk⟩
                  · rw [HST.out] at hs; cases hs
                obtain ⟨ac, cc, rfl, hcode, hrb, hkb⟩ := h
                simp only [Act.put, List.setIfInBounds_toArray, List.set_cons_zero, List.set_cons_succ]
                have HCO := hid (show OwnE insE wo.heap.size 57 wb (Slc.val ⟨ac, f.code.length, cc⟩) f.code from hcode)
                have HSB := hid hrb
                have HSX := hid (show BoxAt wb w.heap.size 31 [.slice a5 v c5, .slice a j c, .slice a2 q c2, .int .i64 0] from hkb.box HB.out.drew (by decide))
                have HSF := hid (show OwnFuns w.heap.size wb (.slice a5 v c5) fs cs from (HOW.out.fresh (Only.below (Below.refl _ wo).drew _)).kt hkb)
                have HSL := hid (show OwnLays w.heap.size wb (.slice a2 q c2) ls ss from (HL0.out.fresh (Only.below (Below.refl _ wo).drew _)).kt hkb)
                have HSG := hid (show OwnE globE w.heap.size 50 wb (.slice a j c) gs from hkb.own HG0.out.drew (by decide))
                have HSK := hid (show KN b w.heap.size [64] wo wb from (KN.drew _ _ _ _).trans (hkb.kn _))
                have HSZ := hid (show w.heap.size < wb.heap.size from HSX.out.lt)
                clear hrb hkb hcode
                repeat (first | (apply Plan.chain_skip rfl rfl; simp only [Act.put, List.setIfInBounds_toArray, List.set_cons_zero, List.set_cons_succ]) | (apply Plan.chain_det rfl rfl; (· intro w' hb; obtain ⟨hcl, hG⟩ := HG.out w' hb; go_simp; rfl); simp only [Act.put, List.setIfInBounds_toArray, List.set_cons_zero, List.set_cons_succ]))
                refine Plan.chain_litG funE w.heap.size 55 [(f, ⟨ac, f.code.length, cc⟩)] #[.string f.name, .int .i64 f.params, .int .i64 f.regs, .slice ac f.code.length cc] 1 rfl rfl rfl (by go_simp) rfl rfl (by simp) (Nat.le_of_lt HSZ.out) ⟨HSK.out.trans (KN.alloc _ _ _ (by have := HSZ.out; have := HBW.out; omega)), HSX.out.alloc _⟩ (fun ho1 => ?_)
                simp only [Act.put, List.setIfInBounds_toArray, List.set_cons_zero, List.set_cons_succ]
                have HO1 := hid ho1
                clear ho1
                repeat (first | (apply Plan.chain_skip rfl rfl; simp only [Act.put, List.setIfInBounds_toArray, List.set_cons_zero, List.set_cons_succ]) | (apply Plan.chain_det rfl rfl; (· intro w' hb; obtain ⟨hcl, hG⟩ := HG.out w' hb; go_simp; rfl); simp only [Act.put, List.setIfInBounds_toArray, List.set_cons_zero, List.set_cons_succ]))
                refine Plan.chain_appendG funE (.tmp 45) (.tmp 48) 27 w.heap.size w.heap.size 55 _ 56 (fs.zip cs) [(f, ⟨ac, f.code.length, cc⟩)] rfl rfl rfl rfl Try.underlying27 infoFun10 rfl (HSF.out.row.alloc _) (HO1.out.sl (Nat.le_refl _) (by simp)) (by have := HLE5.out.1; have := HDL5.out; simp; omega) (by have := HLE5.out.1; have := HDL5.out; simp only [maxLen]; simp; omega) (by have := HSZ.out; simp; omega) (fun w7 hg7 => ?_) (fun a7 c7 w7 ho7 hg7 => ?_)
                · obtain ⟨h1, h2, h3⟩ := grow_step HSK.out HSX.out HSB.out HSF.out.row (by decide) HBW.out hg7
                  exact ⟨h3, h1⟩
                simp only [Act.put, List.setIfInBounds_toArray, List.set_cons_zero, List.set_cons_succ]
                rw [show (fs.zip cs ++ [(f, (⟨ac, f.code.length, cc⟩ : Slc))]).length = v + 1 by simp [HDL5.out, HCL.out]] at ho7 ⊢
                obtain ⟨h1, h2, h3⟩ := grow_step HSK.out HSX.out HSB.out HSF.out.row (by decide) HBW.out hg7
                have HO7 := hid (funcs_more HSF.out (fun i hi k hk => ((HOW.out.code i hi).lt k hk).2) HCO.out (Nat.le_of_lt HWZ.out) ho7 hg7)
                have HL7 := hid (OwnLays.grownOther HSL.out HSF.out.row (by decide) (by decide) hg7)
                have HG7 := hid (OwnE.grownOther HSG.out HSF.out.row (by decide) hg7)
                have HX7 := hid h1
                have HR7 := hid h2
                have HN7 := hid (HKN.out.trans h3)
                have k0' := h1.cell 0 _ rfl
                have kz := h1.lt
                have kf := h1.frozen 0
                clear h1 h2 h3 ho7 hg7 gz
                repeat (first | (apply Plan.chain_skip rfl rfl; simp only [Act.put, List.setIfInBounds_toArray, List.set_cons_zero, List.set_cons_succ]) | (apply Plan.chain_det rfl rfl; (· intro w' hb; obtain ⟨hcl, hG⟩ := HG.out w' hb; go_simp; rfl); simp only [Act.put, List.setIfInBounds_toArray, List.set_cons_zero, List.set_cons_succ]))
                refine Plan.chain_fin rfl rfl ?_
                unfold Oper.wp
                go_simp
                go_wp2_with fail
                have HJW := hid (show wrap64 ((v : Int) + 1) = ((v + 1 : Nat) : Int) from wrap_succ hlt (Nat.le_refl _) HLE5.out.1)
                refine ⟨⟨v + 1, fs ++ [f], cs ++ [⟨ac, f.code.length, cc⟩], s1, a7, c7, hlt, by rw [HJW.out], by simp [HDL5.out], ?_, ?_, HR7.out.other _ HBW.out, HX7.out.set 0 _, OwnE.storeBox _ HG7.out HX7.out (by decide), HL7.out.onlyBox (Only.store _ _ _ _) HX7.out (by decide) (by decide), HO7.out.onlyBox (Only.store _ _ _ _) HX7.out (by decide) (by decide), HN7.out.trans (KN.store _ (Nat.le_of_lt HBW.out) (Nat.le_refl _) _ _)⟩, by rw [HJW.out]; exact meas_lt hlt⟩
                · rw [HRC.out, HKJ.out]
                  exact many_step HST.out
                · have h1 := rdFun_len HST.out
                  have := HRL.out
                  omega
            · have hlt2 : ¬ (v : Int) < k5 := by omega
              have HEQ6 := hid (show rdPrg l = (rdBind rdN fun m => rdPure (⟨fs, gs, ls, m⟩ : Prg)) rv by
                rw [HEQ5.out]
                refine rdBind_some ?_
                rw [HRC.out, show k5 - v = 0 by omega]
                simp [rdMany])
              clear HRC HEQ5 gz
              go_wp2_with fail
              refine (ornum_calls b rv wo HRD.out).mono ?_
              rintro e w6 ⟨hq, hk⟩
              rcases hq with ⟨m, r6, hs, rfl, hrd⟩ | ⟨hs, rfl⟩
              rotate_left
              · refine ⟨rfl, .inr ⟨fun p e => ?_, rfl⟩, (HKN.out.trans (hk.kn _)).kt⟩
                rw [HEQ6.out, rdBind_none hs] at e
                cases e
              have HEQ7 := hid (show rdPrg l = some (⟨fs, gs, ls, m⟩, r6) from HEQ6.out.trans (rdBind_some hs))
              have hbx := hk.box HB.out (by decide)
              have HB6 := hid hbx
              have HF6 := hid (show OwnFuns w.heap.size w6 (.slice a5 v c5) fs cs from HOW.out.kt hk)
              have HL6 := hid (show OwnLays w.heap.size w6 (.slice a2 q c2) ls ss from HL0.out.kt hk)
              have HG6 := hid (show OwnE globE w.heap.size 50 w6 (.slice a j c) gs from hk.own HG0.out (by decide))
              have HN6 := hid (HKN.out.trans (hk.kn w.heap.size))
              obtain ⟨a9, c9, hb9, _, _, _⟩ := hrd
              have e0 := hb9.cell 0 _ rfl
              have ez := hb9.lt
              have x0 := hbx.cell 0 _ rfl
              have x1 := hbx.cell 1 _ rfl
              have x2 := hbx.cell 2 _ rfl
              have x3 := hbx.cell 3 _ rfl
              have xz := hbx.lt
              have f0 := hbx.frozen 0
              have f1 := hbx.frozen 1
              have f2 := hbx.frozen 2
              have f3 := hbx.frozen 3
              clear hs hk HRD HB HOW HL0 HG0 HKN HEQ6 hbx hb9
              by_cases hr6 : 0 < r6.length
              · have hr7 : (0 : Int) < r6.length := Int.ofNat_lt.2 hr6
                go_wp2_with fail
                refine ⟨rfl, .inr ⟨fun p e => ?_, rfl⟩, (HN6.out.trans (KN.store _ (Nat.le_of_lt HBW.out) (Nat.le_refl _) _ _)).kt⟩
                rw [HEQ7.out] at e
                have e2 := (Prod.mk.inj (Option.some.inj e)).2
                rw [e2] at hr6
                exact absurd hr6 (Nat.lt_irrefl 0)
              · have hr7 : ¬ (0 : Int) < r6.length := by omega
                go_wp2_with fail
                have hnil : r6 = [] := List.eq_nil_of_length_eq_zero (by omega)
                have one : ∀ (wa : World) (k : Nat) (u : Value) (vs : List Value), BoxAt wa w.heap.size 31 vs ∧ OwnFuns w.heap.size wa (.slice a5 v c5) fs cs ∧ OwnLays w.heap.size wa (.slice a2 q c2) ls ss ∧ OwnE globE w.heap.size 50 wa (.slice a j c) gs ∧ KN b w.heap.size [64] w wa →
                    (BoxAt (wa.setCell ⟨w.heap.size, k, none⟩ u) w.heap.size 31 (vs.set k u) ∧ OwnFuns w.heap.size (wa.setCell ⟨w.heap.size, k, none⟩ u) (.slice a5 v c5) fs cs ∧ OwnLays w.heap.size (wa.setCell ⟨w.heap.size, k, none⟩ u) (.slice a2 q c2) ls ss ∧ OwnE globE w.heap.size 50 (wa.setCell ⟨w.heap.size, k, none⟩ u) (.slice a j c) gs ∧ KN b w.heap.size [64] w (wa.setCell ⟨w.heap.size, k, none⟩ u)) := fun wa k u vs h =>
                  ⟨h.1.set k u, h.2.1.onlyBox (Only.store _ _ _ _) h.1 (by decide) (by decide), h.2.2.1.onlyBox (Only.store _ _ _ _) h.1 (by decide) (by decide), OwnE.storeBox _ h.2.2.2.1 h.1 (by decide), h.2.2.2.2.trans (KN.store _ (Nat.le_of_lt HBW.out) (Nat.le_refl _) _ _)⟩
                obtain ⟨z1, z2, z3, z4, z5⟩ := one _ 3 (.int .i64 m) _ (one _ 2 (.slice a2 q c2) _ (one _ 1 (.slice a j c) _ (one _ 0 (.slice a5 v c5) _ (one _ 3 (.int .i64 m) _ ⟨HB6.out, HF6.out, HL6.out, HG6.out, HN6.out⟩))))
                refine bodyPost_ret (v := .agg #[.slice a5 v c5, .slice a j c, .slice a2 q c2, .int .i64 m]) ?_ rfl ⟨.inl ⟨⟨fs, gs, ls, m⟩, _, _, _, by rw [HEQ7.out, hnil], rfl, ⟨⟨cs, z2⟩, z4, ⟨ss, z3⟩⟩⟩, z5.kt⟩
                exact results_cell_row (P := Try.prog) rfl _ _ w.heap.size 31 #[.slice a5 v c5, .slice a j c, .slice a2 q c2, .int .i64 m] (0, 0) _ rfl z1 Try.underlying31 rfl rfl

end Go.Proofs.Ytkfpacklpelefaa
