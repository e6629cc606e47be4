/-
  Package prune's Prune, walked.
-/
import Derived.Deep.LoopGhost
import Derived.WalkMore
import Derived.Test.YteiohnfmlabelaaGreatZCValid2
import Derived.Test.YteiohnfmlabelaaGreatZCopy
import Derived.Test.YteiohnfmlabelaaGreatZPrRound
namespace Go.Proofs.YteiohnfmlabelaaGreat
set_option linter.unusedVariables false
set_option linter.unusedSimpArgs false
open Go.RowKit

theorem valid_sizes {p : Prg} (h : validB p = true) : p.globals.length ≤ 64 ∧ p.layouts.length ≤ 32 ∧ ∀ r ∈ p.layouts, r.length ≤ 64 := by
  simp only [validB, topB, laysB, Bool.and_eq_true, decide_eq_true_eq, List.all_eq_true] at h
  refine ⟨h.1.2.1, h.1.2.2.1.2, fun r hr => ?_⟩
  have := h.1.2.2.1.1 r hr
  simp only [rowB, Bool.and_eq_true, decide_eq_true_eq] at this
  exact this.2
theorem OwnE.farRow {α β : Type} {E : Enc α} {E' : Enc β} {base base' g n cap b : Nat} {e e' t : TypeId} {w : World} {v : Value} {l : List α} {l' : List β} {vs : List Value} (h : OwnE E base e w v l) (h' : OwnE E' base' e' w (.slice (some ⟨g, 0, none⟩) n cap) l') (hne : e ≠ e') (hb : BoxAt w b t vs) (hnt : e ≠ t) : FarV (fun k => k = g ∨ k = b) v := by
  intro a n' c hv he
  rcases he with he | he
  · exact h.neRow h' hne a.block (by rw [hv]; rfl) (by rw [he]; rfl)
  · exact h.neBox hb hnt a.block (by rw [hv]; rfl) (by rw [he])

namespace Plan
set_option linter.unusedVariables false
set_option linter.unusedSimpArgs false
variable {R : Plan} {P : Program} {Q : Exit → Act → World → Prop} {B : Nat} {w0 : World} {fs : List (Nat × FactT)} {i : Nat} {o : Oper} {l : List Oper} {a : Act} {vals : Nat → Value}
/-- A call whose result is a row of its own. -/
theorem runs_call_own {α : Type} (E : Enc α) (base : Nat) (e : TypeId) (L : List α) (n : Nat) (f : FuncId) (args : Array Value) (hk : R.kinds i = .new) (hw : Region.wanted o (yielded R.ops a.tmps) = true) (d : Tmp) (hd1 : o.dst = some d) (hd2 : Nat.ble (d + 1) a.tmps.size = true)
    (hrun : ∀ F w, Below B w0 w → R.FactsF fs i vals F w → (execOp a.eval o).run P w = .ok (.enter f args) w)
    (hi : phi fs i = ownF E base e L) (hn : L.length = n) (hbw : base ≤ w0.heap.size)
    (hcall : ∀ F w, Below B w0 w → R.FactsF fs i vals F w → Calls P f args w fun x w' => ∃ v, x = .returned v ∧ OwnE E w.heap.size e w' v L ∧ Below w.heap.size w w')
    (h : ∀ b c, R.RunsF P Q B w0 fs (i + 1) l (a.put o.dst (.slice b n c)) (put vals i (.slice b n c))) : R.RunsF P Q B w0 fs i (o :: l) a vals := by
  subst hn
  refine runs_new hk hw d hd1 hd2 (fun F w h1 h2 K hK => ?_) (fun v hv => ?_)
  · unfold Oper.wp
    rw [hrun F w h1 h2]
    refine Calls.mono (hcall F w h1 h2) ?_
    rintro x w' ⟨v, rfl, hD, hb⟩
    refine hK v w' (fun k => v.ownBlock = some k) (by rw [hi]; exact anySlice_of hD) hb ?_ (fun k hk => .inr (hD.lt k hk))
    rw [hi]
    exact ⟨hD.mono (Nat.le_trans hbw h1.size), fun k => Iff.rfl⟩
  · rw [hi] at hv
    obtain ⟨b, c, rfl⟩ := hv
    exact h b c
end Plan

/-- One layout has been cloned. -/
theorem lay_clone {B b3 : Nat} {wo w1 w3 : World} {va v3 : Value} {l : List (List Int)} {rs : List Slc} {r : List Int} {s : Slc} {vs : List Value} {o : Obj} (u : Value) (hB : B ≤ wo.heap.size) (hb3 : b3 < B)
    (hol : OwnLays B wo va l rs) (hx : BoxAt wo b3 26 vs) (h1 : Below wo.heap.size wo w1) (hr : OwnE intE wo.heap.size 3 w1 s.val r)
    (hg : (w1.alloc o).grownBy w3 va.ownBlock) (ho : OwnE rowE B 36 w3 v3 (rs ++ [s])) :
    OwnLays B (w3.setCell ⟨b3, 2, none⟩ u) v3 (l ++ [r]) (rs ++ [s]) ∧ BoxAt (w3.setCell ⟨b3, 2, none⟩ u) b3 26 (vs.set 2 u) ∧ OnlyLow B b3 wo (w3.setCell ⟨b3, 2, none⟩ u) ∧ (∀ c, c ≤ b3 → Below c wo (w3.setCell ⟨b3, 2, none⟩ u)) := by
  have hz1 := h1.size
  have ha : OwnE rowE B 36 (w1.alloc o) va rs := (OwnE.fresh hol.row (Only.below h1 _)).alloc o
  have hO : Only va.ownBlock (w1.alloc o) w3 := Only.grown hg
  have hS : Only (some b3) w3 (w3.setCell ⟨b3, 2, none⟩ u) := Only.store w3 b3 2 u
  have hb : Below B wo w3 := Below.grownE ((h1.mono hB).alloc (by omega) _) ha hg (by simp; omega) (Nat.le_refl _)
  have hx3 : BoxAt w3 b3 26 vs := hx.ofBlock (hb.block b3 hb3)
  have move : ∀ {E : Enc Int} {b : Nat} {v : Value} {l' : List Int}, OwnE E b 3 w1 v l' → OwnE E b 3 (w3.setCell ⟨b3, 2, none⟩ u) v l' := by
    intro E b v l' h
    have h5 := (h.alloc o).only hO ((h.alloc o).neRow ha (by decide))
    exact h5.only hS (h5.neBox hx3 (by decide))
  refine ⟨hol.snoc (ho.only hS (ho.neBox hx3 (by decide))) (fun i hi => move (OwnE.fresh (hol.each i hi) (Only.below h1 none))) ((move hr).mono hB), hx3.set 2 u, (OnlyLow.below hb).trans (OnlyLow.store _ _ _ _ _), fun c hc => (hb.mono (by omega)).setCell hc _⟩

/-- What is still to do. -/
noncomputable def msum (q : Prg) : Nat → Nat → Nat
  | _, 0 => 0
  | n, d + 1 => wgt (nth q.funcs n).code + 1 + msum q (n + 1) d
theorem msum_congr {q q' : Prg} : ∀ (d n : Nat), (∀ i, n ≤ i → nth q'.funcs i = nth q.funcs i) → msum q' n d = msum q n d
  | 0, _, _ => rfl
  | d + 1, n, h => by
    show wgt (nth q'.funcs n).code + 1 + msum q' (n + 1) d = wgt (nth q.funcs n).code + 1 + msum q (n + 1) d
    rw [h n (Nat.le_refl _), msum_congr d (n + 1) fun i hi => h i (by omega)]
theorem msum_round {q : Prg} (hv : validB q = true) (n d : Nat) (hn : n < q.funcs.length) (h : newC q n ≠ (nth q.funcs n).code) : msum (roundP q n) n (d + 1) < msum q n (d + 1) := by
  have h1 : msum (roundP q n) (n + 1) d = msum q (n + 1) d := msum_congr d (n + 1) fun i hi => put_ne q n i _ (by omega)
  have h2 : (nth (roundP q n).funcs n).code = newC q n := by unfold roundP; rw [put_at q n _ hn]
  have h3 := wgt_round hv n hn h
  show wgt (nth (roundP q n).funcs n).code + 1 + msum (roundP q n) (n + 1) d < wgt (nth q.funcs n).code + 1 + msum q (n + 1) d
  rw [h1, h2]
  omega

noncomputable def planPP3 : Plan := mkPlan (regionOf Tryz.f8 3) [(2, .new), (5, .new), (9, .new), (10, .fin)] []
noncomputable def planPP7 : Plan := mkPlan (regionOf Tryz.f8 7) [(3, .new), (4, .new), (5, .new), (7, .fin)] []

set_option maxRecDepth 100000 in
set_option maxHeartbeats 8000000 in
theorem prune_yes (lo : Nat) (vf vg vl : Value) (p : Prg) (w : World) (hp : ProgAt lo w vf vg vl p) (hv : validB p = true) :
    Calls Tryz.prog 8 #[.agg #[vf, vg, vl, .int .i64 p.main]] w fun e w' => ∃ g cap ug ul q ss rs, e = .returned (.agg #[.slice (some ⟨g, 0, none⟩) q.funcs.length cap, ug, ul, .int .i64 q.main]) ∧ Prn p 0 q ∧ OutP (fun k => k = g) w.heap.size g cap w' ug ul q ss rs ∧ Below w.heap.size w w' := by
  have HP := hid hp
  have HV := hid hv
  obtain ⟨zg, zl, zr⟩ := valid_sizes hv
  obtain ⟨zf0, zf⟩ := valid_pos hv
  obtain ⟨ss, hs1, hs2, hs3⟩ := hp.funcs
  have HSS := hid hs1
  have HSF := hid hs2
  have HSC := hid hs3
  have hzl : (p.funcs.zip ss).length = p.funcs.length := by simp [hs1]
  have HZL := hid hzl
  obtain ⟨fa, fc, _, _, _, rfl, -⟩ := hp.funcs.open
  obtain ⟨ga, gc, _, _, rfl, -⟩ := hp.globs.open
  obtain ⟨la, lc, b3', o3, T, rfl, p3, u0, ui, k3, m3, m3', n3⟩ := hp.lays.open
  have HL := hid (And.intro p3 (And.intro u0 (And.intro ui k3)))
  obtain ⟨base, hbase⟩ : ∃ base, w.heap.size = base := ⟨_, rfl⟩
  have HBS := hid hbase
  clear hp hv hs1 hs2 hs3 p3 u0 ui k3 hzl
  go_enter Tryz.func8, Tryz.ntmps8
  go_wp2_with fail
  generalize hW : World.alloc _ _ = W
  have hbW : Below base w W := by rw [← hW, ← hbase]; exact ((Below.refl _ _).alloc (Nat.le_refl _) _).alloc (by simp) _
  have R1 := hid (show BoxAt W base 26 [.slice fa p.funcs.length fc, .slice ga p.globals.length gc, .slice la p.layouts.length lc, .int .i64 p.main] by
    rw [← hW]
    exact (BoxAt.new w _ _ _ _ hbase.symm rfl).alloc _)
  have R2 := hid (show BoxAt W (base + 1) 26 [.slice none 0 0, .slice none 0 0, .slice none 0 0, .int .i64 0] by
    rw [← hW]
    exact BoxAt.new _ _ _ _ _ (by simp [hbase]) rfl)
  have HBW := hid hbW
  clear hW
  have c0 := R1.out.cell 0 _ rfl
  have c1 := R1.out.cell 1 _ rfl
  have c2 := R1.out.cell 2 _ rfl
  have c3 := R1.out.cell 3 _ rfl
  have s1 := R1.out.lt
  go_step3
  go_wp2_with fail
  clear c0 c1 c2 c3 s1
  refine (cvalid_calls lo _ _ _ p W (HP.out.below (by rw [hbase]; exact hbW))).mono ?_
  rw [HV.out]
  rintro e W1 ⟨rfl, hb1⟩
  have HB1 := hid hb1
  have HR1 := hid (R1.out.below hb1)
  have HR2 := hid (R2.out.below hb1)
  have c0 := HR1.out.cell 0 _ rfl
  have c1 := HR1.out.cell 1 _ rfl
  have c2 := HR1.out.cell 2 _ rfl
  have c3 := HR1.out.cell 3 _ rfl
  have s1 := HR1.out.lt
  have hbW1 := hid (hbW.trans (hb1.mono (by have := hbW.size; rw [HBS.out] at this; exact this)))
  have HLE := hid (show base ≤ W1.heap.size by have := hbW1.out.size; rw [HBS.out] at this; exact this)
  clear hb1 hbW
  go_wp2_with fail
  refine Plan.wp_facts (B := W1.heap.size) planPP3 [(2, ownF funE W1.heap.size 33 (p.funcs.zip ss)), (5, ownF globE W1.heap.size 43 p.globals), (9, boxF W1.heap.size 26 [.slice none 0 0, .slice none 0 0, .slice none 0 0, .int .i64 0])] (by kernel_rfl) rfl (by kernel_rfl) (by kernel_rfl) (Nat.le_refl _) ?_
  repeat (first | (apply Plan.runs_skip rfl rfl; simp only [Act.put, List.setIfInBounds_toArray, List.set_cons_zero, List.set_cons_succ]) | (apply Plan.runs_det rfl rfl; (· intro F w' hb hf; obtain ⟨hcl, hfz⟩ := bcell hb; go_simp; rfl); simp only [Act.put, List.setIfInBounds_toArray, List.set_cons_zero, List.set_cons_succ]))
  refine Plan.runs_call_own funE W1.heap.size 33 (p.funcs.zip ss) p.funcs.length 20 #[.slice fa p.funcs.length fc] rfl rfl _ rfl rfl (fun F w' hb hf => by go_simp) rfl HZL.out (Nat.le_refl _) (fun F w' hb hf => clnFun_calls lo _ _ w' (HSF.out.below (by have h := hbW1.out.trans (hb.mono HLE.out); rw [← HBS.out] at h; exact h)) (by rw [HZL.out]; omega)) (fun xa xc => ?_)
  simp only [Act.put, List.setIfInBounds_toArray, List.set_cons_zero, List.set_cons_succ]
  repeat (first | (apply Plan.runs_skip rfl rfl; simp only [Act.put, List.setIfInBounds_toArray, List.set_cons_zero, List.set_cons_succ]) | (apply Plan.runs_det rfl rfl; (· intro F w' hb hf; obtain ⟨hcl, hfz⟩ := bcell hb; go_simp; rfl); simp only [Act.put, List.setIfInBounds_toArray, List.set_cons_zero, List.set_cons_succ]))
  refine Plan.runs_call_own globE W1.heap.size 43 p.globals p.globals.length 21 #[.slice ga p.globals.length gc] rfl rfl _ rfl rfl (fun F w' hb hf => by go_simp) rfl rfl (Nat.le_refl _) (fun F w' hb hf => clnGlob_calls lo _ _ w' (SlE.below HP.out.globs (by have h := hbW1.out.trans (hb.mono HLE.out); rw [← HBS.out] at h; exact h)) (by omega)) (fun ya yc => ?_)
  simp only [Act.put, List.setIfInBounds_toArray, List.set_cons_zero, List.set_cons_succ]
  repeat (first | (apply Plan.runs_skip rfl rfl; simp only [Act.put, List.setIfInBounds_toArray, List.set_cons_zero, List.set_cons_succ]) | (apply Plan.runs_det rfl rfl; (· intro F w' hb hf; obtain ⟨hcl, hfz⟩ := bcell hb; go_simp; rfl); simp only [Act.put, List.setIfInBounds_toArray, List.set_cons_zero, List.set_cons_succ]))
  refine Plan.runs_box 26 _ _ rfl rfl _ rfl rfl (fun w' => by go_simp) rfl rfl (Nat.le_refl _) (fun b3 => ?_)
  simp only [Act.put, List.setIfInBounds_toArray, List.set_cons_zero, List.set_cons_succ]
  refine Plan.runs_fin rfl rfl (fun F w9 hb hf => ?_)
  have hof := Plan.rest_own hf 2 rfl (by decide) rfl rfl
  have hog := Plan.rest_own hf 5 rfl (by decide) rfl rfl
  obtain ⟨hob, hb3⟩ := Plan.rest_box hf 9 rfl rfl (by decide) rfl rfl
  have HOF := hid hof
  have HOG := hid hog
  have HOB := hid hob
  have e0 := hob.cell 0 _ rfl
  have e1 := hob.cell 1 _ rfl
  have e2 := hob.cell 2 _ rfl
  have e3 := hob.cell 3 _ rfl
  have z0 := hob.frozen 0
  have z1 := hob.frozen 1
  have z2 := hob.frozen 2
  have z3 := hob.frozen 3
  have t0 := hob.lt
  have HB9 := hid hb
  clear hof hog hob hf hb c0 c1 c2 c3 s1
  unfold Oper.wp
  go_simp
  have hsz : base + 2 ≤ W1.heap.size := HR2.out.lt
  have hX1 : BoxAt ((((w9.setCell ⟨b3, 0, none⟩ (.slice xa p.funcs.length xc)).setCell ⟨b3, 1, none⟩ (.slice ya p.globals.length yc)).setCell ⟨b3, 2, none⟩ (.slice none 0 0)).setCell ⟨b3, 3, none⟩ (.int .i64 p.main)) b3 26 [.slice xa p.funcs.length xc, .slice ya p.globals.length yc, .slice none 0 0, .int .i64 p.main] := (((HOB.out.set 0 _).set 1 _).set 2 _).set 3 _
  have hX2 : Only (some b3) w9 ((((w9.setCell ⟨b3, 0, none⟩ (.slice xa p.funcs.length xc)).setCell ⟨b3, 1, none⟩ (.slice ya p.globals.length yc)).setCell ⟨b3, 2, none⟩ (.slice none 0 0)).setCell ⟨b3, 3, none⟩ (.int .i64 p.main)) := (((Only.store _ _ _ _).trans (Only.store _ _ _ _)).trans (Only.store _ _ _ _)).trans (Only.store _ _ _ _)
  have hX3 : Below W1.heap.size w9 ((((w9.setCell ⟨b3, 0, none⟩ (.slice xa p.funcs.length xc)).setCell ⟨b3, 1, none⟩ (.slice ya p.globals.length yc)).setCell ⟨b3, 2, none⟩ (.slice none 0 0)).setCell ⟨b3, 3, none⟩ (.int .i64 p.main)) := ((((Below.refl _ _).setCell (by show _ ≤ b3; omega) _).setCell (by show _ ≤ b3; omega) _).setCell (by show _ ≤ b3; omega) _).setCell (by show _ ≤ b3; omega) _
  generalize (((w9.setCell ⟨b3, 0, none⟩ (.slice xa p.funcs.length xc)).setCell ⟨b3, 1, none⟩ (.slice ya p.globals.length yc)).setCell ⟨b3, 2, none⟩ (.slice none 0 0)).setCell ⟨b3, 3, none⟩ (.int .i64 p.main) = X at *
  have HF0 := hid (HOF.out.only hX2 (HOF.out.neBox HOB.out (by decide)))
  have HG0 := hid (HOG.out.only hX2 (HOG.out.neBox HOB.out (by decide)))
  have HBX := hid (HB9.out.trans hX3)
  have HA0 := hid (HR1.out.ofBlock (HBX.out.block _ HR1.out.lt))
  have HR0 := hid (HR2.out.ofBlock (HBX.out.block _ HR2.out.lt))
  have HX0 := hid hX1
  clear hX1 hX2 hX3 e0 e1 e2 e3 z0 z1 z2 z3 t0 HOF HOG HOB HB9
  have c2 := HA0.out.cell 2 _ rfl
  have s1 := HA0.out.lt
  have hb3X : b3 < X.heap.size := HX0.out.lt
  obtain ⟨B, hBL⟩ : ∃ B, X.heap.size = B := ⟨_, rfl⟩
  have HBLq := hid hBL
  have hb3B : b3 < B := by omega
  clear hBL
  go_wp2_with fail
  go_loopw [23] (fun i wr => ∃ (k2 : Nat) (rs : List Slc) (ua : Option Addr) (uc : Nat), k2 ≤ p.layouts.length ∧ i = .int .i64 k2 ∧ OwnLays B wr (.slice ua k2 uc) (p.layouts.take k2) rs ∧ BoxAt wr b3 26 [.slice xa p.funcs.length xc, .slice ya p.globals.length yc, .slice ua k2 uc, .int .i64 p.main] ∧ OnlyLow B b3 X wr ∧ Below W1.heap.size W1 wr) (fun i _ => p.layouts.length - (intOf i).toNat)
  case atStart => exact ⟨0, [], none, 0, Nat.zero_le _, rfl, OwnLays.nil _ _, HX0.out, OnlyLow.refl _ _ _, HBX.out⟩
  case round =>
  obtain ⟨k2, rs, ua, uc, hk2, rfl, hol, hbx2, hlow, hbl2⟩ := hrel
  obtain ⟨wo, hwo⟩ : ∃ wo, wo = wr := ⟨_, rfl⟩
  subst hwo
  have HOL := hid hol
  have HBX2 := hid hbx2
  have HLOW := hid hlow
  have HBL2 := hid hbl2
  have hBwo : B ≤ wo.heap.size := by have := hlow.1; have := HBLq.out; omega
  clear hol hbx2 hlow hbl2
  by_cases hlt2 : k2 < p.layouts.length
  · have hlt3 : (k2 : Int) < p.layouts.length := by omega
    have hk0 : ¬ ((k2 : Int) < 0) := by omega
    obtain ⟨p3, u0, ui, k3⟩ := HL.out
    have e1 := p3 (by omega)
    subst e1
    have s1 := k3 (by omega)
    have hbw : Below w.heap.size w wo := by rw [HBS.out]; exact hbW1.out.trans (HBL2.out.mono HLE.out)
    have d0 := (hbw.cell (p := ⟨b3', _, none⟩) s1).trans (u0 k2 hlt2)
    have HI := hid ((ui k2 hlt2).below hbw)
    have s2 : b3' < wo.heap.size := Nat.lt_of_lt_of_le s1 hbw.size
    have HTK := hid (take_snoc p.layouts k2 hlt2)
    have hlr := zr _ (nth_mem _ _ hlt2)
    obtain ⟨row, hrow⟩ : ∃ row, nth p.layouts k2 = row := ⟨_, rfl⟩
    rw [hrow] at d0 HI HTK hlr
    have f2 := HBX2.out.cell 2 _ rfl
    have s9 := HBX2.out.lt
    have hrs := HOL.out.len
    have hrsl : rs.length = k2 := by rw [hrs, List.length_take]; omega
    clear p3 u0 ui k3 hrow hrs hbw
    go_wp2_with fail
    refine Plan.wp_chain planPP7 B (by kernel_rfl) rfl (by kernel_rfl) (by kernel_rfl) ?_
    repeat (first | (apply Plan.chain_skip rfl rfl; simp only [Act.put, List.setIfInBounds_toArray, List.set_cons_zero, List.set_cons_succ]) | (apply Plan.chain_det rfl rfl; (· intro w' hb; obtain ⟨hcl, hfz⟩ := bcellB hb; go_simp; rfl); simp only [Act.put, List.setIfInBounds_toArray, List.set_cons_zero, List.set_cons_succ]))
    refine Plan.chain_call 22 #[.slice (T k2).a row.length (T k2).c] (fun v w' => OwnE intE wo.heap.size 3 w' v row ∧ Below wo.heap.size wo w') rfl rfl rfl (by go_simp) ?_ (fun v w' h => h.2.mono hBwo) (fun v30 w1 h => ?_)
    · refine (clnInt_calls lo _ row wo.drew (SlE.below HI.out (Below.refl _ _).drew) (by omega)).mono ?_
      rintro e w' ⟨v', rfl, ho, hb⟩
      exact ⟨_, rfl, ho, (Below.refl _ _).drew.trans hb⟩
    obtain ⟨ho30, hb30⟩ := h
    obtain ⟨x30, m30, rfl⟩ := ho30.anySlice
    simp only [Act.put, List.setIfInBounds_toArray, List.set_cons_zero, List.set_cons_succ]
    have HO30 := hid ho30
    have HB30 := hid hb30
    have hz30 : B ≤ w1.heap.size := Nat.le_trans hBwo hb30.size
    clear ho30 hb30
    repeat (first | (apply Plan.chain_skip rfl rfl; simp only [Act.put, List.setIfInBounds_toArray, List.set_cons_zero, List.set_cons_succ]) | (apply Plan.chain_det rfl rfl; (· intro w' hb; obtain ⟨hcl, hfz⟩ := bcellB hb; go_simp; rfl); simp only [Act.put, List.setIfInBounds_toArray, List.set_cons_zero, List.set_cons_succ]))
    refine Plan.chain_lit rowE B 36 [⟨x30, row.length, m30⟩] #[.slice x30 row.length m30] 1 rfl rfl rfl (by go_simp) rfl rfl (by simp) hz30 hz30 (HB30.out.mono hBwo) (fun ho6 hb6 => ?_)
    simp only [Act.put, List.setIfInBounds_toArray, List.set_cons_zero, List.set_cons_succ]
    have HO6 := hid ho6
    have HB6 := hid hb6
    clear ho6 hb6
    repeat (first | (apply Plan.chain_skip rfl rfl; simp only [Act.put, List.setIfInBounds_toArray, List.set_cons_zero, List.set_cons_succ]) | (apply Plan.chain_det rfl rfl; (· intro w' hb; obtain ⟨hcl, hfz⟩ := bcellB hb; go_simp; rfl); simp only [Act.put, List.setIfInBounds_toArray, List.set_cons_zero, List.set_cons_succ]))
    refine Plan.chain_append rowE (.tmp 28) (.tmp 31) 24 B B 36 _ 24 rs [⟨x30, row.length, m30⟩] rfl rfl rfl rfl Tryz.underlying24 infoRow rfl ((OwnE.fresh HOL.out.row (Only.below HB30.out none)).alloc _) (HO6.out.sl (Nat.le_refl _) (by simp)) (by simp; omega) (by simp only [maxLen]; simp; omega) (by simp; omega) (Nat.le_refl _) HB6.out (fun x7 m7 w7 ho7 hg7 hb7 => ?_)
    simp only [Act.put, List.setIfInBounds_toArray, List.set_cons_zero, List.set_cons_succ]
    have hz7 : (rs ++ [(⟨x30, row.length, m30⟩ : Slc)]).length = k2 + 1 := by simp; omega
    rw [hz7] at ho7 ⊢
    have HSTEP := hid (lay_clone (s := ⟨x30, row.length, m30⟩) (.slice x7 (k2 + 1) m7) hBwo hb3B HOL.out HBX2.out HB30.out HO30.out hg7 ho7)
    have hbx7 := HBX2.out.ofBlock (hb7.block b3 hb3B)
    have e3 := hbx7.cell 2 _ rfl
    have z3 := hbx7.frozen 2
    have t3 := hbx7.lt
    clear ho7 hg7 hb7 hz7 hbx7
    repeat (first | (apply Plan.chain_skip rfl rfl; simp only [Act.put, List.setIfInBounds_toArray, List.set_cons_zero, List.set_cons_succ]) | (apply Plan.chain_det rfl rfl; (· intro w' hb; obtain ⟨hcl, hfz⟩ := bcellB hb; go_simp; rfl); simp only [Act.put, List.setIfInBounds_toArray, List.set_cons_zero, List.set_cons_succ]))
    refine Plan.chain_fin rfl rfl ?_
    unfold Oper.wp
    go_simp
    go_wp2_with fail
    obtain ⟨hs1, hs2, hs3, hs4⟩ := HSTEP.out
    go_roundw
    case rel => exact ⟨k2 + 1, rs ++ [⟨x30, row.length, m30⟩], x7, m7, by omega, by go_num, by rw [HTK.out]; exact hs1, hs2, HLOW.out.trans hs3, HBL2.out.trans (hs4 W1.heap.size (by omega))⟩
    case measure => simp [intOf] <;> omega
  · have hke : k2 = p.layouts.length := by omega
    have HTT := hid (show p.layouts.take k2 = p.layouts by rw [hke]; exact List.take_length)
    have HKE := hid hke
    clear hke
    have hOnly : Only (some b3) X wo := by have := HLOW.out; rw [← HBLq.out] at this; exact this.only
    have HFZ := hid (HF0.out.only hOnly (HF0.out.neBox HX0.out (by decide)))
    have HGZ := hid (HG0.out.only hOnly (HG0.out.neBox HX0.out (by decide)))
    have HR3 := hid (HR0.out.ofBlock (HLOW.out.2 _ (by have := HR2.out.lt; omega) (by omega)))
    have HLZ := hid HOL.out
    have HOL3 := hid HBX2.out
    rw [HTT.out] at HLZ
    clear hOnly
    obtain ⟨g, cap, hxa, hg1, hg2⟩ := HFZ.out.open (by rw [HZL.out]; exact zf0)
    obtain ⟨rfl, hl, rfl⟩ := Value.slice.inj hxa
    clear hl hxa
    have HO0 := hid (show OutP (fun k => k = g ∨ k = base + 1) w.heap.size g xc wo (.slice ya p.globals.length yc) (.slice ua k2 uc) p ss rs from
      { xg := .inl rfl
        xlt := fun k hk => by rcases hk with rfl | rfl; exact hg2; exact HR3.out.lt
        len := HSS.out
        row := HFZ.out.mono (by rw [HBS.out]; exact HLE.out)
        code := fun i hi => by
          have h1 := HSC.out i hi
          have h2 : CodeAt 0 wo (nth ss i).val (nth p.funcs i).code := SlE.mono (SlE.below h1 (by rw [HBS.out]; exact hbW1.out.trans (HBL2.out.mono HLE.out))) (Nat.zero_le _)
          refine ⟨h2, fun a n c hv he => ?_⟩
          obtain ⟨a', c', b', o', hv', _, hq, hcell, _⟩ := h1
          obtain ⟨ha, _⟩ := hq (fok_of_funcB (valid_func HV.out i hi)).pos
          have hlt := World.block_lt_of_cell? _ _ (hcell 0 0 (fok_of_funcB (valid_func HV.out i hi)).pos (by decide))
          rw [hv] at hv'
          obtain ⟨e1, _, _⟩ := Value.slice.inj hv'
          rw [ha] at e1
          obtain rfl := Option.some.inj e1
          have h4 := HBS.out
          have h5 := HLE.out
          have h6 : b' < w.heap.size := hlt
          rcases he with he | he
          · have h3 : b' = g := he
            omega
          · have h3 : b' = base + 1 := he
            omega
        globs := ⟨HGZ.out.sl (Nat.zero_le _) (by omega), HGZ.out.farRow HFZ.out (by decide) HR3.out (by decide)⟩
        rlen := HLZ.out.len
        lays := ⟨HLZ.out.row.sl (Nat.zero_le _) (by have := HLZ.out.len; omega), HLZ.out.row.farRow HFZ.out (by decide) HR3.out (by decide)⟩
        each := fun i hi => ⟨(HLZ.out.each i hi).sl (Nat.zero_le _) (by have := zr _ (nth_mem _ _ hi); omega), (HLZ.out.each i hi).farRow HFZ.out (by decide) HR3.out (by decide)⟩ })
    have HBwo := hid (show Below w.heap.size w wo by rw [HBS.out]; exact hbW1.out.trans (HBL2.out.mono HLE.out))
    clear zg zl zr c2 s1
    go_wp2_with fail
    go_step3
    go_wp2_with fail
    have HNB := hid (HFZ.out.neBox HOL3.out (by decide) g rfl)
    go_loopg [6] (msum p 0 p.funcs.length + 1) (fun gk fv wr => ∃ (n : Nat) (q : Prg) (ss' : List Slc), n ≤ p.funcs.length ∧ fv = .int .i64 n ∧ OutP (fun k => k = g ∨ k = base + 1) w.heap.size g xc wr (.slice ya p.globals.length yc) (.slice ua k2 uc) q ss' rs ∧ validB q = true ∧ Sam p q ∧ (∀ r, Prn q n r → Prn p 0 r) ∧ BoxAt wr b3 26 [.slice (some ⟨g, 0, none⟩) p.funcs.length xc, .slice ya p.globals.length yc, .slice ua k2 uc, .int .i64 p.main] ∧ BoxAt wr (base + 1) 26 [.slice none 0 0, .slice none 0 0, .slice none 0 0, .int .i64 0] ∧ Below w.heap.size w wr ∧ msum q n (p.funcs.length - n) < gk)
    case atStart => exact ⟨0, p, ss, Nat.zero_le _, rfl, HO0.out, HV.out, Sam.refl p, fun r h => h, HOL3.out, HR3.out, HBwo.out, by simp⟩
    case round =>
    obtain ⟨n, q, ss', hn, rfl, hoq, hvq, hsq, hpq, hbx3, hbx4, hbw3, hms⟩ := hrel
    obtain ⟨wk, hwk⟩ : ∃ wk, wk = wr := ⟨_, rfl⟩
    subst hwk
    have HOQ := hid hoq
    have HVQ := hid hvq
    have HSQ := hid hsq
    have HPQ := hid hpq
    have HX3 := hid hbx3
    have HX4 := hid hbx4
    have HW3 := hid hbw3
    have HMS := hid hms
    have f0 := hbx3.cell 0 _ rfl
    have f1 := hbx3.cell 1 _ rfl
    have f2 := hbx3.cell 2 _ rfl
    have f3 := hbx3.cell 3 _ rfl
    have fz := hbx3.lt
    clear hoq hvq hsq hpq hbx3 hbx4 hbw3 hms
    by_cases hlt : n < p.funcs.length
    · have hlt2 : (n : Int) < p.funcs.length := Int.ofNat_lt.2 hlt
      go_wp2_with fail
      go_loopg [] 1 (fun gi wi => wi = wk)
      case atStart => rfl
      case round =>
      obtain rfl := hrel
      have HLQ := hid (show n < q.funcs.length by rw [HSQ.out.len]; exact hlt)
      have hcall := round_calls _ w.heap.size g xc (.slice ya p.globals.length yc) (.slice ua k2 uc) q ss' rs n wr HVQ.out HLQ.out HOQ.out
      rw [HSQ.out.len, HSQ.out.main] at hcall
      have HCALL := hid hcall
      clear hcall
      obtain ⟨d, hd⟩ : ∃ d, p.funcs.length - n = d + 1 := ⟨p.funcs.length - n - 1, by omega⟩
      have hd2 : p.funcs.length - (n + 1) = d := by omega
      have HD := hid (And.intro hd hd2)
      clear hd hd2
      go_wp2_with fail
      by_cases heq : newC q n = (nth q.funcs n).code
      · have HEQ := hid heq
        have H := HCALL.out
        rw [show (!eqC (nth q.funcs n).code (newC q n)) = false by rw [eqC_true heq.symm]; rfl, show put q n (newC q n) = q by rw [heq, put_self q n HLQ.out]] at H
        refine H.mono ?_
        rintro e w5 ⟨s, rfl, ho5, hon5, hb5⟩
        have HO5 := hid ho5
        have HON5 := hid hon5
        have HB5 := hid hb5
        clear ho5 hon5 hb5 heq H
        go_wp2_with fail
        go_roundg (msum q (n + 1) d + 1)
        case measure =>
          have h1 := HMS.out
          rw [HD.out.1] at h1
          have h2 : msum q n (d + 1) = wgt (nth q.funcs n).code + 1 + msum q (n + 1) d := rfl
          omega
        case rel => exact ⟨n + 1, q, ss'.set n s, by omega, by go_num, HO5.out, HVQ.out, HSQ.out, fun r hr => HPQ.out r (.next q n r HLQ.out HEQ.out hr), HX3.out.only HON5.out (fun e => HNB.out e.symm), HX4.out.only HON5.out (by have h1 := HOQ.out.back.1; have h2 := HR2.out.lt; have h3 := HFZ.out.lt g rfl; simp; omega), HW3.out.trans (HB5.out.mono (by have := HOQ.out.back.1; omega)), by rw [HD.out.2]; exact Nat.lt_succ_self _⟩
      · have HEQ := hid heq
        have H := HCALL.out
        rw [show (!eqC (nth q.funcs n).code (newC q n)) = true by rw [eqC_false (fun h => heq h.symm)]; rfl] at H
        refine H.mono ?_
        rintro e w5 ⟨s, rfl, ho5, hon5, hb5⟩
        have HO5 := hid ho5
        have HON5 := hid hon5
        have HB5 := hid hb5
        clear ho5 hon5 hb5 heq H
        go_wp2_with fail
        go_roundg (msum (roundP q n) n (d + 1) + 1)
        case measure =>
          have h1 := HMS.out
          rw [HD.out.1] at h1
          have h2 := msum_round HVQ.out n d HLQ.out HEQ.out
          omega
        case rel => exact ⟨n, roundP q n, ss'.set n s, hn, rfl, HO5.out, round_valid HVQ.out n HLQ.out, HSQ.out.trans (round_sam q n), fun r hr => HPQ.out r (.go q n r HLQ.out HEQ.out hr), HX3.out.only HON5.out (fun e => HNB.out e.symm), HX4.out.only HON5.out (by have h1 := HOQ.out.back.1; have h2 := HR2.out.lt; have h3 := HFZ.out.lt g rfl; simp; omega), HW3.out.trans (HB5.out.mono (by have := HOQ.out.back.1; omega)), by rw [HD.out.1]; exact Nat.lt_succ_self _⟩
    · have hke : n = p.funcs.length := by omega
      have HKE2 := hid hke
      have y0 := HX4.out.cell 0 _ rfl
      have y1 := HX4.out.cell 1 _ rfl
      have y2 := HX4.out.cell 2 _ rfl
      have y3 := HX4.out.cell 3 _ rfl
      have v0 := HX4.out.frozen 0
      have v1 := HX4.out.frozen 1
      have v2 := HX4.out.frozen 2
      have v3 := HX4.out.frozen 3
      have y7 := HX4.out.lt
      have hE := ((((HX4.out.set 0 (.slice (some ⟨g, 0, none⟩) p.funcs.length xc)).set 1 (.slice ya p.globals.length yc)).set 2 (.slice ua k2 uc)).set 3 (.int .i64 p.main))
      have g0 := hE.cell 0 _ rfl
      have g1 := hE.cell 1 _ rfl
      have g2 := hE.cell 2 _ rfl
      have g3 := hE.cell 3 _ rfl
      have HGG := hid (And.intro g0 (And.intro g1 (And.intro g2 g3)))
      have hne : base + 1 ≠ g := by have h1 := HOQ.out.back.1; have h2 := HR2.out.lt; have h3 := HFZ.out.lt g rfl; omega
      have HBE := hid (((((HW3.out.setCell (p := ⟨base + 1, 0, none⟩) (by show _ ≤ base + 1; have := HBS.out; omega) (.slice (some ⟨g, 0, none⟩) p.funcs.length xc)).setCell (p := ⟨base + 1, 1, none⟩) (by show _ ≤ base + 1; have := HBS.out; omega) (.slice ya p.globals.length yc)).setCell (p := ⟨base + 1, 2, none⟩) (by show _ ≤ base + 1; have := HBS.out; omega) (.slice ua k2 uc)).setCell (p := ⟨base + 1, 3, none⟩) (by show _ ≤ base + 1; have := HBS.out; omega) (.int .i64 p.main)))
      clear hE g0 g1 g2 g3 hke
      go_wp2_with fail
      rw [Exit.noGoto_ret]
      obtain ⟨g0, g1, g2, g3⟩ := HGG.out
      have HOE := hid (((((HOQ.out.aside (Only.store wk (base + 1) 0 (.slice (some ⟨g, 0, none⟩) p.funcs.length xc)) (.inr rfl) hne.symm).aside (Only.store _ (base + 1) 1 (.slice ya p.globals.length yc)) (.inr rfl) hne.symm).aside (Only.store _ (base + 1) 2 (.slice ua k2 uc)) (.inr rfl) hne.symm).aside (Only.store _ (base + 1) 3 (.int .i64 p.main)) (.inr rfl) hne.symm).weak (X' := fun k => k = g) (fun k hk => .inl hk) rfl)
      exact bodyPost_ret (v := .agg #[.slice (some ⟨g, 0, none⟩) p.funcs.length xc, .slice ya p.globals.length yc, .slice ua k2 uc, .int .i64 p.main]) (by simp [results, Tryz.results8, go_sem, g0, g1, g2, g3]) rfl ⟨g, xc, _, _, q, ss', rs, by rw [HSQ.out.len, HSQ.out.main], HPQ.out q (.done q n (by rw [HSQ.out.len, HKE2.out]; exact Nat.le_refl _)), HOE.out, HBE.out⟩

end Go.Proofs.YteiohnfmlabelaaGreat
