/-
  The document's answer copies a program into rows of its own.
-/
import Derived.Test.YtealeofgfgbheaaProg
import Derived.Deep.QuietTactic
import Derived.BigQuiet
import Derived.Test.YtealeofgfgbheaaZRegion
import Derived.Test.YtealeofgfgbheaaZChain
import Derived.Test.YtealeofgfgbheaaZPrClone
import Derived.Test.YtealeofgfgbheaaZLkF
namespace Go.Proofs.Ytealeofgfgbheaa
set_option linter.unusedVariables false
set_option linter.unusedSimpArgs false
open Go.RowKit

/-- A new variable that holds the cells vs. -/
def boxF (B : Nat) (t : TypeId) (vs : List Value) : FactT where
  q v := ∃ b, v = .pointer (some ⟨b, 0, none⟩)
  p v F w := ∃ b, v = .pointer (some ⟨b, 0, none⟩) ∧ BoxAt w b t vs ∧ B ≤ b ∧ ∀ k, F k ↔ k = b
  ne := ⟨_, 0, rfl⟩
  st v F w w' h hk := by
    obtain ⟨b, h1, h2, h4, h3⟩ := h
    exact ⟨b, h1, h2.ofBlock (hk b ((h3 b).2 rfl)), h4, h3⟩

namespace Plan
set_option linter.unusedVariables false
set_option linter.unusedSimpArgs false
variable {R : Plan} {P : Program} {Q : Exit → Act → World → Prop} {B : Nat} {w0 : World} {fs : List (Nat × FactT)} {i : Nat} {o : Oper} {l : List Oper} {a : Act} {vals : Nat → Value}

theorem runs_box (t : TypeId) (cs : Array Value) (vs : List Value) (hk : R.kinds i = .new) (hw : Region.wanted o (yielded R.ops a.tmps) = true) (d : Tmp) (hd1 : o.dst = some d) (hd2 : Nat.ble (d + 1) a.tmps.size = true)
    (hrun : ∀ w, (execOp a.eval o).run P w = .ok (.value (.pointer (some ⟨w.heap.size, 0, none⟩))) (w.alloc (.cells cs t)))
    (hi : phi fs i = boxF B t vs) (hc : cs.toList = vs) (hB : B ≤ w0.heap.size)
    (h : ∀ b, R.RunsF P Q B w0 fs (i + 1) l (a.put o.dst (.pointer (some ⟨b, 0, none⟩))) (put vals i (.pointer (some ⟨b, 0, none⟩)))) : R.RunsF P Q B w0 fs i (o :: l) a vals := by
  refine runs_new hk hw d hd1 hd2 (fun F w h1 h2 K hK => ?_) (fun v hv => ?_)
  · unfold Oper.wp
    rw [hrun w]
    refine hK _ _ (fun k => k = w.heap.size) (by rw [hi]; exact ⟨_, rfl⟩) ((Below.refl _ _).alloc (Nat.le_refl _) _) ?_ (fun k hk => .inr (by subst hk; simp))
    rw [hi]
    exact ⟨_, rfl, BoxAt.new _ _ _ _ _ rfl hc, Nat.le_trans hB h1.size, fun k => Iff.rfl⟩
  · rw [hi] at hv
    obtain ⟨b, rfl⟩ := hv
    exact h b
theorem rest_box {t : TypeId} {vs : List Value} {b : Nat} {F : Nat → Nat → Prop} {w : World} (h : R.Rest B (fun j => (phi fs j).p) vals F w) (c : Nat) (hc : phi fs c = boxF B t vs) (hv : vals c = .pointer (some ⟨b, 0, none⟩)) (hcd : c < R.ops.size) (hcn : (R.kinds c).isNew = true) (hcc : R.cons c = none) : BoxAt w b t vs ∧ B ≤ b := by
  have hf := h.1 c hcd hcn hcc
  dsimp only at hf
  rw [hc, hv] at hf
  obtain ⟨b', h1, h2, h3, _⟩ := hf
  cases h1
  exact ⟨h2, h3⟩
end Plan

theorem infoGlob : (Try.prog.info? 60).map (fun i => (i.zero, i.size, i.bytes)) = some (some (.agg #[.string ⟨#[]⟩, .int .i64 0]), 2, 24) := by kernel_rfl
theorem infoIns : (Try.prog.info? 43).map (fun i => (i.zero, i.size, i.bytes)) = some (some (.agg #[.int .i64 0, .int .i64 0, .int .i64 0, .int .i64 0, .int .i64 0]), 5, 40) := by kernel_rfl
theorem infoFun : (Try.prog.info? 41).map (fun i => (i.zero, i.size, i.bytes)) = some (some (.agg #[.string ⟨#[]⟩, .int .i64 0, .int .i64 0, .slice none 0 0]), 4, 56) := by kernel_rfl
theorem infoRow : (Try.prog.info? 45).map (fun i => (i.zero, i.size, i.bytes)) = some (some (.slice none 0 0), 1, 24) := by kernel_rfl
theorem infoInt : (Try.prog.info? 3).map (fun i => (i.zero, i.size, i.bytes)) = some (some (.int .i64 0), 1, 8) := by kernel_rfl

theorem take_snoc {α : Type} [Inhabited α] (l : List α) (k : Nat) (h : k < l.length) : l.take (k + 1) = l.take k ++ [nth l k] := by
  rw [List.take_add_one, List.getElem?_eq_getElem h, nth_eq _ _ h]; rfl


/-- One function has been copied. -/
theorem copy_step {base b3 : Nat} {w wr wA w2 : World} {o : Obj} {va v2 : Value} {l : List Fun} {ss : List Slc} {f : Fun} {s : Slc} {vs : List Value} (u : Value) (hbw : Below base w wr) (hbr : base ≤ wr.heap.size) (hb3 : base ≤ b3)
    (hof : OwnFuns base wr va l ss) (hwA : Below wr.heap.size wr wA) (hc : OwnE insE (wr.heap.size + 1) 43 wA s.val f.code)
    (hg : (wA.alloc o).grownBy w2 va.ownBlock) (ho : OwnE funE base 41 w2 v2 (l.zip ss ++ [(f, s)])) (hx : BoxAt w2 b3 26 vs) :
    OwnFuns base (w2.setCell ⟨b3, 0, none⟩ u) v2 (l ++ [f]) (ss ++ [s]) ∧ BoxAt (w2.setCell ⟨b3, 0, none⟩ u) b3 26 (vs.set 0 u) ∧
    (∀ {α : Type} {E : Enc α} {b : Nat} {e : TypeId} {v : Value} {l' : List α}, e ≠ 41 → e ≠ 26 → OwnE E b e wr v l' → OwnE E b e (w2.setCell ⟨b3, 0, none⟩ u) v l') ∧
    (∀ b vs', b ≠ b3 → BoxAt wr b 26 vs' → BoxAt (w2.setCell ⟨b3, 0, none⟩ u) b 26 vs') ∧ Below base w (w2.setCell ⟨b3, 0, none⟩ u) := by
  have hA : OwnE funE base 41 (wA.alloc o) va (l.zip ss) := (OwnE.fresh hof.row (Only.below hwA _)).alloc o
  have hO2 : Only va.ownBlock (wA.alloc o) w2 := Only.grown hg
  have hS : Only (some b3) w2 (w2.setCell ⟨b3, 0, none⟩ u) := Only.store w2 b3 0 u
  have move : ∀ {α : Type} {E : Enc α} {b : Nat} {e : TypeId} {v : Value} {l' : List α}, e ≠ 41 → e ≠ 26 → OwnE E b e wA v l' → OwnE E b e (w2.setCell ⟨b3, 0, none⟩ u) v l' := by
    intro α E b e v l' h1 h2 h
    have h3 := (h.alloc o).only hO2 ((h.alloc o).neRow hA h1)
    exact h3.only hS (h3.neBox hx h2)
  have first : ∀ {α : Type} {E : Enc α} {b : Nat} {e : TypeId} {v : Value} {l' : List α}, OwnE E b e wr v l' → OwnE E b e wA v l' := fun h => OwnE.fresh h (Only.below hwA _)
  refine ⟨OwnFuns.snoc (m := wr.heap.size) hof (fun i hi k hk => ((hof.code i hi).lt k hk).2) (ho.only hS (ho.neBox hx (by decide))) (fun i hi => move (by decide) (by decide) (first (hof.code i hi))) ((move (by decide) (by decide) hc).mono (by omega)) hbr, hx.set 0 u, fun h1 h2 h => move h1 h2 (first h), fun b vs' hne h => ?_, ?_⟩
  · have h3 := ((h.below hwA).alloc o).only hO2 (((h.below hwA).alloc o).neRow hA (by decide))
    exact h3.only hS (by simpa using hne)
  · have hz := hwA.size
    exact (Below.grownE ((hbw.trans (hwA.mono hbr)).alloc (by omega) _) hA hg (by simp; omega) (Nat.le_refl _)).setCell hb3 _

/-- The blocks below B but b are as they were. -/
def OnlyLow (B b : Nat) (w w' : World) : Prop := w.heap.size ≤ w'.heap.size ∧ ∀ k, k < B → k ≠ b → w'.heap[k]? = w.heap[k]?
theorem OnlyLow.refl (B b : Nat) (w : World) : OnlyLow B b w w := ⟨Nat.le_refl _, fun _ _ _ => rfl⟩
theorem OnlyLow.trans {B b : Nat} {x y z : World} (h : OnlyLow B b x y) (k : OnlyLow B b y z) : OnlyLow B b x z := ⟨Nat.le_trans h.1 k.1, fun q hq hr => (k.2 q hq hr).trans (h.2 q hq hr)⟩
theorem OnlyLow.below {B b : Nat} {w w' : World} (h : Below B w w') : OnlyLow B b w w' := ⟨h.size, fun k hk _ => h.block k hk⟩
theorem OnlyLow.store (B b k : Nat) (w : World) (u : Value) : OnlyLow B b w (w.setCell ⟨b, k, none⟩ u) := ⟨by simp [World.setCell], fun q _ hr => Below.heap_setCell _ _ _ _ hr⟩
theorem OnlyLow.only {b : Nat} {w w' : World} (h : OnlyLow w.heap.size b w w') : Only (some b) w w' := ⟨h.1, fun k hk hr => h.2 k hk (fun e => hr (by rw [e]))⟩
theorem OnlyLow.box {B b c : Nat} {w w' : World} {t : TypeId} {vs : List Value} (h : OnlyLow B b w w') (hb : BoxAt w c t vs) (hc : c < B) (hne : c ≠ b) : BoxAt w' c t vs := hb.ofBlock (h.2 c hc hne)

theorem OwnLays.drew {base : Nat} {w : World} {v : Value} {l : List (List Int)} {ss : List Slc} (h : OwnLays base w v l ss) : OwnLays base w.drew v l ss := ⟨h.len, h.row, h.each⟩

/-- One layout has been copied: from the world in front of the region to the one behind it. -/
theorem lay_step {B b3 : Nat} {wo w1 w2 w3 w4 : World} {va v4 : Value} {l : List (List Int)} {rs : List Slc} {r : List Int} {s : Slc} {v2 : Value} {vs : List Value} {o : Obj} (u : Value) (hB : B ≤ wo.heap.size) (hb3 : b3 < B)
    (hol : OwnLays B wo va l rs) (hx : BoxAt wo b3 26 vs) (h1 : Below wo.heap.size wo w1) (hown1 : OwnE intE wo.heap.size 3 w1 v2 ([] : List Int)) (hg2 : w1.grownBy w2 v2.ownBlock) (hr : OwnE intE wo.heap.size 3 w2 s.val r)
    (h3 : w3 = w2.alloc o) (hg4 : w3.grownBy w4 va.ownBlock) (ho : OwnE rowE B 45 w4 v4 (rs ++ [s])) :
    OwnLays B (w4.setCell ⟨b3, 2, none⟩ u) v4 (l ++ [r]) (rs ++ [s]) ∧ BoxAt (w4.setCell ⟨b3, 2, none⟩ u) b3 26 (vs.set 2 u) ∧ OnlyLow B b3 wo (w4.setCell ⟨b3, 2, none⟩ u) ∧ (∀ c, c ≤ b3 → Below c wo (w4.setCell ⟨b3, 2, none⟩ u)) := by
  subst h3
  have hz1 := h1.size
  have ha : OwnE rowE B 45 w1 va rs := OwnE.fresh hol.row (Only.below h1 _)
  have hb2 : Below wo.heap.size wo w2 := Below.grownE h1 hown1 hg2 hz1 (Nat.le_refl _)
  have ha2 : OwnE rowE B 45 w2 va rs := ha.only (Only.grown hg2) (ha.neRow hown1 (by decide))
  have ha3 := ha2.alloc o
  have hO4 : Only va.ownBlock (w2.alloc o) w4 := Only.grown hg4
  have hS : Only (some b3) w4 (w4.setCell ⟨b3, 2, none⟩ u) := Only.store w4 b3 2 u
  have hz2 := hb2.size
  have hb4 : Below B wo w4 := Below.grownE ((hb2.mono hB).alloc (by omega) _) ha3 hg4 (by simp; omega) (Nat.le_refl _)
  have hx4 : BoxAt w4 b3 26 vs := hx.ofBlock (hb4.block b3 hb3)
  have move : ∀ {E : Enc Int} {b : Nat} {v : Value} {l' : List Int}, OwnE E b 3 w2 v l' → OwnE E b 3 (w4.setCell ⟨b3, 2, none⟩ u) v l' := by
    intro E b v l' h
    have h5 := (h.alloc o).only hO4 ((h.alloc o).neRow ha3 (by decide))
    exact h5.only hS (h5.neBox hx4 (by decide))
  have apart : ∀ i, i < l.length → OwnE intE B 3 w2 (nth rs i).val (nth l i) := fun i hi => by
    have h5 := OwnE.fresh (hol.each i hi) (Only.below h1 none)
    refine h5.only (Only.grown hg2) fun k hk he => ?_
    have h6 := ((hol.each i hi).lt k hk).2
    have h7 := (hown1.lt k he.symm).1
    omega
  refine ⟨hol.snoc (ho.only hS (ho.neBox hx4 (by decide))) (fun i hi => move (apart i hi)) ((move hr).mono hB), hx4.set 2 u, (OnlyLow.below hb4).trans (OnlyLow.store _ _ _ _ _), fun c hc => (hb4.mono (by omega)).setCell hc _⟩

theorem OwnLays.mono {base base' : Nat} {w : World} {v : Value} {l : List (List Int)} {ss : List Slc} (h : OwnLays base w v l ss) (hb : base' ≤ base) : OwnLays base' w v l ss := ⟨h.len, h.row.mono hb, fun i hi => (h.each i hi).mono hb⟩
theorem lay_own {B : Nat} {wo w5 : World} {va v2 : Value} {l : List (List Int)} {rs : List Slc} {o6 : Obj} {cs : Array Value} (hol : OwnLays B wo va l rs) (hown1 : OwnE intE wo.heap.size 3 (wo.drew.alloc (.cells cs 3)) v2 ([] : List Int)) (hg5 : (wo.drew.alloc (.cells cs 3)).grownBy w5 v2.ownBlock) (hB : B ≤ wo.heap.size) :
    OwnE rowE B 45 (w5.alloc o6) va rs := by
  have ha : OwnE rowE B 45 (wo.drew.alloc (.cells cs 3)) va rs := OwnE.fresh hol.row (Only.below ((Below.refl _ _).drew.alloc (Nat.le_refl _) _) _)
  exact (ha.only (Only.grown hg5) (ha.neRow hown1 (by decide))).alloc o6

noncomputable def planC11 : Plan := mkPlan (regionOf Try.f12 11) [(2, .new), (8, .new), (9, .new), (10, .new), (12, .fin)] []
noncomputable def planC1 : Plan := mkPlan (regionOf Try.f12 1) [(0, .new), (3, .upd 0), (7, .new), (8, .fin)] [(0, 3)]

set_option maxRecDepth 100000 in
set_option maxHeartbeats 8000000 in
theorem copy_calls (lo : Nat) (vf vg vl : Value) (p : Prg) (w : World) (hp : ProgAt lo w vf vg vl p) (hwf : PrgWf p) :
    Calls Try.prog 12 #[.agg #[vf, vg, vl, .int .i64 p.main]] w fun e w' => ∃ uf ug ul, e = .returned (.agg #[uf, ug, ul, .int .i64 p.main]) ∧ OwnPrg w.heap.size w' uf ug ul p ∧ Below w.heap.size w w' := by
  have HP := hid hp
  have HWF := hid hwf
  have zf := hwf.funcs
  have zg := hwf.globs
  have zl := hwf.lays
  obtain ⟨fa, fc, b1, o1, S, rfl, p1, x0, x1, x2, x3, xi, k1, m1, m1', n1⟩ := hp.funcs.open
  obtain ⟨ga, gc, _, _, rfl, _, _, _, _, m2, m2', n2⟩ := hp.globs.open
  obtain ⟨la, lc, b3', o3, T, rfl, p3, u0, ui, k3, m3, m3', n3⟩ := hp.lays.open
  have HF := hid (And.intro p1 (And.intro x0 (And.intro x1 (And.intro x2 (And.intro x3 (And.intro xi k1))))))
  have HL := hid (And.intro p3 (And.intro u0 (And.intro ui k3)))
  clear p1 x0 x1 x2 x3 xi k1 p3 u0 ui k3 hp hwf
  obtain ⟨base, hbase⟩ : ∃ base, w.heap.size = base := ⟨_, rfl⟩
  have HBS := hid hbase
  go_enter Try.func12, Try.ntmps12
  go_wp2_with fail
  generalize hW : World.alloc _ _ = W
  have hbW : Below base w W := by rw [← hW, ← hbase]; exact ((Below.refl _ _).alloc (Nat.le_refl _) _).alloc (by simp) _
  have R1 := hid (show BoxAt W base 26 [.slice fa p.funcs.length fc, .slice ga p.globals.length gc, .slice la p.layouts.length lc, .int .i64 p.main] by
    rw [← hW]
    exact (BoxAt.new w _ _ _ _ hbase.symm rfl).alloc _)
  have R2 := hid (show BoxAt W (base + 1) 26 [.slice none 0 0, .slice none 0 0, .slice none 0 0, .int .i64 0] by
    rw [← hW]
    exact BoxAt.new _ _ _ _ _ (by simp [hbase]) rfl)
  have HBW := hid hbW
  clear hW hbW
  have zF := hid HWF.out
  have c0 := R1.out.cell 0 _ rfl
  have c1 := R1.out.cell 1 _ rfl
  have c2 := R1.out.cell 2 _ rfl
  have c3 := R1.out.cell 3 _ rfl
  have s1 := R1.out.lt
  refine Plan.wp_facts (B := W.heap.size) planC1 [(0, ownF globE W.heap.size 60 []), (3, ownF globE W.heap.size 60 p.globals), (7, boxF W.heap.size 26 [.slice none 0 0, .slice none 0 0, .slice none 0 0, .int .i64 0])] (by kernel_rfl) rfl (by kernel_rfl) (by kernel_rfl) (Nat.le_refl _) ?_
  refine Plan.runs_lit globE W.heap.size 60 [] #[] 0 rfl rfl _ rfl rfl (fun w' => by go_simp) rfl rfl rfl (by simp) (Nat.le_refl _) (fun v7 => ?_)
  simp only [Act.put, List.setIfInBounds_toArray, List.set_cons_zero, List.set_cons_succ]
  repeat (first | (apply Plan.runs_skip rfl rfl; simp only [Act.put, List.setIfInBounds_toArray, List.set_cons_zero, List.set_cons_succ]) | (apply Plan.runs_det rfl rfl; (· intro F w' hb hf; obtain ⟨hcl, hfz⟩ := bcell hb; go_simp; rfl); simp only [Act.put, List.setIfInBounds_toArray, List.set_cons_zero, List.set_cons_succ]))
  refine Plan.runs_append globE 0 _ _ 23 W.heap.size lo 60 _ 24 [] p.globals rfl rfl _ rfl rfl rfl Try.underlying23 infoGlob rfl rfl rfl rfl (by decide) rfl rfl (Nat.le_refl _) (Nat.le_refl _) (Nat.le_refl _) (by simp; omega) (by simp only [maxLen]; simp; omega) (fun F w' hb hf => ?_) (fun v10 => ?_)
  · have h1 := HBW.out
    rw [← HBS.out] at h1
    exact HP.out.globs.keep (Keep.below (h1.trans (hb.mono h1.size)))
  simp only [Act.put, List.setIfInBounds_toArray, List.set_cons_zero, List.set_cons_succ]
  repeat (first | (apply Plan.runs_skip rfl rfl; simp only [Act.put, List.setIfInBounds_toArray, List.set_cons_zero, List.set_cons_succ]) | (apply Plan.runs_det rfl rfl; (· intro F w' hb hf; obtain ⟨hcl, hfz⟩ := bcell hb; go_simp; rfl); simp only [Act.put, List.setIfInBounds_toArray, List.set_cons_zero, List.set_cons_succ]))
  refine Plan.runs_det (v := .agg #[.slice none 0 0, v10, .slice none 0 0, .int .i64 p.main]) rfl rfl (fun F w' hb hf => ?_) ?_
  · obtain ⟨a', c', rfl⟩ := (Plan.facts_own hf 3 rfl rfl rfl (.inl rfl)).anySlice
    go_simp
  simp only [Act.put, List.setIfInBounds_toArray, List.set_cons_zero, List.set_cons_succ]
  refine Plan.runs_box 26 _ _ rfl rfl _ rfl rfl (fun w' => by go_simp) rfl rfl (Nat.le_refl _) (fun b3 => ?_)
  simp only [Act.put, List.setIfInBounds_toArray, List.set_cons_zero, List.set_cons_succ]
  refine Plan.runs_fin rfl rfl (fun F w9 hb hf => ?_)
  have hog := Plan.rest_own hf 3 rfl (by decide) rfl rfl
  obtain ⟨hob, hb3⟩ := Plan.rest_box hf 7 rfl rfl (by decide) rfl rfl
  obtain ⟨ga', gc', rfl⟩ := hog.anySlice
  have HOG := hid hog
  have HOB := hid hob
  have e0 := hob.cell 0 _ rfl
  have e1 := hob.cell 1 _ rfl
  have e2 := hob.cell 2 _ rfl
  have e3 := hob.cell 3 _ rfl
  have z0 := hob.frozen 0
  have z1 := hob.frozen 1
  have z2 := hob.frozen 2
  have z3 := hob.frozen 3
  have t0 := hob.lt
  have HB9 := hid hb
  clear hog hob hf hb c0 c1 c2 c3 s1
  unfold Oper.wp
  go_simp
  go_wp2_with fail
  have hsz : base + 2 ≤ W.heap.size := R2.out.lt
  have hX1 : BoxAt ((((w9.setCell ⟨b3, 0, none⟩ (.slice none 0 0)).setCell ⟨b3, 1, none⟩ (.slice ga' p.globals.length gc')).setCell ⟨b3, 2, none⟩ (.slice none 0 0)).setCell ⟨b3, 3, none⟩ (.int .i64 p.main)) b3 26 [.slice none 0 0, .slice ga' p.globals.length gc', .slice none 0 0, .int .i64 p.main] := (((HOB.out.set 0 _).set 1 _).set 2 _).set 3 _
  have hX2 : Only (some b3) w9 ((((w9.setCell ⟨b3, 0, none⟩ (.slice none 0 0)).setCell ⟨b3, 1, none⟩ (.slice ga' p.globals.length gc')).setCell ⟨b3, 2, none⟩ (.slice none 0 0)).setCell ⟨b3, 3, none⟩ (.int .i64 p.main)) := (((Only.store _ _ _ _).trans (Only.store _ _ _ _)).trans (Only.store _ _ _ _)).trans (Only.store _ _ _ _)
  have hX3 : Below base w9 ((((w9.setCell ⟨b3, 0, none⟩ (.slice none 0 0)).setCell ⟨b3, 1, none⟩ (.slice ga' p.globals.length gc')).setCell ⟨b3, 2, none⟩ (.slice none 0 0)).setCell ⟨b3, 3, none⟩ (.int .i64 p.main)) := ((((Below.refl _ _).setCell (by show _ ≤ b3; omega) _).setCell (by show _ ≤ b3; omega) _).setCell (by show _ ≤ b3; omega) _).setCell (by show _ ≤ b3; omega) _
  generalize (((w9.setCell ⟨b3, 0, none⟩ (.slice none 0 0)).setCell ⟨b3, 1, none⟩ (.slice ga' p.globals.length gc')).setCell ⟨b3, 2, none⟩ (.slice none 0 0)).setCell ⟨b3, 3, none⟩ (.int .i64 p.main) = X at *
  have HG0 := hid ((HOG.out.mono (by omega : base ≤ W.heap.size)).only hX2 (HOG.out.neBox HOB.out (by decide)))
  have hB9 := HB9.out
  have HA0 := hid ((R1.out.below hB9).only hX2 (by simp; omega))
  have HR0 := hid ((R2.out.below hB9).only hX2 (by simp; omega))
  have HX0 := hid hX1
  have HBX := hid ((HBW.out.trans (hB9.mono (by omega))).trans hX3)
  clear hX1 hX2 hX3 hB9 e0 e1 e2 e3 z0 z1 z2 z3 t0 HOG HOB
  have hb3' : base + 2 ≤ b3 := by omega
  clear hb3
  go_loopw [4] (fun i wr => ∃ (k : Nat) (ss : List Slc) (va : Option Addr) (vc : Nat), k ≤ p.funcs.length ∧ i = .int .i64 k ∧ OwnFuns base wr (.slice va k vc) (p.funcs.take k) ss ∧ OwnE globE base 60 wr (.slice ga' p.globals.length gc') p.globals ∧ BoxAt wr b3 26 [.slice va k vc, .slice ga' p.globals.length gc', .slice none 0 0, .int .i64 p.main] ∧ BoxAt wr base 26 [.slice fa p.funcs.length fc, .slice ga p.globals.length gc, .slice la p.layouts.length lc, .int .i64 p.main] ∧ BoxAt wr (base + 1) 26 [.slice none 0 0, .slice none 0 0, .slice none 0 0, .int .i64 0] ∧ Below base w wr) (fun i _ => p.funcs.length - (intOf i).toNat)
  case atStart => exact ⟨0, [], none, 0, Nat.zero_le _, rfl, OwnFuns.nil _ _, HG0.out, HX0.out, HA0.out, HR0.out, HBX.out⟩
  case round =>
    obtain ⟨k, ss, va, vc, hk, rfl, hof, hog, hbx, hba, hbr, hbl⟩ := hrel
    have HOF := hid hof
    have HOG := hid hog
    have HBX := hid hbx
    have HBA := hid hba
    have HBR := hid hbr
    have HBL := hid hbl
    have r0 := hba.cell 0 _ rfl
    have s5 := hba.lt
    clear hof hog hbx hba hbr hbl
    by_cases hlt : k < p.funcs.length
    · have hlt2 : (k : Int) < p.funcs.length := by omega
      obtain ⟨p1, x0, x1, x2, x3, xi, k1⟩ := HF.out
      have e1 := p1 (by omega)
      subst e1
      have s1 := k1 (by omega)
      have hbw : Below w.heap.size w wr := by rw [HBS.out]; exact HBL.out
      have d0 := (hbw.cell (p := ⟨b1, _, none⟩) s1).trans (x0 k hlt)
      have d1 := (hbw.cell (p := ⟨b1, _, none⟩) s1).trans (x1 k hlt)
      have d2 := (hbw.cell (p := ⟨b1, _, none⟩) s1).trans (x2 k hlt)
      have d3 := (hbw.cell (p := ⟨b1, _, none⟩) s1).trans (x3 k hlt)
      have s3 : b1 < wr.heap.size := by have := hbw.size; omega
      have HI := hid ((xi k hlt).below hbw)
      have HLC := hid (HWF.out.func _ (nth_mem _ _ hlt)).code
      have HTK := hid (take_snoc p.funcs k hlt)
      obtain ⟨f, hf⟩ : ∃ f, nth p.funcs k = f := ⟨_, rfl⟩
      rw [hf] at d0 d1 d2 d3 HI HLC HTK
      clear p1 x0 x1 x2 x3 xi k1 hf hbw
      have hS := HOF.out.len
      have hTk : (p.funcs.take k).length = k := by rw [List.length_take]; omega
      have hZ : ((p.funcs.take k).zip ss).length = k := by rw [List.length_zip]; omega
      have hcl : f.code.length * 40 ≤ 140737488351232 := HLC.out
      obtain ⟨ws, hws⟩ : ∃ ws, wr.heap.size = ws := ⟨_, rfl⟩
      have HWS := hid hws
      have hbs : base ≤ ws := by have := HBL.out.size; have := HBS.out; omega
      have hb3s : b3 < ws := by have := HBX.out.lt; omega
      clear hws
      go_wp2_with (
        at_builtin
        first
        | (go_loud (refine wpList_append_E insE (o := ⟨some 29, _, _, _, _, _⟩) rfl (.tmp 26) (.tmp 28) 39 rfl (wr.heap.size + 1) lo 43 _ 40 Try.underlying39 infoIns rfl [] f.code (OwnE.lit insE _ (wr.heap.size + 1) 43 [] #[] (wr.heap.size + 1) 0 (by simp) (Nat.le_refl _) rfl rfl (by simp)) (SlE.below HI.out (((Below.refl _ _).alloc (Nat.le_refl _) _).alloc (by simp) _)) (by simp; omega) (by simp only [maxLen]; simp; omega) (by simp) ?_)
           intro v' w' ho hg
           rw [List.nil_append] at ho
           obtain ⟨a', c', rfl⟩ := ho.anySlice
           have hO1 : Only (some (wr.heap.size + 1)) _ w' := Only.grown hg
           have hb1 : Below wr.heap.size wr w' := Below.grown (((Below.refl _ _).alloc (Nat.le_refl _) _).alloc (by simp) _) hg (by simp; omega) (fun q hq => by simp [Act.eval, Value.ownBlock] at hq; omega)
           have hbox : BoxAt w' wr.heap.size 41 [.string f.name, .int .i64 f.params, .int .i64 f.regs, .slice (S k).a f.code.length (S k).c] := ((BoxAt.new wr _ _ _ _ rfl rfl).alloc _).only hO1 (by simp)
           have hbx2 := hbox.set 3 (.slice a' f.code.length c')
           have e3 := hbox.cell 3 _ rfl
           have z3 := hbox.frozen 3
           have t3 := hbox.lt
           have g0 := hbx2.cell 0 _ rfl
           have g1 := hbx2.cell 1 _ rfl
           have g2 := hbx2.cell 2 _ rfl
           have g3 := hbx2.cell 3 _ rfl
           have hb2 : Below wr.heap.size wr (w'.setCell ⟨wr.heap.size, 3, none⟩ (.slice a' f.code.length c')) := hb1.setCell (Nat.le_refl _) _
           have q0 := (HBX.out.below hb2).cell 0 _ rfl
           have s7 := (HBX.out.below hb2).lt
           have HC := hid (ho.only (Only.store w' wr.heap.size 3 (.slice a' f.code.length c')) (ho.neBox hbox (by decide)))
           have HB2 := hid hb2
           have HSZ := hid hb1.size
           clear hO1 hb1 hbox hbx2 ho hg hb2)
        | (go_loud (refine wpList_append_E funE (o := ⟨some 35, _, _, _, _, _⟩) rfl (.tmp 32) (.tmp 34) 22 rfl base base 41 _ 56 Try.underlying22 infoFun rfl ((p.funcs.take k).zip ss) [(f, ⟨a', f.code.length, c'⟩)] ((HOF.out.row.fresh (Only.below HB2.out _)).alloc _) (OwnE.sl (OwnE.lit funE _ base 41 [(f, ⟨a', f.code.length, c'⟩)] _ w'.heap.size 1 (by simp [World.setCell]) (by have := HSZ.out; have := HWS.out; omega) rfl rfl (by simp)) (Nat.le_refl _) (by simp)) (by simp; omega) (by simp only [maxLen]; simp; omega) (by simp [World.setCell]; have := HSZ.out; have := HWS.out; omega) ?_)
           intro v2 w2 ho2 hg2
           obtain ⟨a2, c2, rfl⟩ := ho2.anySlice
           have hz2 : ((p.funcs.take k).zip ss ++ [(f, (⟨a', f.code.length, c'⟩ : Slc))]).length = k + 1 := by simp; omega
           rw [hz2] at ho2 ⊢
           have hA := ((HOF.out.row.fresh (Only.below HB2.out _)).alloc (.cells #[.string f.name, .int .i64 f.params, .int .i64 f.regs, .slice a' f.code.length c'] 41))
           have hB := (HBX.out.below HB2.out).alloc (.cells #[.string f.name, .int .i64 f.params, .int .i64 f.regs, .slice a' f.code.length c'] 41)
           have hbx := hB.only (Only.grown hg2) (hB.neRow hA (by decide))
           have e3 := hbx.cell 0 _ rfl
           have z3 := hbx.frozen 0
           have t3 := hbx.lt
           have HSTEP := hid (copy_step (f := f) (s := ⟨a', f.code.length, c'⟩) (.slice a2 (k + 1) c2) HBL.out (by have := HWS.out; omega) (by omega) HOF.out HB2.out HC.out hg2 ho2 hbx)
           clear hbx hB hA hz2 ho2 hg2))
      obtain ⟨hs1, hs2, hs3, hs4, hs5⟩ := HSTEP.out
      have hE1 : OwnE globE base 60 _ _ _ := hs3 (by decide) (by decide) HOG.out
      have hE2 := hs4 base _ (by omega) HBA.out
      have hE3 := hs4 (base + 1) _ (by omega) HBR.out
      go_roundw
      case rel => exact ⟨k + 1, ss ++ [⟨a', f.code.length, c'⟩], a2, c2, by omega, by go_num, by rw [HTK.out]; exact hs1, hE1, hs2, hE2, hE3, hs5⟩
      case measure => simp [intOf] <;> omega
    · have hke : k = p.funcs.length := by omega
      have HKE := hid hke
      have HTT := hid (show p.funcs.take k = p.funcs by rw [hke]; exact List.take_length)
      clear hke
      have HOF2 := hid (show OwnFuns base wr (.slice va k vc) p.funcs ss by rw [← HTT.out]; exact HOF.out)
      obtain ⟨wL, hwL⟩ : ∃ wL, wL = wr := ⟨_, rfl⟩
      subst hwL
      obtain ⟨B, hBL⟩ : ∃ B, wL.heap.size = B := ⟨_, rfl⟩
      have HBLq := hid hBL
      have hbB : base + 2 ≤ B := by have := HBR.out.lt; omega
      have hb3B : b3 < B := by have := HBX.out.lt; omega
      have hbB0 : base < B := by omega
      clear hBL
      go_wp2_with fail
      go_loopw [6] (fun i wr => ∃ (k2 : Nat) (rs : List Slc) (ua : Option Addr) (uc : Nat), k2 ≤ p.layouts.length ∧ i = .int .i64 k2 ∧ OwnLays B wr (.slice ua k2 uc) (p.layouts.take k2) rs ∧ BoxAt wr b3 26 [.slice va k vc, .slice ga' p.globals.length gc', .slice ua k2 uc, .int .i64 p.main] ∧ OnlyLow B b3 wL wr ∧ Below base w wr) (fun i _ => p.layouts.length - (intOf i).toNat)
      case atStart => exact ⟨0, [], none, 0, Nat.zero_le _, rfl, OwnLays.nil _ _, HBX.out, OnlyLow.refl _ _ _, HBL.out⟩
      case round =>
        obtain ⟨k2, rs, ua, uc, hk2, rfl, hol, hbx2, hlow, hbl2⟩ := hrel
        obtain ⟨wo, hwo⟩ : ∃ wo, wo = wr := ⟨_, rfl⟩
        subst hwo
        have HOL := hid hol
        have HBX2 := hid hbx2
        have HLOW := hid hlow
        have HBL2 := hid hbl2
        have hBA2 := hlow.box HBA.out hbB0 (by omega)
        have HBA2 := hid hBA2
        have r2 := hBA2.cell 2 _ rfl
        have s5 := hBA2.lt
        have hBwo : B ≤ wo.heap.size := by have := hlow.1; have := HBLq.out; omega
        clear hol hbx2 hlow hbl2 hBA2
        by_cases hlt2 : k2 < p.layouts.length
        · have hlt3 : (k2 : Int) < p.layouts.length := by omega
          obtain ⟨p3, u0, ui, k3⟩ := HL.out
          have e1 := p3 (by omega)
          subst e1
          have s1 := k3 (by omega)
          have hbw : Below w.heap.size w wo := by rw [HBS.out]; exact HBL2.out
          have d0 := (hbw.cell (p := ⟨b3', _, none⟩) s1).trans (u0 k2 hlt2)
          have HI := hid ((ui k2 hlt2).below hbw)
          have hb3' : b3' < B := by have := HBS.out; omega
          have HTK := hid (take_snoc p.layouts k2 hlt2)
          have HLR := hid (HWF.out.lay _ (nth_mem _ _ hlt2)).1
          obtain ⟨row, hrow⟩ : ∃ row, nth p.layouts k2 = row := ⟨_, rfl⟩
          rw [hrow] at d0 HI HTK HLR
          have c2 := HBX2.out.cell 2 _ rfl
          have s9 := HBX2.out.lt
          have hrl := HLR.out
          have hrs := HOL.out.len
          have hrsl : rs.length = k2 := by rw [hrs, List.length_take]; omega
          clear p3 u0 ui k3 hrow s1 hrs
          go_wp2_with fail
          refine Plan.wp_chain planC11 B (by kernel_rfl) rfl (by kernel_rfl) (by kernel_rfl) ?_
          repeat (first | (apply Plan.chain_skip rfl rfl; simp only [Act.put, List.setIfInBounds_toArray, List.set_cons_zero, List.set_cons_succ]) | (apply Plan.chain_det rfl rfl; (· intro w' hb; obtain ⟨hcl, hfz⟩ := bcellB hb; go_simp; rfl); simp only [Act.put, List.setIfInBounds_toArray, List.set_cons_zero, List.set_cons_succ]))
          refine Plan.chain_lit intE wo.heap.size 3 [] #[] 0 rfl rfl rfl (by go_simp) rfl rfl (by simp) (Nat.le_refl _) hBwo (Below.refl _ _).drew (fun ho1 hb1 => ?_)
          simp only [Act.put, List.setIfInBounds_toArray, List.set_cons_zero, List.set_cons_succ]
          have HO1 := hid ho1
          have HB1 := hid hb1
          clear ho1 hb1
          repeat (first | (apply Plan.chain_skip rfl rfl; simp only [Act.put, List.setIfInBounds_toArray, List.set_cons_zero, List.set_cons_succ]) | (apply Plan.chain_det rfl rfl; (· intro w' hb; obtain ⟨hcl, hfz⟩ := bcellB hb; go_simp; rfl); simp only [Act.put, List.setIfInBounds_toArray, List.set_cons_zero, List.set_cons_succ]))
          refine Plan.chain_append intE (.tmp 46) (.tmp 51) 45 wo.heap.size lo 3 _ 8 [] row rfl rfl rfl rfl Try.underlying45 infoInt rfl HO1.out (SlE.below HI.out ((Below.refl _ _).drew.alloc (Nat.le_refl _) _)) (by simp; omega) (by simp only [maxLen]; simp; omega) (by simp) hBwo HB1.out (fun x5 m5 w5 ho5 hg5 hb5 => ?_)
          simp only [Act.put, List.setIfInBounds_toArray, List.set_cons_zero, List.set_cons_succ]
          rw [List.nil_append] at ho5 ⊢
          have HO5 := hid ho5
          have HG5 := hid hg5
          have HB5 := hid hb5
          have hsz5 : wo.heap.size + 1 ≤ w5.heap.size := by have := hg5.size; simpa using this
          clear ho5 hg5 hb5
          repeat (first | (apply Plan.chain_skip rfl rfl; simp only [Act.put, List.setIfInBounds_toArray, List.set_cons_zero, List.set_cons_succ]) | (apply Plan.chain_det rfl rfl; (· intro w' hb; obtain ⟨hcl, hfz⟩ := bcellB hb; go_simp; rfl); simp only [Act.put, List.setIfInBounds_toArray, List.set_cons_zero, List.set_cons_succ]))
          refine Plan.chain_lit rowE B 45 [⟨x5, row.length, m5⟩] #[.slice x5 row.length m5] 1 rfl rfl rfl (by go_simp) rfl rfl (by simp) (by omega) (by omega) HB5.out (fun ho6 hb6 => ?_)
          simp only [Act.put, List.setIfInBounds_toArray, List.set_cons_zero, List.set_cons_succ]
          have HO6 := hid ho6
          have HB6 := hid hb6
          clear ho6 hb6
          repeat (first | (apply Plan.chain_skip rfl rfl; simp only [Act.put, List.setIfInBounds_toArray, List.set_cons_zero, List.set_cons_succ]) | (apply Plan.chain_det rfl rfl; (· intro w' hb; obtain ⟨hcl, hfz⟩ := bcellB hb; go_simp; rfl); simp only [Act.put, List.setIfInBounds_toArray, List.set_cons_zero, List.set_cons_succ]))
          refine Plan.chain_append rowE (.tmp 45) (.tmp 53) 24 B B 45 _ 24 rs [⟨x5, row.length, m5⟩] rfl rfl rfl rfl Try.underlying24 infoRow rfl (lay_own HOL.out HO1.out HG5.out hBwo) (HO6.out.sl (Nat.le_refl _) (by simp)) (by simp; omega) (by simp only [maxLen]; simp; omega) (by simp; omega) (Nat.le_refl _) HB6.out (fun x7 m7 w7 ho7 hg7 hb7 => ?_)
          simp only [Act.put, List.setIfInBounds_toArray, List.set_cons_zero, List.set_cons_succ]
          have hz7 : (rs ++ [(⟨x5, row.length, m5⟩ : Slc)]).length = k2 + 1 := by simp; omega
          rw [hz7] at ho7 ⊢
          have HSTEP := hid (lay_step (s := ⟨x5, row.length, m5⟩) (.slice x7 (k2 + 1) m7) hBwo hb3B HOL.out HBX2.out ((Below.refl _ _).drew.alloc (Nat.le_refl _) _) HO1.out HG5.out HO5.out rfl hg7 ho7)
          have hbx7 := HBX2.out.ofBlock (hb7.block b3 hb3B)
          have e3 := hbx7.cell 2 _ rfl
          have z3 := hbx7.frozen 2
          have t3 := hbx7.lt
          clear ho7 hg7 hb7 hz7 hbx7
          repeat (first | (apply Plan.chain_skip rfl rfl; simp only [Act.put, List.setIfInBounds_toArray, List.set_cons_zero, List.set_cons_succ]) | (apply Plan.chain_det rfl rfl; (· intro w' hb; obtain ⟨hcl, hfz⟩ := bcellB hb; go_simp; rfl); simp only [Act.put, List.setIfInBounds_toArray, List.set_cons_zero, List.set_cons_succ]))
          refine Plan.chain_fin rfl rfl ?_
          unfold Oper.wp
          go_simp
          go_wp2_with fail
          obtain ⟨hs1, hs2, hs3, hs4⟩ := HSTEP.out
          go_roundw
          case rel => exact ⟨k2 + 1, rs ++ [⟨x5, row.length, m5⟩], x7, m7, by omega, by go_num, by rw [HTK.out]; exact hs1, hs2, HLOW.out.trans hs3, HBL2.out.trans (hs4 base (by omega))⟩
          case measure => simp [intOf] <;> omega
        · have hke : k2 = p.layouts.length := by omega
          have HKE2 := hid hke
          have HTT2 := hid (show p.layouts.take k2 = p.layouts by rw [hke]; exact List.take_length)
          clear hke
          have hb3x := HBX2.out
          have q0 := hb3x.cell 0 _ rfl
          have q1 := hb3x.cell 1 _ rfl
          have q2 := hb3x.cell 2 _ rfl
          have q3 := hb3x.cell 3 _ rfl
          have q7 := hb3x.lt
          have hbrx := HLOW.out.box HBR.out (by omega) (by omega)
          have y0 := hbrx.cell 0 _ rfl
          have y1 := hbrx.cell 1 _ rfl
          have y2 := hbrx.cell 2 _ rfl
          have y3 := hbrx.cell 3 _ rfl
          have f0 := hbrx.frozen 0
          have f1 := hbrx.frozen 1
          have f2 := hbrx.frozen 2
          have f3 := hbrx.frozen 3
          have y7 := hbrx.lt
          have hS := ((((Only.store wo (base + 1) 0 (.slice va k vc)).trans (Only.store _ (base + 1) 1 (.slice ga' p.globals.length gc'))).trans (Only.store _ (base + 1) 2 (.slice ua k2 uc))).trans (Only.store _ (base + 1) 3 (.int .i64 p.main)))
          have hBr2 := (((hbrx.set 0 (.slice va k vc)).set 1 (.slice ga' p.globals.length gc')).set 2 (.slice ua k2 uc)).set 3 (.int .i64 p.main)
          have hBE : Below base w ((((wo.setCell ⟨base + 1, 0, none⟩ (.slice va k vc)).setCell ⟨base + 1, 1, none⟩ (.slice ga' p.globals.length gc')).setCell ⟨base + 1, 2, none⟩ (.slice ua k2 uc)).setCell ⟨base + 1, 3, none⟩ (.int .i64 p.main)) := (((HBL2.out.setCell (by show _ ≤ base + 1; omega) _).setCell (by show _ ≤ base + 1; omega) _).setCell (by show _ ≤ base + 1; omega) _).setCell (by show _ ≤ base + 1; omega) _
          have hOnly : Only (some b3) wL wo := by have := HLOW.out; rw [← HBLq.out] at this; exact this.only
          have hOF := (HOF2.out.onlyBox hOnly HBX.out (by decide) (by decide)).onlyBox hS hbrx (by decide) (by decide)
          have hOG : OwnE globE base 60 _ _ _ := ((HOG.out.only hOnly (HOG.out.neBox HBX.out (by decide))).only hS ((HOG.out.only hOnly (HOG.out.neBox HBX.out (by decide))).neBox hbrx (by decide)))
          have hOL := HOL.out.onlyBox hS hbrx (by decide) (by decide)
          rw [HTT2.out] at hOL
          have HOF3 := hid hOF
          have HOG3 := hid hOG
          have HOL3 := hid (OwnLays.mono hOL (by omega : base ≤ B))
          have HBE := hid hBE
          have g0 := hBr2.cell 0 _ rfl
          have g1 := hBr2.cell 1 _ rfl
          have g2 := hBr2.cell 2 _ rfl
          have g3 := hBr2.cell 3 _ rfl
          have HGG := hid (And.intro g0 (And.intro g1 (And.intro g2 g3)))
          clear hb3x hbrx hS hBr2 hBE hOnly hOF hOG hOL g0 g1 g2 g3
          go_wp2_with fail
          obtain ⟨g0, g1, g2, g3⟩ := HGG.out
          refine bodyPost_ret (v := .agg #[.slice va k vc, .slice ga' p.globals.length gc', .slice ua k2 uc, .int .i64 p.main]) (by simp [results, Try.results12, go_sem, g0, g1, g2, g3]) rfl ⟨_, _, _, rfl, ⟨⟨_, by rw [HBS.out]; exact HOF3.out⟩, by rw [HBS.out]; exact HOG3.out, ⟨_, by rw [HBS.out]; exact HOL3.out⟩⟩, by rw [HBS.out]; exact HBE.out⟩

end Go.Proofs.Ytealeofgfgbheaa
