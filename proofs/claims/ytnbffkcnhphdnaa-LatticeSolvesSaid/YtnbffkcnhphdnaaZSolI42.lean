/-
  Package lattice's solve over numbers.
-/
import Derived.Test.YtnbffkcnhphdnaaZSolve42
import Derived.Test.YtnbffkcnhphdnaaZMayW42
namespace Go.Proofs.Ytnbffkcnhphdnaa
set_option linter.unusedVariables false
set_option linter.unusedSimpArgs false
open Go.RowKit

structure StI (w w4 : World) (vb vc mb n : Nat) (wr : World) (u : List Int) (lv : Value) (l lm : List Int) (c : Nat) : Prop where
  below : Below w.heap.size w wr
  size : w4.heap.size ≤ wr.heap.size
  fix : ∀ k, k < w4.heap.size → k ≠ mb → k ≠ vb → wr.heap[k]? = w4.heap[k]?
  v : OwnE intE w.heap.size 3 wr (.slice (some ⟨vb, 0, none⟩) n vc) u
  vlt : vb < w4.heap.size
  q : QAt w4.heap.size 3 wr lv l
  m : MapB wr mb c lm

section
variable {w w4 wr : World} {vb vc mb n : Nat} {u : List Int} {lv : Value} {l lm : List Int} {c : Nat}
theorem StI.mbv (h : StI w w4 vb vc mb n wr u lv l lm c) : mb ≠ vb := by
  intro e
  obtain ⟨es, clock, hm⟩ := h.m.isMap
  rcases h.v.2 with ⟨h0, _⟩ | ⟨g, cap, cur, hv, _, hg, _⟩
  · cases h0
  · obtain ⟨h1, _⟩ := Value.slice.inj hv
    simp at h1
    subst h1
    rw [← e, hm] at hg
    cases hg
theorem StI.qv (h : StI w w4 vb vc mb n wr u lv l lm c) (k : Nat) (hk : lv.ownBlock = some k) : k ≠ vb ∧ k ≠ mb ∧ w4.heap.size ≤ k := by
  obtain ⟨h1, h2, cur, h3⟩ := h.q.lt k hk
  refine ⟨fun e => ?_, fun e => ?_, h1⟩
  · have := h.vlt; omega
  · obtain ⟨es, clock, hm⟩ := h.m.isMap
    rw [← e, h3] at hm
    cases hm
theorem StI.vblk (h : StI w w4 vb vc mb n wr u lv l lm c) (k : Nat) (hk : (Value.slice (some ⟨vb, 0, none⟩) n vc).ownBlock = some k) : k = vb := by
  simpa [Value.ownBlock] using hk.symm
theorem StI.step (h : StI w w4 vb vc mb n wr u lv l lm c) {w' : World} (hb : Below wr.heap.size wr w') : StI w w4 vb vc mb n w' u lv l lm c :=
  ⟨bvia h.below hb, Nat.le_trans h.size hb.size, fun k h1 h2 h3 => (hb.block k (Nat.lt_of_lt_of_le h1 h.size)).trans (h.fix k h1 h2 h3), h.v.ofBlock (fun k hk => hb.block k (h.v.lt k hk).2), h.vlt, h.q.below hb, h.m.below hb⟩
theorem StI.below_grow (h : StI w w4 vb vc mb n wr u lv l lm c) {w' : World} {row : Option Nat} (hg : wr.grownBy w' row) (hrow : ∀ k, row = some k → w.heap.size ≤ k) : Below w.heap.size w w' :=
  h.below.grown hg h.below.size hrow
theorem StI.map (h : StI w w4 vb vc mb n wr u lv l lm c) (hmb : w.heap.size ≤ mb) (hmb4 : mb < w4.heap.size) {w' : World} (hg : wr.grownBy w' (some mb)) {lm' : List Int} {c' : Nat} (hm : MapB w' mb c' lm') : StI w w4 vb vc mb n w' u lv l lm' c' :=
  ⟨h.below_grow hg (fun k hk => by cases hk; exact hmb), Nat.le_trans h.size hg.size, fun k h1 h2 h3 => (hg.block k (Nat.lt_of_lt_of_le h1 h.size) (by simpa using h2)).trans (h.fix k h1 h2 h3),
   h.v.kept hg (.inr fun e => h.mbv (h.vblk mb e).symm.symm), h.vlt, h.q.keep fun k hk => hg.block k (h.q.lt k hk).2.1 (by simpa using (h.qv k hk).2.1), hm⟩
theorem StI.queue (h : StI w w4 vb vc mb n wr u lv l lm c) (hmb : w.heap.size ≤ mb) (hw4 : w.heap.size ≤ w4.heap.size) {w1 w' : World} {lv' : Value} {l' : List Int} (h1 : Below wr.heap.size wr w1) (hg : w1.grownBy w' lv.ownBlock) (hq : QAt w4.heap.size 3 w' lv' l') : StI w w4 vb vc mb n w' u lv' l' lm c := by
  have h2 := h.step h1
  refine ⟨h2.below_grow hg (fun k hk => Nat.le_trans hw4 (h2.qv k hk).2.2), Nat.le_trans h2.size hg.size, fun k k1 k2 k3 => (hg.block k (Nat.lt_of_lt_of_le k1 h2.size) (fun e => by have := (h2.qv k e.symm).2.2; omega)).trans (h2.fix k k1 k2 k3), h2.v.kept hg (.inr fun e => ?_), h.vlt, hq, h2.m.grown hg fun e => (h2.qv mb e.symm).2.1 rfl⟩
  cases hl : lv.ownBlock with
  | none => rw [hl] at e; simp [Value.ownBlock] at e
  | some k => rw [hl] at e; exact (h2.qv k hl).1 (h.vblk k e)
theorem StI.pop (h : StI w w4 vb vc mb n wr u lv l lm c) {lv' : Value} {l' : List Int} (hq : QAt w4.heap.size 3 wr lv' l') : StI w w4 vb vc mb n wr u lv' l' lm c :=
  ⟨h.below, h.size, h.fix, h.v, h.vlt, hq, h.m⟩
theorem StI.put (h : StI w w4 vb vc mb n wr u lv l lm c) (hvb : w.heap.size ≤ vb) (i : Nat) (x : Int) (hi : i < u.length) : StI w w4 vb vc mb n (wr.setCell ⟨vb, i, none⟩ (.int .i64 x)) (u.set i x) lv l lm c := by
  have hst : ∀ k, k ≠ vb → (wr.setCell ⟨vb, i, none⟩ (.int .i64 x)).heap[k]? = wr.heap[k]? := fun k hk => Go.Deep.blk_setCell_other _ _ _ _ hk
  exact ⟨h.below.setCell hvb _, by simpa [World.setCell] using h.size, fun k h1 h2 h3 => (hst k h3).trans (h.fix k h1 h2 h3), (by have := h.v.put i 0 (.int .i64 x) x hi (by decide) rfl; rw [show i * intE.sz + 0 = i by show i * 1 + 0 = i; omega] at this; exact this), h.vlt, h.q.keep fun k hk => hst k (h.qv k hk).1, h.m.block (hst mb h.mbv)⟩
end

noncomputable def planSI26 : Plan := mkPlan (regionOf Try.f51 26) [(11, .new), (12, .new)] []

set_option maxRecDepth 200000 in
set_option maxHeartbeats 16000000 in
theorem soli_calls (J T Q : FuncId) (lo lo2 n : Nat) (ve vs : Value) (E : List Edg) (join : Int → Int → Int) (tr : Nat → Int → Int) (OkN : Int → Prop) (s0 : List Int) (μ : List Int → Nat) (w : World)
    (hJf : ∀ args w, (callFunc J args).run Try.prog w = .ok (.enter J args) w) (hTf : ∀ args w, (callFunc T args).run Try.prog w = .ok (.enter T args) w) (hQf : ∀ args w, (callFunc Q args).run Try.prog w = .ok (.enter Q args) w)
    (hE : EdgesAt lo w ve E) (hS : IntsAt lo2 w vs s0) (halg : Alg n E join tr (fun _ => True) s0 μ) (hrn : ∀ u, Steps n E join tr s0 u → ∀ i, i < n → OkN (nth u i)) (hn0 : 0 < n) (hn : n ≤ 1000) (hEl : E.length ≤ 1000) (hμ : μ s0 ≤ 1000000)
    (hJ : ∀ a b w', Calls Try.prog J #[.int .i64 a, .int .i64 b] w' fun e w'' => e = .returned (.int .i64 (join a b)) ∧ Below w'.heap.size w' w'')
    (hQ : ∀ a b w', Calls Try.prog Q #[.int .i64 a, .int .i64 b] w' fun e w'' => e = .returned (.bool (decide (a = b))) ∧ Below w'.heap.size w' w'')
    (hT : ∀ i x w', i < E.length → OkN x → Calls Try.prog T #[.int .i64 (i : Nat), .int .i64 x] w' fun e w'' => e = .returned (.int .i64 (tr i x)) ∧ Below w'.heap.size w' w'') :
    Calls Try.prog 51 #[ve, vs, .func (.func J) #[] #[], .func (.func Q) #[] #[], .func (.func T) #[] #[]] w fun e w' => ∃ v V, e = .returned v ∧ IntsAt 0 w' v V ∧ Steps n E join tr s0 V ∧ ClosedV n E join tr V ∧ Below w.heap.size w w' := by
  have HJF := hid hJf
  have HTF := hid hTf
  have HE := hid hE
  have HS := hid hS
  have HALG := hid halg
  have HJ := hid hJ
  have HT := hid hT
  have HQF := hid hQf
  have HQQ := hid hQ
  have HRN := hid hrn
  have hs0n := halg.len0
  obtain ⟨ea, ec, eb', eo, K, G, rfl, p1, x0, x1, x2, x3, xk, xg, k1, _, _, m1, n1⟩ := hE.open
  have HEO := hid (And.intro p1 (And.intro x0 (And.intro x1 (And.intro x2 (And.intro x3 k1)))))
  obtain ⟨sa, sc, sb, so, rfl, _, _, _, _, _, m2, n2⟩ := hS.open
  have hmk := run_make_row' (P := Try.prog) 23 34 (.slice none 0 0) 24 Try.underlying23 infoRow42 rfl .i64 .i64 n (by omega) (by omega)
  have hmm := @run_makeMap Try.prog
  rw [hs0n] at HS n2 ⊢
  clear hJf hTf hQf hE hS halg hJ hT hQ hrn hs0n p1 x0 x1 x2 x3 xk xg k1
  go_enter Try.func51, Try.ntmps51
  go_wp2_with (
    go_at_call 46
    refine (clone_calls lo2 _ s0 w HS.out (by have := HALG.out.len0; omega)).mono ?_
    rintro e w1 ⟨vv, rfl, hv, hb1⟩
    obtain ⟨vb, vc, rfl, zvb0, zvb⟩ := hv.open (by rw [HALG.out.len0]; exact hn0)
    rw [HALG.out.len0] at hv ⊢
    have HV := hid hv
    have HB1 := hid hb1
    clear hv hb1)
  generalize hW : World.alloc (World.alloc _ _) _ = W3
  have hbW : Below w1.heap.size w1 W3 := by rw [← hW]; exact ((Below.refl _ _).alloc (Nat.le_refl _) _).alloc (by simp) _
  have hout := show OutAt W3.heap.size w1.heap.size W3 n (List.replicate n ⟨none, 0, 0⟩) (fun _ => []) by
    rw [← hW]
    exact OutAt.start n ((BoxAt.new w1 _ _ _ _ rfl (toList_madeCells_one _ _)).alloc _)
  have hmap : MapB W3 (w1.heap.size + 1) 0 [] := by
    rw [← hW]
    have := MapB.made (w1.alloc (Obj.cells (madeCells #[Value.slice none 0 0] n) 34))
    simpa using this
  have zW : W3.heap.size = w1.heap.size + 2 := by rw [← hW]; simp
  have HOUT0 := hid hout
  have HMAP := hid hmap
  have HBW := hid hbW
  have HZW := hid zW
  clear hW hout hmap hbW zW hmk hmm
  go_loopw [33] (fun i wr => ∃ (k : Nat) (os : List Slc), k ≤ E.length ∧ i = .int .i64 k ∧ OutAt W3.heap.size w1.heap.size wr n os (outE E n k) ∧ Below w.heap.size w wr ∧ Only (some w1.heap.size) W3 wr) (fun i _ => E.length - (intOf i).toNat)
  case atStart => exact ⟨0, _, Nat.zero_le _, rfl, HOUT0.out, bvia HB1.out HBW.out, Only.refl _ _⟩
  case round =>
    obtain ⟨k, os, hk, rfl, hout, hbl, hol⟩ := hrel
    obtain ⟨wo, hwo⟩ : ∃ wo, wo = wr := ⟨_, rfl⟩
    subst hwo
    have HOUT := hid hout
    have HBL := hid hbl
    have HOL := hid hol
    have zob : w1.heap.size < wo.heap.size := hout.lt
    clear hout hbl hol
    by_cases hlt : k < E.length
    · have hlt2 : (k : Int) < E.length := Int.ofNat_lt.2 hlt
      obtain ⟨p1, x0, x1, x2, x3, k1⟩ := HEO.out
      have e1 := p1 (by omega)
      subst e1
      have zE := k1 (by omega)
      have d0 := (HBL.out.cell (p := ⟨eb', _, none⟩) zE).trans (x0 k hlt)
      have d1 := (HBL.out.cell (p := ⟨eb', _, none⟩) zE).trans (x1 k hlt)
      have d2 := (HBL.out.cell (p := ⟨eb', _, none⟩) zE).trans (x2 k hlt)
      have d3 := (HBL.out.cell (p := ⟨eb', _, none⟩) zE).trans (x3 k hlt)
      have zE2 : eb' < wo.heap.size := by have := HBL.out.size; omega
      obtain ⟨ed, hed⟩ : ∃ ed, nth E k = ed := ⟨_, rfl⟩
      have HED := hid hed
      rw [hed] at d0 d1 d2 d3
      clear hed p1 x0 x1 x2 x3 k1
      -- one edge
      by_cases hin : insideB n ed = true
      · obtain ⟨b1, b2, b3, b4⟩ := (insideB_iff n ed).1 hin
        have HPU := fun s (hs : ed.src = (s : Nat)) => outE_push E n k s (by rw [HED.out]; exact hin) (by rw [HED.out]; exact hs)
        have HPU' := hid HPU
        obtain ⟨s, hs⟩ := Int.eq_ofNat_of_zero_le b1
        have hsn : s < n := by omega
        have hsn2 : (s : Int) < n := by omega
        have HS' := hid hs
        rw [hs] at d0
        clear hin b1 b2 HPU hs
        go_wp2_with fail
        generalize hX : World.alloc _ _ = WX
        have hbX : Below wo.heap.size wo WX := by rw [← hX]; exact (Below.refl _ _).alloc (Nat.le_refl _) _
        have y0 : WX.cell? ⟨wo.heap.size, 0, none⟩ = some (.int .i64 s) := by rw [← hX]; simp
        have zX : wo.heap.size < WX.heap.size := by rw [← hX]; simp
        have zX2 : w1.heap.size < WX.heap.size := by omega
        have hcur := own_len (HOUT.out.row s hsn)
        have hcl := outE_len E n k s
        have y1 := (hbX.cell (p := ⟨w1.heap.size, s, none⟩) zob).trans (HOUT.out.cell s hsn)
        have y2 := (hbX.frozen (p := ⟨w1.heap.size, s, none⟩) zob).trans (HOUT.out.frozen s)
        have HOX := hid (HOUT.out.below hbX)
        have HBX := hid hbX
        have HRX := hid (show OwnE intE W3.heap.size 3 WX (.slice (nth os s).a (outE E n k s).length (nth os s).c) (outE E n k s) by rw [← hcur]; exact HOX.out.row s hsn)
        have hnx : wo.heap.size ≠ w1.heap.size := by omega
        have z3X : W3.heap.size ≤ WX.heap.size := Nat.le_trans HOL.out.1 hbX.size
        have zrow : ∀ q, (Value.slice (nth os s).a (outE E n k s).length (nth os s).c).ownBlock = some q → q < wo.heap.size ∧ q ≠ w1.heap.size := fun q hq => by
          have h1 := ((HOUT.out.row s hsn).lt q (by rw [← hcur] at hq; exact hq)).2
          exact ⟨h1, own_ne_box (HOUT.out.row s hsn) HOUT.out.box q (by rw [← hcur] at hq; exact hq)⟩
        have HZR := hid zrow
        rw [hcur] at y1
        have HCUR := hid hcur
        clear hX hbX hcur zrow
        obtain ⟨ra, hra⟩ : ∃ q, (nth os s).a = q := ⟨_, rfl⟩
        obtain ⟨rc, hrc⟩ : ∃ q, (nth os s).c = q := ⟨_, rfl⟩
        obtain ⟨cur, hcu⟩ : ∃ q, outE E n k s = q := ⟨_, rfl⟩
        have HRA := hid hra
        have HRC := hid hrc
        have HCU := hid hcu
        rw [hra, hrc, hcu] at y1 HRX HZR
        rw [hcu] at hcl HCUR
        have HCL2 := hid (show cur.length + 1 ≤ 1000000 by omega)
        have HZ3 := hid z3X
        clear hra hrc hcu d0 d1 d2 d3
        have HMS := hid (show E.length - (intOf (Value.int IntKind.i64 ((k : Int) + 1))).toNat < E.length - (intOf (Value.int IntKind.i64 (k : Int))).toNat by simp [intOf]; omega)
        have HCLOSE := hid (show ∀ g9 cap9 w9, (WX.alloc (Obj.cells #[Value.int IntKind.i64 (k : Int)] 3)).drew.grownBy w9 (Value.slice ra cur.length rc).ownBlock → OwnE intE W3.heap.size 3 w9 (.slice (some ⟨g9, 0, none⟩) (cur.length + 1) cap9) (cur ++ [(k : Int)]) →
            ((Value.slice ra cur.length rc).ownBlock = some g9 ∨ g9 = (WX.alloc (Obj.cells #[Value.int IntKind.i64 (k : Int)] 3)).drew.heap.size) →
            ∃ (k' : Nat) (os : List Slc), k' ≤ E.length ∧ Value.int IntKind.i64 ((k : Int) + 1) = .int .i64 k' ∧ OutAt W3.heap.size w1.heap.size (w9.setCell ⟨w1.heap.size, s, none⟩ (.slice (some ⟨g9, 0, none⟩) (cur.length + 1) cap9)) n os (outE E n k') ∧ Below w.heap.size w (w9.setCell ⟨w1.heap.size, s, none⟩ (.slice (some ⟨g9, 0, none⟩) (cur.length + 1) cap9)) ∧ Only (some w1.heap.size) W3 (w9.setCell ⟨w1.heap.size, s, none⟩ (.slice (some ⟨g9, 0, none⟩) (cur.length + 1) cap9)) by
          intro g9 cap9 w9 hg9 ho9 hl9
          have hvb : (nth os s).val.ownBlock = (Value.slice ra cur.length rc).ownBlock := by unfold Slc.val; rw [HRA.out]; cases ra <;> rfl
          have hst := loop1_step (S := ⟨some ⟨g9, 0, none⟩, cur.length + 1, cap9⟩) HOX.out hsn rfl (bvia HBL.out HBX.out) (HOL.out.trans (Only.below HBX.out _)) HB1.out.size (by have := HB1.out.size; have := HZW.out; omega) (by rw [hvb]; exact hg9) ho9 (fun q hq => by
            rw [hvb]
            rcases hl9 with h1 | h1
            · left; rw [h1, ← hq]; rfl
            · right
              have h2 : g9 = q := by simpa [Slc.val, Value.ownBlock] using hq
              rw [← h2, h1]
              simp)
          have hpu := HPU'.out s HS'.out
          rw [HCU.out] at hpu
          refine ⟨k + 1, os.set s ⟨some ⟨g9, 0, none⟩, cur.length + 1, cap9⟩, by omega, by go_num, ?_, hst.2.1, hst.2.2⟩
          rw [hpu]
          exact hst.1)
        have hk9 : k ≤ 1000 := by omega
        clear hcl hlt hk hEl hn hn0 m1 n1 m2 n2 hμ z3X hnx
        go_region_law (
          refine step_append_at rfl (.tmp 65) (.tmp 67) 34 rfl W3.heap.size WX.heap.size 3 Try.underlying34 infoI42 cur (k : Int) (.slice ra cur.length rc) rfl (HRX.out.alloc _) ((OwnE.lit intE WX WX.heap.size 3 [(k : Int)] _ WX.heap.size 1 rfl (Nat.le_refl _) rfl rfl (by simp)).sl (Nat.le_refl _) (by simp)) HCL2.out (Nat.le_trans HZ3.out (by simp)) ?_
          intro g9 cap9 w9 ho9 hg9 hl9 hz9
          have hxr : some wo.heap.size ≠ (Value.slice ra cur.length rc).ownBlock := fun e => Nat.lt_irrefl _ (HZR.out _ e.symm).1
          have hor : some w1.heap.size ≠ (Value.slice ra cur.length rc).ownBlock := fun e => (HZR.out _ e.symm).2 rfl
          have hsz9 : WX.heap.size + 1 ≤ w9.heap.size := by have := hg9.size; simpa using this
          have d9 : w9.cell? ⟨wo.heap.size, 0, none⟩ = some (.int .i64 s) := (hg9.cell_far ⟨wo.heap.size, 0, none⟩ (by simp; omega) hxr).trans ((World.cell?_alloc_lt _ _ _ zX).trans y0)
          have e9 : w9.cell? ⟨w1.heap.size, s, none⟩ = some (.slice ra cur.length rc) := (hg9.cell_far ⟨w1.heap.size, s, none⟩ (by simp; omega) hor).trans ((World.cell?_alloc_lt _ _ _ zX2).trans y1)
          have f9 : w9.frozen? ⟨w1.heap.size, s, none⟩ = false := (hg9.frozen_far ⟨w1.heap.size, s, none⟩ (by simp; omega) hor).trans ((World.frozen?_alloc_old _ _ _ (Nat.ne_of_lt zX2)).trans y2)
          have z9 : wo.heap.size < w9.heap.size := by omega
          have z9b : w1.heap.size < w9.heap.size := by omega
          have HFIN := hid (HCLOSE.out g9 cap9 w9 hg9 ho9 hl9)
          clear hxr hor ho9 hg9 hl9 hsz9 hz9)
        all_goals
          go_wp2_with fail
          exact ⟨HFIN.out, HMS.out⟩
      · have HNI := hid (show outE E n (k + 1) = outE E n k from outE_stay E n k (by rw [HED.out]; simpa using hin))
        have hfin : ∀ wx, Below wo.heap.size wo wx → ∃ (k' : Nat) (os : List Slc), k' ≤ E.length ∧ Value.int IntKind.i64 ((k : Int) + 1) = .int .i64 k' ∧ OutAt W3.heap.size w1.heap.size wx n os (outE E n k') ∧ Below w.heap.size w wx ∧ Only (some w1.heap.size) W3 wx := fun wx hb => ⟨k + 1, os, by omega, by go_num, by rw [HNI.out]; exact HOUT.out.below hb, bvia HBL.out hb, HOL.out.trans (Only.below hb _)⟩
        have HFIN := hid (hfin _ ((Below.refl _ _).alloc (Nat.le_refl _) (Obj.cells #[.int .i64 ed.src, .int .i64 ed.dst, .slice (K k).a ed.kill.length (K k).c, .slice (G k).a ed.gen.length (G k).c] 48)))
        rw [insideB_iff] at hin
        have HNIN := hid hin
        clear hin hfin
        by_cases h1 : 0 ≤ ed.src
        · by_cases h2 : ed.src < n
          · by_cases h3 : 0 ≤ ed.dst
            · have h4 : ¬ ed.dst < n := fun h => HNIN.out ⟨h1, h2, h3, h⟩
              go_wp2_with fail
              refine ⟨HFIN.out, by simp [intOf] <;> omega⟩
            · go_wp2_with fail
              refine ⟨HFIN.out, by simp [intOf] <;> omega⟩
          · go_wp2_with fail
            refine ⟨HFIN.out, by simp [intOf] <;> omega⟩
        · go_wp2_with fail
          refine ⟨HFIN.out, by simp [intOf] <;> omega⟩
    -- all edges
    · have HK := hid (show k = E.length by omega)
      have HOUT4 := hid (show OutAt W3.heap.size w1.heap.size wo n os (outE E n E.length) by have := HOUT.out; rw [HK.out] at this; exact this)
      have zmb : w1.heap.size + 1 < wo.heap.size := by have := HOL.out.1; have := HZW.out; omega
      have zvb4 : vb < wo.heap.size := by omega
      have HVW := hid (show OwnE intE w.heap.size 3 W3 _ _ from HV.out.ofBlock fun k hk => HBW.out.block k (HV.out.lt k hk).2)
      have HV4 := hid (HVW.out.ofBlock (w' := wo) fun q hq => HOL.out.2 q (HVW.out.lt q hq).2 (fun e => by
        have h1 := (HV.out.lt q hq).2
        have h2 : q = w1.heap.size := by simpa using e
        omega))
      have HM4 := hid (show MapB wo (w1.heap.size + 1) 0 [] from HMAP.out.block (HOL.out.2 _ (by have := HZW.out; omega) (by simp)))
      have HW4 := hid (show w.heap.size ≤ wo.heap.size from HBL.out.size)
      have HMB := hid (show w.heap.size ≤ w1.heap.size + 1 by have := HB1.out.size; omega)
      obtain ⟨mb, hmb⟩ : ∃ mb, w1.heap.size + 1 = mb := ⟨_, rfl⟩
      have HMBE := hid hmb
      rw [hmb] at zmb HM4 HMB ⊢
      obtain ⟨ob, hob⟩ : ∃ ob, w1.heap.size = ob := ⟨_, rfl⟩
      have HOBE := hid hob
      have HOUT5 := hid (show OutAt W3.heap.size ob wo n os (outE E n E.length) by have := HOUT4.out; rw [hob] at this; exact this)
      have HOBV := hid (show ob ≠ vb ∧ ob ≠ mb ∧ ob < wo.heap.size ∧ vb < W3.heap.size ∧ mb < W3.heap.size by have := HZW.out; omega)
      rw [hob]
      clear hmb hob HOUT HOUT0 HOUT4 HMAP HOL
      have HST0 := hid (show StI w wo vb vc mb n wo s0 (.slice none 0 0) [] [] 0 from ⟨HBL.out, Nat.le_refl _, fun _ _ _ _ => rfl, HV4.out, zvb4, QAt.nil _ _ _, HM4.out⟩)
      go_wp2_with fail
      clear hlt hk
      go_loopw [15, 72] (fun lv i wr => ∃ q : Nat, q ≤ n ∧ i = .int .i64 q ∧ StI w wo vb vc mb n wr s0 lv (iotaL q) (iotaL q) q) (fun _ i _ => n - (intOf i).toNat)
      case atStart => exact ⟨0, Nat.zero_le _, rfl, HST0.out⟩
      case round =>
        obtain ⟨q, hq, rfl, hst⟩ := hrel
        obtain ⟨wi, hwi⟩ : ∃ wi, wi = wr := ⟨_, rfl⟩
        subst hwi
        have HST := hid hst
        have hsz : wo.heap.size ≤ wi.heap.size := hst.size
        clear hst
        by_cases hlt : q < n
        · have hlt2 : (q : Int) < n := Int.ofNat_lt.2 hlt
          have hq64 := hid (show I64 (q : Int) by unfold I64; omega)
          go_wp2_with (first
            | (at_mapUpdate
               refine wpList_update_b rfl _ _ _ 65 rfl Try.underlying65 rfl HST.out.m (by simp only [maxLen]; omega) (q : Int) rfl rfl hq64.out ?_
               intro wm hm hg
               have HSTM := hid (HST.out.map HMB.out zmb hg hm)
               clear hm hg)
            | (at_builtin
               refine wpList_append_q rfl _ _ 34 rfl wo.heap.size 3 Try.underlying34 infoI42 (iotaL q) (HSTM.out.step ((Below.refl _ _).alloc (Nat.le_refl _) _)).q (q : Int) _ _ rfl (Go.cell_one_new _ _ _) (by rw [iotaL_len]; omega) (by have := HSTM.out.size; simp; omega) ?_
               intro v9 w9 hq9 hg9 hl9
               have HST9 := hid (HSTM.out.queue HMB.out HW4.out ((Below.refl _ _).alloc (Nat.le_refl _) _) hg9 hq9)
               clear hq9 hg9 hl9))
          go_roundw
          case rel =>
            refine ⟨q + 1, by omega, by go_num, ?_⟩
            have h := HST9.out
            rw [← iotaL_succ] at h
            exact ⟨h.below, h.size, h.fix, h.v, h.vlt, h.q, h.m.congr fun x => by rw [iotaL_succ]; simp [or_comm]⟩
          case measure => simp [intOf] <;> omega
        · have HQ := hid (show q = n by omega)
          have HST5 := hid (show StI w wo vb vc mb n wi s0 u15 (iotaL n) (iotaL n) n by have := HST.out; rw [HQ.out] at this; exact this)
          have HOUTK := hid (show ∀ (wr : World) (u : List Int) (lv : Value) (l lm : List Int) (c : Nat), StI w wo vb vc mb n wr u lv l lm c → OutAt W3.heap.size ob wr n os (outE E n E.length) from fun wr u lv l lm c h => HOUT5.out.keep fun k hk => by
            obtain ⟨h1, h2, h3, h4, h5⟩ := HOBV.out
            rcases hk with rfl | ⟨i, hi, hk⟩
            · exact h.fix _ h3 h2 h1
            · have h6 := (HOUT5.out.row i hi).lt k hk
              exact h.fix k h6.2 (by omega) (by omega))
          clear HST
          go_wp2_with fail
          clear hlt hq hsz
          go_loopg [15] (2 * μ s0 + n + 1) (fun gk lv wr => ∃ (u : List Int) (l lm : List Int) (c : Nat), StI w wo vb vc mb n wr u lv l lm c ∧ Steps n E join tr s0 u ∧ Cl n E join tr u l ∧ (∀ x ∈ l, 0 ≤ x ∧ x < n) ∧ (∀ x ∈ lm, x ∈ l) ∧ 2 * μ u + l.length < gk ∧ c + (2 * μ u + l.length) ≤ 2 * μ s0 + 2 * n)
          case atStart =>
            refine ⟨s0, iotaL n, iotaL n, n, HST5.out, .refl _, Cl.all _ trivial, fun x hx => ?_, fun x hx => hx, by rw [iotaL_len]; omega, by rw [iotaL_len]; omega⟩
            obtain ⟨j, rfl, hj⟩ := (iotaL_mem _ _).1 hx
            omega
          case round =>
            obtain ⟨u, l, lm, c, hst, hsteps, hcl, hrng, hsub, hgk, hc⟩ := hrel
            obtain ⟨wk, hwk⟩ : ∃ wk, wk = wr := ⟨_, rfl⟩
            subst hwk
            have HST := hid hst
            have HSTEPS := hid hsteps
            have HCL := hid hcl
            have HRNG := hid hrng
            have HSUB := hid hsub
            have HGK := hid hgk
            have HC := hid hc
            clear hst hsteps hcl hrng hsub hgk hc HST5
            cases l with
            | nil =>
              obtain ⟨a15, c15, e15⟩ := HST.out.q.shape
              subst e15
              go_wp2_with fail
              go_ret
              have hul := (HALG.out.steps HSTEPS.out).1
              exact ⟨_, u, rfl, HST.out.v.sl (Nat.zero_le _) (by rw [hul]; omega), HSTEPS.out, HCL.out.closed, HST.out.below⟩
            | cons a l =>
              obtain ⟨A, hA⟩ := Int.eq_ofNat_of_zero_le (HRNG.out a (by simp)).1
              subst hA
              have hAn : A < n := by have := (HRNG.out A (by simp)).2; omega
              have hAn2 : (A : Int) < n := Int.ofNat_lt.2 hAn
              have hA64 := hid (show I64 (A : Int) by unfold I64; omega)
              obtain ⟨g, off, cap, e15, hg0, hgl, hcap, hcm, hcell, hq1, hq2⟩ := HST.out.q.open
              subst e15
              have hpos1 : (0 : Int) < (l.length : Int) + 1 := by omega
              obtain ⟨N, hN⟩ : ∃ N, outE E n E.length A = N := ⟨_, rfl⟩
              have HN := hid hN
              obtain ⟨ra, hra⟩ : ∃ q, (nth os A).a = q := ⟨_, rfl⟩
              obtain ⟨rc, hrc⟩ : ∃ q, (nth os A).c = q := ⟨_, rfl⟩
              have HRA := hid (And.intro hra hrc)
              have HROW := hid (show ∀ (wr : World) (u : List Int) (lv : Value) (l lm : List Int) (c : Nat), StI w wo vb vc mb n wr u lv l lm c → OwnE intE W3.heap.size 3 wr (.slice ra N.length rc) N ∧ wr.cell? ⟨ob, A, none⟩ = some (.slice ra N.length rc) ∧ ob < wr.heap.size from fun wr u lv l lm c h => by
                have h1 := HOUTK.out wr u lv l lm c h
                have h2 := h1.row A hAn
                have h3 := h1.cell A hAn
                have h4 := own_len h2
                rw [HN.out] at h2 h4
                rw [(HRA.out).1, (HRA.out).2, h4] at h3
                refine ⟨?_, h3, h1.lt⟩
                have h5 : (nth os A).val = .slice ra N.length rc := by unfold Slc.val; rw [(HRA.out).1, (HRA.out).2, h4]
                rw [h5] at h2
                exact h2)
              have hNlen : N.length ≤ 1000 := by have := outE_len E n E.length A; rw [hN] at this; omega
              clear hN hra hrc
              have hcl1 : cap = 1 ∨ 1 < cap := by omega
              have hlc : l.length + 1 ≤ cap := hcap
              have hc9 : cap ≤ 9223372036854775807 := by simp only [maxLen] at hcm; omega
              rcases hcl1 with hcap1 | hcap1
              all_goals first
                | (subst hcap1
                   have HSTP := hid (HST.out.pop (lv' := .slice (some ⟨g, off, none⟩) 0 0) (by have := hq1 rfl; rw [show l.length = 0 by omega] at this; exact this))
                   clear hq1 hq2)
                | (have HSTP := hid (HST.out.pop (hq2 hcap1))
                   clear hq1 hq2)
              all_goals
                go_wp2_with (at_delete; refine wpList_delete_b rfl _ _ 65 rfl Try.underlying65 rfl HSTP.out.m (A : Int) rfl hA64.out ?_; intro wm hm hg; have HSTD := hid (HSTP.out.map HMB.out zmb hg hm); have y1 := (HROW.out _ _ _ _ _ _ HSTD.out).2.1; have y2 := (HROW.out _ _ _ _ _ _ HSTD.out).2.2; clear hm hg)
                clear hpos1 hcell hgl hg0 hcap hcm hlc hc9 y1 y2
                go_loopw [15, 97] (fun lv i wr => ∃ (u : List Int) (l lm : List Int) (c q : Nat), q ≤ N.length ∧ i = .int .i64 q ∧ StI w wo vb vc mb n wr u lv l lm c ∧ Steps n E join tr s0 u ∧ Cb n E join tr u l A q ∧ (∀ x ∈ l, 0 ≤ x ∧ x < n) ∧ (∀ x ∈ lm, x ∈ l) ∧ 2 * μ u + l.length + 1 < gk ∧ c + (2 * μ u + l.length) ≤ 2 * μ s0 + 2 * n) (fun _ i _ => N.length - (intOf i).toNat)
                case atStart =>
                  refine ⟨u, l, _, c, 0, Nat.zero_le _, rfl, HSTD.out, HSTEPS.out, HCL.out.start, fun x hx => HRNG.out x (by simp [hx]), fun x hx => ?_, ?_, ?_⟩
                  · rw [List.mem_filter] at hx
                    rcases List.mem_cons.1 (HSUB.out x hx.1) with e | e
                    · have := of_decide_eq_true hx.2; exact absurd e this
                    · exact e
                  · have := HGK.out; rw [List.length_cons] at this; omega
                  · have := HC.out; rw [List.length_cons] at this; omega
                case round =>
                  clear HST HSTEPS HCL HRNG HSUB HGK HC HSTP HSTD
                  obtain ⟨u, l, lm, c, q, hq, rfl, hst, hsteps, hcb, hrng, hsub, hgk, hc⟩ := hrel
                  obtain ⟨wl, hwl⟩ : ∃ wl, wl = wr := ⟨_, rfl⟩
                  subst hwl
                  have HST := hid hst
                  have HSTEPS := hid hsteps
                  have HCB := hid hcb
                  have HRNG := hid hrng
                  have HSUB := hid hsub
                  have HGK := hid hgk
                  have HC := hid hc
                  clear hst hsteps hcb hrng hsub hgk hc
                  by_cases hqN : q < N.length
                  · have hqN2 : (q : Int) < N.length := Int.ofNat_lt.2 hqN
                    obtain ⟨X, hX, hXE, hXin, hXs⟩ := outE_at (E := E) (n := n) A q (by rw [HN.out]; exact hqN)
                    have HXX := hid (And.intro hX (And.intro hXin hXs))
                    rw [HN.out] at hX
                    have hXE2 : (X : Int) < E.length := Int.ofNat_lt.2 hXE
                    obtain ⟨b1, b2, b3, b4⟩ := (insideB_iff n _).1 hXin
                    obtain ⟨D, hD⟩ := Int.eq_ofNat_of_zero_le b3
                    have hDn : D < n := by omega
                    have hDn2 : (D : Int) < n := Int.ofNat_lt.2 hDn
                    have HD := hid hD
                    obtain ⟨ho1, ho2, ho3⟩ := HROW.out _ _ _ _ _ _ HST.out
                    obtain ⟨rb, rcap, erb, hrb1, hrb2⟩ := ho1.open (by omega)
                    obtain ⟨era, erc⟩ : ra = some ⟨rb, 0, none⟩ ∧ rc = rcap := by
                      have := Value.slice.inj erb
                      exact ⟨this.1, this.2.2⟩
                    subst era erc
                    have y3 := ho1.cellAt q 0 hqN (by decide)
                    rw [show q * intE.sz + 0 = q by show q * 1 + 0 = q; omega, hX] at y3
                    have y4 : wl.cell? ⟨rb, q, none⟩ = some (.int .i64 (X : Nat)) := y3
                    obtain ⟨p1, x0, x1, x2, x3, k1⟩ := HEO.out
                    have e1 := p1 (by omega)
                    subst e1
                    have zE := k1 (by omega)
                    have y5 := (HST.out.below.cell (p := ⟨eb', _, none⟩) zE).trans (x1 X hXE)
                    rw [hD] at y5
                    have zE2 : eb' < wl.heap.size := by have := HST.out.below.size; omega
                    obtain ⟨hul, huok⟩ := HALG.out.steps HSTEPS.out
                    have hcell : ∀ j, j < n → wl.cell? ⟨vb, j, none⟩ = some (.int .i64 (nth u j)) := fun j hj => by
                      have := HST.out.v.cellAt j 0 (by rw [hul]; exact hj) (by decide)
                      rw [show j * intE.sz + 0 = j by show j * 1 + 0 = j; omega] at this
                      exact this
                    have y6 := hcell D hDn
                    have y7 := hcell A hAn
                    have zv : vb < wl.heap.size := (HST.out.v.lt _ rfl).2
                    obtain ⟨zd, hzd⟩ : ∃ z, nth u D = z := ⟨_, rfl⟩
                    obtain ⟨za, hza⟩ : ∃ z, nth u A = z := ⟨_, rfl⟩
                    have HZ := hid (And.intro hzd hza)
                    have HOKA := hid (show OkN za by rw [← hza]; exact HRN.out u HSTEPS.out A hAn)
                    have HUL := hid hul
                    rw [hzd] at y6
                    rw [hza] at y7
                    have HXE := hid hXE
                    clear hX hXin hXs hD ho1 ho2 ho3 erb y3 p1 x0 x1 x2 x3 k1 hul huok hzd hza b1 b2 b3 b4 hcell
                    go_wp2_with fail
                    refine Plan.wp_chain planSI26 wl.heap.size (by kernel_rfl) rfl (by kernel_rfl) (by kernel_rfl) ?_
                    repeat (first | (apply Plan.chain_skip rfl rfl; simp only [Act.put, List.setIfInBounds_toArray, List.set_cons_zero, List.set_cons_succ]) | (apply Plan.chain_det rfl rfl; (· intro w' hb; obtain ⟨hcl, hfz⟩ := bcellB hb; go_simp; rfl); simp only [Act.put, List.setIfInBounds_toArray, List.set_cons_zero, List.set_cons_succ]))
                    refine Plan.chain_call T #[.int .i64 (X : Nat), .int .i64 za] (fun v w' => v = .int .i64 (tr X za) ∧ Below wl.heap.size wl w') rfl rfl rfl (by go_simp; exact HTF.out _ _) ?_ (fun v w' h => h.2) (fun vt wt h => ?_)
                    · have hd := (Below.refl wl.heap.size wl).drew
                      refine (HT.out X za wl.drew HXE.out HOKA.out).mono ?_
                      rintro en w'' ⟨rfl, hb⟩
                      exact ⟨_, rfl, rfl, bvia hd hb⟩
                    obtain ⟨rfl, hbt⟩ := h
                    have HBT := hid hbt
                    clear hbt
                    repeat (first | (apply Plan.chain_skip rfl rfl; simp only [Act.put, List.setIfInBounds_toArray, List.set_cons_zero, List.set_cons_succ]) | (apply Plan.chain_det rfl rfl; (· intro w' hb; obtain ⟨hcl, hfz⟩ := bcellB hb; go_simp; rfl); simp only [Act.put, List.setIfInBounds_toArray, List.set_cons_zero, List.set_cons_succ]))
                    refine Plan.chain_call J #[.int .i64 zd, .int .i64 (tr X za)] (fun v w' => v = .int .i64 (join zd (tr X za)) ∧ Below wl.heap.size wl w') rfl rfl rfl (by go_simp; exact HJF.out _ _) ?_ (fun v w' h => h.2) (fun vj wn h => ?_)
                    · refine (HJ.out zd (tr X za) wt).mono ?_
                      rintro en w'' ⟨rfl, hb⟩
                      exact ⟨_, rfl, rfl, bvia HBT.out hb⟩
                    obtain ⟨rfl, hb⟩ := h
                    have HBN := hid hb
                    clear hb
                    repeat (first | (apply Plan.chain_skip rfl rfl; simp only [Act.put, List.setIfInBounds_toArray, List.set_cons_zero, List.set_cons_succ]) | (apply Plan.chain_det rfl rfl; (· intro w' hb; obtain ⟨hcl, hfz⟩ := bcellB hb; go_simp; rfl); simp only [Act.put, List.setIfInBounds_toArray, List.set_cons_zero, List.set_cons_succ]))
                    refine Plan.chain_nil ?_
                    have HSTN := hid (HST.out.step HBN.out)
                    have y8 : wn.cell? ⟨vb, D, none⟩ = some (.int .i64 zd) := (HBN.out.cell (p := ⟨vb, D, none⟩) zv).trans y6
                    have zv8 : vb < wn.heap.size := Nat.lt_of_lt_of_le zv HBN.out.size
                    clear y4 y5 y6 y7
                    cases heq : decide (join zd (tr X za) = zd) with
                    | true =>
                      have HEQ := hid (of_decide_eq_true heq)
                      have HEQB := hid heq
                      clear heq
                      have hqf := HQF.out
                      go_wp2_with fail
                      clear hqf
                      refine (HQQ.out (join zd (tr X za)) zd _).mono ?_
                      rw [HEQB.out]
                      rintro en w9 ⟨rfl, hb9⟩
                      have HST9 := hid (HSTN.out.step hb9)
                      clear hb9
                      go_wp2_with fail
                      go_roundw
                      case rel =>
                        refine ⟨u, l, lm, c, q + 1, by omega, by go_num, HST9.out, HSTEPS.out, HCB.out.stay (HXX.out).1 ?_, HRNG.out, HSUB.out, HGK.out, HC.out⟩
                        unfold Sat
                        rw [(HXX.out).2.2, HD.out, Int.toNat_natCast, Int.toNat_natCast, (HZ.out).1, (HZ.out).2]
                        exact HEQ.out
                      case measure => simp [intOf] <;> omega
                    | false =>
                      have HNE := hid (of_decide_eq_false heq)
                      have HEQB := hid heq
                      have HD64 := hid (show I64 (D : Int) by unfold I64; omega)
                      have HUS := hid (show Steps n E join tr s0 (u.set D (join zd (tr X za))) ∧ μ (u.set D (join zd (tr X za))) < μ u by
                        have hxx := HXX.out
                        have e1 : (nth E X).dst.toNat = D := by rw [HD.out, Int.toNat_natCast]
                        have e2 : (nth E X).src.toNat = A := by rw [hxx.2.2, Int.toNat_natCast]
                        have h1 := Steps.step (join := join) (tr := tr) X HSTEPS.out HXE.out hxx.2.1
                        have h2 := HALG.out.drop u X HSTEPS.out HXE.out hxx.2.1 (by unfold Sat; rw [e1, e2, (HZ.out).1, (HZ.out).2]; exact HNE.out)
                        rw [e1, e2, (HZ.out).1, (HZ.out).2] at h1 h2
                        exact ⟨h1, h2⟩)
                      have HCH := hid (show ∀ l2 : List Int, (∀ x, x ∈ l → x ∈ l2) → (D : Int) ∈ l2 → Cb n E join tr (u.set D (join zd (tr X za))) l2 A (q + 1) from fun l2 h1 h2 => by
                        have hxx := HXX.out
                        have e1 : (nth E X).dst.toNat = D := by rw [HD.out, Int.toNat_natCast]
                        have e2 : (nth E X).src.toNat = A := by rw [hxx.2.2, Int.toNat_natCast]
                        have h3 := HALG.out.change HSTEPS.out HCB.out hxx.1 HXE.out hxx.2.1 hxx.2.2 (by rw [HN.out]; exact hqN) h1 (by rw [HD.out]; exact h2)
                        rw [e1, e2, (HZ.out).1, (HZ.out).2] at h3
                        exact h3)
                      have hl5 : l.length + 1 ≤ 1000000000 := by have := HC.out; omega
                      have hc5 : c < maxLen := by have := HC.out; simp only [maxLen]; omega
                      have HL5 := hid hl5
                      have HC5 := hid hc5
                      have HVBW := hid zvb0
                      clear heq hl5 hc5
                      by_cases hw : (D : Int) ∈ lm
                      · have HWB := hid (decide_eq_true hw)
                        have HDL := hid (HSUB.out _ hw)
                        clear hw
                        have hqf := HQF.out
                        go_wp2_with fail
                        clear hqf
                        refine (HQQ.out (join zd (tr X za)) zd _).mono ?_
                        rw [HEQB.out]
                        rintro en w9 ⟨rfl, hb9⟩
                        have HST9 := hid (HSTN.out.step hb9)
                        have zv9 : vb < w9.heap.size := Nat.lt_of_lt_of_le zv8 hb9.size
                        have zf9 := HST9.out.v.frozenAt D
                        have y9 : w9.cell? ⟨vb, D, none⟩ = some (.int .i64 zd) := (hb9.cell (p := ⟨vb, D, none⟩) zv8).trans y8
                        have HSP := hid (HST9.out.put HVBW.out D (join zd (tr X za)) (by rw [HUL.out]; exact hDn))
                        clear hb9
                        go_wp2_with (first
                          | (at_lookup
                             refine wpList_lookup_b rfl _ _ 65 rfl Try.underlying65 rfl HSP.out.m (D : Int) rfl HD64.out ?_
                             rw [HWB.out]))
                        go_roundw
                        case rel => exact ⟨_, l, lm, c, q + 1, by omega, by go_num, HSP.out, (HUS.out).1, HCH.out l (fun _ h => h) HDL.out, HRNG.out, HSUB.out, by have := (HUS.out).2; have := HGK.out; omega, by have := (HUS.out).2; have := HC.out; omega⟩
                        case measure => simp [intOf] <;> omega
                      · have HWB := hid (decide_eq_false hw)
                        clear hw
                        have hqf := HQF.out
                        go_wp2_with fail
                        clear hqf
                        refine (HQQ.out (join zd (tr X za)) zd _).mono ?_
                        rw [HEQB.out]
                        rintro en w9 ⟨rfl, hb9⟩
                        have HST9 := hid (HSTN.out.step hb9)
                        have zv9 : vb < w9.heap.size := Nat.lt_of_lt_of_le zv8 hb9.size
                        have zf9 := HST9.out.v.frozenAt D
                        have y9 : w9.cell? ⟨vb, D, none⟩ = some (.int .i64 zd) := (hb9.cell (p := ⟨vb, D, none⟩) zv8).trans y8
                        have HSP := hid (HST9.out.put HVBW.out D (join zd (tr X za)) (by rw [HUL.out]; exact hDn))
                        clear hb9
                        go_wp2_with (first
                          | (at_lookup
                             refine wpList_lookup_b rfl _ _ 65 rfl Try.underlying65 rfl HSP.out.m (D : Int) rfl HD64.out ?_
                             rw [HWB.out])
                          | (at_mapUpdate
                             refine wpList_update_b rfl _ _ _ 65 rfl Try.underlying65 rfl HSP.out.m HC5.out (D : Int) rfl rfl HD64.out ?_
                             intro wm hm hg
                             have HSTM := hid (HSP.out.map HMB.out zmb hg hm)
                             clear hm hg)
                          | (at_builtin
                             refine wpList_append_q rfl _ _ 34 rfl wo.heap.size 3 Try.underlying34 infoI42 l (HSTM.out.step ((Below.refl _ _).alloc (Nat.le_refl _) _)).q (D : Int) _ _ rfl (Go.cell_one_new _ _ _) HL5.out (by have := HSTM.out.size; simp; omega) ?_
                             intro v9 w9 hq9 hg9 hl9
                             have HSTQ := hid (HSTM.out.queue HMB.out HW4.out ((Below.refl _ _).alloc (Nat.le_refl _) _) hg9 hq9)
                             clear hq9 hg9 hl9))
                        go_roundw
                        case rel =>
                          refine ⟨_, l ++ [(D : Int)], (D : Int) :: lm, c + 1, q + 1, by omega, by go_num, HSTQ.out, (HUS.out).1, HCH.out _ (fun x hx => by simp [hx]) (by simp), fun x hx => ?_, fun x hx => ?_, ?_, ?_⟩
                          · rcases List.mem_append.1 hx with h | h
                            · exact HRNG.out x h
                            · simp at h; subst h; omega
                          · rcases List.mem_cons.1 hx with h | h
                            · subst h; simp
                            · have := HSUB.out x h; simp [this]
                          · have := (HUS.out).2; have := HGK.out; simp; omega
                          · have := (HUS.out).2; have := HC.out; simp; omega
                        case measure => simp [intOf] <;> omega
                  · have HQ := hid (show q = N.length by omega)
                    go_wp2_with fail
                    go_roundg (2 * μ u + l.length + 1)
                    case measure => exact HGK.out
                    case rel =>
                      refine ⟨u, l, lm, c, HST.out, HSTEPS.out, ?_, HRNG.out, HSUB.out, by omega, HC.out⟩
                      have := HCB.out
                      rw [HQ.out, ← HN.out] at this
                      exact this.end

end Go.Proofs.Ytnbffkcnhphdnaa
