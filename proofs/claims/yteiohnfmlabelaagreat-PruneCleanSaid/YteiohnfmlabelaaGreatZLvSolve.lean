/-
  Package live's solution: the sets before and after each instruction, as bits.
-/
import Derived.Deep.OwnRows
import Derived.Test.YteiohnfmlabelaaGreatZRegion
import Derived.Test.YteiohnfmlabelaaGreatZOwnP
import Derived.Test.YteiohnfmlabelaaGreatZPrClone
import Derived.Test.YteiohnfmlabelaaGreatZRNext
import Derived.Test.YteiohnfmlabelaaGreatZAft14
namespace Go.Proofs.YteiohnfmlabelaaGreat
set_option linter.unusedVariables false
set_option linter.unusedSimpArgs false
open Go.RowKit

/-- A set as a value. -/
def setV (l : List Int) : Value := .int .u64 (numS l)
theorem infoSet : (Tryz.prog.info? 84).map (fun i => (i.zero, i.size, i.bytes)) = some (some (.int .u64 0), 1, 8) := by kernel_rfl
theorem made_list (z : Value) (n : Nat) : (madeCells #[z] n).toList = List.replicate n z := by
  simp [madeCells, Nat.mod_one, List.map_const']

/-- A row that make has laid. -/
def madeF (B : Nat) (t : TypeId) (n : Nat) (vs : List Value) : FactT where
  q v := ∃ g, v = .slice (some ⟨g, 0, none⟩) n n
  ne := ⟨_, 0, rfl⟩
  p v F w := ∃ g, v = .slice (some ⟨g, 0, none⟩) n n ∧ BoxAt w g t vs ∧ B ≤ g ∧ ∀ k, F k ↔ k = g
  st v F w w' h hk := by
    obtain ⟨g, h1, h2, h4, h3⟩ := h
    exact ⟨g, h1, h2.ofBlock (hk g ((h3 g).2 rfl)), h4, h3⟩

namespace Plan
set_option linter.unusedVariables false
set_option linter.unusedSimpArgs false
variable {R : Plan} {P : Program} {Q : Exit → Act → World → Prop} {B : Nat} {w0 : World} {fs : List (Nat × FactT)} {i : Nat} {o : Oper} {l : List Oper} {a : Act} {vals : Nat → Value}
theorem runs_made (t : TypeId) (n : Nat) (cs : Array Value) (vs : List Value) (hk : R.kinds i = .new) (hw : Region.wanted o (yielded R.ops a.tmps) = true) (d : Tmp) (hd1 : o.dst = some d) (hd2 : Nat.ble (d + 1) a.tmps.size = true)
    (hrun : ∀ w, (execOp a.eval o).run P w = .ok (.value (.slice (some ⟨w.heap.size, 0, none⟩) n n)) (w.alloc (.cells cs t)))
    (hi : phi fs i = madeF B t n vs) (hc : cs.toList = vs) (hB : B ≤ w0.heap.size)
    (h : ∀ g, R.RunsF P Q B w0 fs (i + 1) l (a.put o.dst (.slice (some ⟨g, 0, none⟩) n n)) (put vals i (.slice (some ⟨g, 0, none⟩) n n))) : R.RunsF P Q B w0 fs i (o :: l) a vals := by
  refine runs_new hk hw d hd1 hd2 (fun F w h1 h2 K hK => ?_) (fun v hv => ?_)
  · unfold Oper.wp
    rw [hrun w]
    refine hK _ _ (fun k => k = w.heap.size) (by rw [hi]; exact ⟨_, rfl⟩) ((Below.refl _ _).alloc (Nat.le_refl _) _) ?_ (fun k hk => .inr (by subst hk; simp))
    rw [hi]
    exact ⟨_, rfl, BoxAt.new _ _ _ _ _ rfl hc, Nat.le_trans hB h1.size, fun k => Iff.rfl⟩
  · rw [hi] at hv
    obtain ⟨g, rfl⟩ := hv
    exact h g
theorem rest_made {t : TypeId} {n : Nat} {vs : List Value} {g : Nat} {F : Nat → Nat → Prop} {w : World} (h : R.Rest B (fun j => (phi fs j).p) vals F w) (c : Nat) (hc : phi fs c = madeF B t n vs) (hv : vals c = .slice (some ⟨g, 0, none⟩) n n) (hcd : c < R.ops.size) (hcn : (R.kinds c).isNew = true) (hcc : R.cons c = none) : BoxAt w g t vs ∧ B ≤ g ∧ F c g := by
  have hf := h.1 c hcd hcn hcc
  dsimp only at hf
  rw [hc, hv] at hf
  obtain ⟨g', h1, h2, h3, h4⟩ := hf
  simp at h1
  subst h1
  exact ⟨h2, h3, (h4 _).2 rfl⟩
end Plan

theorem box_cell {α : Type} [Inhabited α] {w : World} {g : Nat} {t : TypeId} {f : α → Value} {l : List α} (h : BoxAt w g t (l.map f)) (i : Nat) (hi : i < l.length) : w.cell? ⟨g, i, none⟩ = some (f (nth l i)) :=
  h.cell i _ (by rw [List.getElem?_map, List.getElem?_eq_getElem hi, nth_eq _ _ hi]; rfl)
theorem box_set {α : Type} {w : World} {g : Nat} {t : TypeId} {f : α → Value} {l : List α} (h : BoxAt w g t (l.map f)) (i : Nat) (x : α) : BoxAt (w.setCell ⟨g, i, none⟩ (f x)) g t ((l.set i x).map f) := by
  have := h.set i (f x)
  rw [← List.map_set] at this
  exact this

/-- The number of bits in a row of sets, counted in memory. -/
def bitsOf (m : BitVec 64) : Nat := (listB m 64).length
def bcount (w : World) (g n : Nat) : Nat := ((List.range n).map fun i => match w.cell? ⟨g, i, none⟩ with
  | some (.int .u64 x) => bitsOf (BitVec.ofInt 64 x)
  | _ => 0).sum
theorem bcount_eq {w : World} {g : Nat} {t : TypeId} {s : List (List Int)} (h : BoxAt w g t (s.map setV)) (hi : ∀ i, Inc (nth s i)) (hr : ∀ i r, r ∈ nth s i → 0 ≤ r ∧ r < 64) : bcount w g s.length = totalS s := by
  unfold bcount totalS
  congr 1
  refine List.ext_getElem (by simp) fun i h1 h2 => ?_
  have hil : i < s.length := by simpa using h1
  simp only [List.getElem_map, List.getElem_range]
  rw [box_cell h i hil]
  unfold setV numS
  simp only
  rw [ofIntB, bitsOf, listB_setB (hi i) (hr i), nth_eq _ _ hil]

noncomputable def planSv3 : Plan := mkPlan (regionOf Tryz.f68 3) [(1, .new), (3, .new)] []
noncomputable def planSv17 : Plan := mkPlan (regionOf Tryz.f68 17) [(3, .new), (4, .new), (9, .new), (10, .new)] []

theorem of_calls' (lo : Nat) (v : Value) (l : List Int) (w : World) (hl : IntsAt lo w v l) (hr : ∀ r ∈ l, 0 ≤ r ∧ r < 64) :
    Calls Tryz.prog 79 #[v] w fun e w' => e = .returned (.int .u64 (numS l)) ∧ Below w.heap.size w w' :=
  (of_calls lo v l w hl hr).mono fun e w' ⟨h1, h2⟩ => ⟨h1, by rw [h2]; exact Below.refl _ _⟩
def chV : Value → Nat
  | .bool true => 1
  | _ => 0

set_option maxRecDepth 100000 in
set_option maxHeartbeats 16000000 in
theorem solve_calls (lo : Nat) (vf vg vl : Value) (p : Prg) (F : Nat) (w : World) (hp : ProgAt lo w vf vg vl p) (hv : validB p = true) (hF : F < p.funcs.length) :
    Calls Tryz.prog 68 #[.agg #[vf, vg, vl, .int .i64 p.main], .int .i64 F] w fun e w' => ∃ (L : List (List Int)) (gb ga n : Nat), e = .returned (.tuple #[.slice (some ⟨gb, 0, none⟩) n n, .slice (some ⟨ga, 0, none⟩) n n]) ∧ n = (nth p.funcs F).code.length ∧ IsLive p F n L ∧
      BoxAt w' gb 84 (L.map setV) ∧ BoxAt w' ga 84 (((List.range n).map (afterL p F L)).map setV) ∧ w.heap.size ≤ gb ∧ w.heap.size ≤ ga ∧ Below w.heap.size w w' := by
  have HP := hid hp
  have HV := hid hv
  have HFL := hid hF
  have hfok := fok_of_funcB (valid_func hv F hF)
  have hpos := hfok.pos
  have hle := hfok.le
  have HJ := hid hfok.jok
  have HRG := hid (fun_regs hv F hF)
  obtain ⟨fa, fc, fb, fo, S, rfl, p1, x0, x1, x2, x3, xi, k1, _, m1, n1⟩ := hp.funcs.open
  obtain ⟨ga, gc, _, _, rfl, hz2⟩ := hp.globs.open
  obtain ⟨la, lc, _, _, _, rfl, hz3⟩ := hp.lays.open
  have e1 := p1 (by omega)
  subst e1
  have z1 := k1 (by omega)
  have hF2 : (F : Int) < p.funcs.length := Int.ofNat_lt.2 hF
  have d0 := x0 F hF
  have d1 := x1 F hF
  have d2 := x2 F hF
  have d3 := x3 F hF
  have hcode := xi F hF
  obtain ⟨n, hn⟩ : ∃ n, (nth p.funcs F).code.length = n := ⟨_, rfl⟩
  have HN := hid hn
  have HC0 := hid (show CodeAt lo w (.slice (S F).a n (S F).c) (nth p.funcs F).code by rw [← hn]; exact hcode)
  obtain ⟨fname, hfn⟩ : ∃ q, (nth p.funcs F).name = q := ⟨_, rfl⟩
  obtain ⟨fpar, hfp⟩ : ∃ q, (nth p.funcs F).params = q := ⟨_, rfl⟩
  obtain ⟨freg, hfr⟩ : ∃ q, (nth p.funcs F).regs = q := ⟨_, rfl⟩
  rw [hn] at hpos hle d3
  rw [hfn] at d0
  rw [hfp] at d1
  rw [hfr] at d2
  have hmk := run_make_row' (P := Tryz.prog) 80 84 (.int .u64 0) 8 Tryz.underlying80 infoSet rfl .i64 .i64 n (by omega) (by omega)
  clear hp hv hfok hcode hn hfn hfp hfr p1 x0 x1 x2 x3 xi k1 hz2 hz3
  go_enter Tryz.func68, Tryz.ntmps68
  go_wp2_with fail
  generalize hW : World.alloc _ _ = W
  have hbW : Below w.heap.size w W := by rw [← hW]; exact ((Below.refl _ _).alloc (Nat.le_refl _) _).alloc (by simp) _
  have RP := hid (show BoxAt W w.heap.size 26 [.slice (some ⟨fb, fo, none⟩) p.funcs.length fc, .slice ga p.globals.length gc, .slice la p.layouts.length lc, .int .i64 p.main] by rw [← hW]; exact (BoxAt.new w _ _ _ _ rfl rfl).alloc _)
  have RF := hid (show BoxAt W (w.heap.size + 1) 33 [.string fname, .int .i64 fpar, .int .i64 freg, .slice (S F).a n (S F).c] by rw [← hW]; exact BoxAt.new _ _ _ _ _ (by simp) rfl)
  have HBW := hid hbW
  clear hW hbW d0 d1 d2 d3 z1
  refine Plan.wp_facts (B := W.heap.size) planSv3 [(1, madeF W.heap.size 84 n (List.replicate n (setV []))), (3, madeF W.heap.size 84 n (List.replicate n (setV [])))] (by kernel_rfl) rfl (by kernel_rfl) (by kernel_rfl) (Nat.le_refl _) ?_
  repeat (first | (apply Plan.runs_skip rfl rfl; simp only [Act.put, List.setIfInBounds_toArray, List.set_cons_zero, List.set_cons_succ]) | (apply Plan.runs_det rfl rfl; (· intro F w' hb hf; obtain ⟨hcl, hfz⟩ := bcell hb; go_simp; rfl); simp only [Act.put, List.setIfInBounds_toArray, List.set_cons_zero, List.set_cons_succ]))
  refine Plan.runs_made 84 n (madeCells #[.int .u64 0] n) (List.replicate n (setV [])) rfl rfl _ rfl rfl (fun w' => by go_simp) rfl (by rw [made_list]; rfl) (Nat.le_refl _) (fun gb => ?_)
  simp only [Act.put, List.setIfInBounds_toArray, List.set_cons_zero, List.set_cons_succ]
  repeat (first | (apply Plan.runs_skip rfl rfl; simp only [Act.put, List.setIfInBounds_toArray, List.set_cons_zero, List.set_cons_succ]) | (apply Plan.runs_det rfl rfl; (· intro F w' hb hf; obtain ⟨hcl, hfz⟩ := bcell hb; go_simp; rfl); simp only [Act.put, List.setIfInBounds_toArray, List.set_cons_zero, List.set_cons_succ]))
  refine Plan.runs_made 84 n (madeCells #[.int .u64 0] n) (List.replicate n (setV [])) rfl rfl _ rfl rfl (fun w' => by go_simp) rfl (by rw [made_list]; rfl) (Nat.le_refl _) (fun ga' => ?_)
  simp only [Act.put, List.setIfInBounds_toArray, List.set_cons_zero, List.set_cons_succ]
  repeat (first | (apply Plan.runs_skip rfl rfl; simp only [Act.put, List.setIfInBounds_toArray, List.set_cons_zero, List.set_cons_succ]) | (apply Plan.runs_det rfl rfl; (· intro F w' hb hf; obtain ⟨hcl, hfz⟩ := bcell hb; go_simp; rfl); simp only [Act.put, List.setIfInBounds_toArray, List.set_cons_zero, List.set_cons_succ]))
  refine Plan.runs_nil (fun FT W3 hb hf => ?_)
  obtain ⟨hbb, hgb, hfb⟩ := Plan.rest_made (g := gb) hf 1 rfl rfl (by decide) rfl rfl
  obtain ⟨hba, hga, hfa⟩ := Plan.rest_made (g := ga') hf 3 rfl rfl (by decide) rfl rfl
  have hne : gb ≠ ga' := fun e => by
    have := hf.2 1 3 (by decide) (by decide) rfl rfl rfl rfl (by decide) gb hfb (by rw [e]; exact hfa)
    omega
  rw [← List.map_replicate] at hbb hba
  have HBB := hid hbb
  have HBA := hid hba
  have HB3 := hid hb
  clear hbb hba hf hb hfb hfa hmk
  go_wp2_with fail
  go_loopw [8] (fun ch wr => ∃ (s t : List (List Int)) (b : Bool), ch = .bool b ∧ (∃ k, s = iterL p F n k) ∧ TOk p F n s t ∧ (b = false → passL p F n s = s ∧ ∀ i, i < n → nth t i = afterL p F s i) ∧ BoxAt wr gb 84 (s.map setV) ∧ BoxAt wr ga' 84 (t.map setV) ∧ Below W.heap.size W wr) (fun ch wr => 2 * (128 * n - (bcount wr gb n + bcount wr ga' n)) + chV ch)
  case atStart => exact ⟨List.replicate n [], List.replicate n [], true, rfl, ⟨0, rfl⟩, TOk.start p F n _, (fun h => by cases h), HBB.out, HBA.out, HB3.out⟩
  case round =>
    obtain ⟨s0, t0, b0, rfl, hit, htok, hfix, hb1, hb2, hbl⟩ := hrel
    obtain ⟨wo, hwo⟩ : ∃ wo, wo = wr := ⟨_, rfl⟩
    subst hwo
    have HIT := hid hit
    have HT0 := hid htok
    have HS0 := hid (show Fine p F n s0 by obtain ⟨k, rfl⟩ := HIT.out; exact Fine.iter HV.out HFL.out k)
    have HFIX := hid hfix
    have HB1 := hid hb1
    have HB2 := hid hb2
    have HBL := hid hbl
    have HM0 := hid (show bcount wo gb n + bcount wo ga' n = totalS s0 + totalS t0 by
      have h1 := bcount_eq hb1 HS0.out.inc HS0.out.reg
      have h2 := bcount_eq hb2 htok.inc htok.reg
      rw [HS0.out.len] at h1
      rw [htok.len] at h2
      rw [h1, h2])
    clear hit htok hfix hb1 hb2 hbl
    cases b0 with
    | false =>
      go_wp2_with fail
      refine bodyPost_ret (v := .tuple #[.slice (some ⟨gb, 0, none⟩) n n, .slice (some ⟨ga', 0, none⟩) n n]) (by simp [results, Tryz.results68, go_sem]) rfl ⟨s0, gb, ga', n, rfl, HN.out.symm, ⟨HIT.out, (HFIX.out (by simp)).1⟩, HB1.out, ?_, Nat.le_trans HBW.out.size hgb, Nat.le_trans HBW.out.size hga, bvia HBW.out HBL.out⟩
      have he : (List.range n).map (afterL p F s0) = t0 := by
        refine List.ext_getElem (by simp [HT0.out.len]) fun i h1 h2 => ?_
        have hi : i < n := by simpa using h1
        simp only [List.getElem_map, List.getElem_range]
        rw [← (HFIX.out (by simp)).2 i hi, nth_eq _ _ h2]
      rw [← List.map_map, he]
      exact HB2.out
    | true =>
      have RF3 := RF.out.below HBL.out
      have RP3 := RP.out.below HBL.out
      clear RF3 RP3
      go_wp2_with fail
      go_loopw [8, 9] (fun ch i wr => ∃ (s t : List (List Int)) (b : Bool) (d : Nat), ch = .bool b ∧ d ≤ n ∧ i = .int .i64 ((n : Int) - 1 - d) ∧ s = stepsL p F n s0 d ∧ TOk p F n s t ∧ (b = false → s = s0 ∧ t = t0 ∧ ∀ i, i < n → n - d ≤ i → nth t i = afterL p F s i) ∧ (b = true → totalS s0 + totalS t0 < totalS s + totalS t) ∧ BoxAt wr gb 84 (s.map setV) ∧ BoxAt wr ga' 84 (t.map setV) ∧ Below W.heap.size W wr) (fun _ i _ => (intOf i + 1).toNat)
      case atStart => exact ⟨s0, t0, false, 0, rfl, Nat.zero_le _, by simp, rfl, HT0.out, fun _ => ⟨rfl, rfl, fun i h1 h2 => by omega⟩, (fun h => by cases h), HB1.out, HB2.out, HBL.out⟩
      case round =>
        obtain ⟨s, t, b, d, rfl, hd, rfl, hs, htk, hfalse, htrue, hb1, hb2, hbl⟩ := hrel
        obtain ⟨wi, hwi⟩ : ∃ wi, wi = wr := ⟨_, rfl⟩
        subst hwi
        have HSE := hid hs
        have HFS := hid (show Fine p F n s by rw [hs]; exact (Fine.steps HV.out HFL.out HS0.out d hd).1)
        have HTK := hid htk
        have HFA := hid hfalse
        have HTR := hid htrue
        have HBB := hid hb1
        have HBA := hid hb2
        have HBI := hid hbl
        clear hs htk hfalse htrue hb1 hb2 hbl
        by_cases hdn : d < n
        · obtain ⟨K, hK⟩ : ∃ K : Nat, K = n - 1 - d := ⟨_, rfl⟩
          have hKi : (n : Int) - 1 - d = (K : Int) := by omega
          have hKn : K < n := by omega
          have hKn2 : (K : Int) < n := by omega
          rw [hKi]
          have HK := hid hK
          clear hK hKi
          have hrf := RF.out.below HBI.out
          have c0 := hrf.cell 0 _ rfl
          have c1 := hrf.cell 1 _ rfl
          have c2 := hrf.cell 2 _ rfl
          have c3 := hrf.cell 3 _ rfl
          have c7 := hrf.lt
          clear hrf
          go_wp2_with fail
          refine (next_calls lo fname fpar freg _ (nth p.funcs F).code K wi (HC0.out.below (bvia HBW.out HBI.out))).mono ?_
          rintro e w5 ⟨v5, rfl, hi5, hb5⟩
          have HB5 := hid (bvia HBI.out hb5)
          have HBB5 := hid (HBB.out.below hb5)
          have HBA5 := hid (HBA.out.below hb5)
          obtain ⟨a5, c5, b5, o5, rfl, q1, q2, q3, _, q4, q5, q6⟩ := hi5.open
          have HQ := hid (And.intro q1 (And.intro q2 q3))
          have HNX := hid (show ∀ x ∈ nextL (nth p.funcs F).code K, 0 ≤ x ∧ x < n by have := HJ.out.nx K (by rw [HN.out]; exact hKn); rw [HN.out] at this; exact this)
          obtain ⟨N, hNe⟩ : ∃ N, nextL (nth p.funcs F).code K = N := ⟨_, rfl⟩
          rw [hNe] at HNX HQ q6
          have HNE := hid hNe
          rw [hNe]
          clear hb5 hi5 q1 q2 q3 q4 q5 c0 c1 c2 c3 c7 hNe
          go_wp2_with fail
          go_loop [10, 37] (fun o i => ∃ m : Nat, m ≤ N.length ∧ i = .int .i64 m ∧ o = .int .u64 (numS (outL s (N.take m)))) (fun _ i => N.length - (intOf i).toNat)
          case atStart => exact ⟨0, Nat.zero_le _, rfl, rfl⟩
          case round =>
            obtain ⟨m, hm, rfl, rfl⟩ := hrel
            by_cases hml : m < N.length
            · have hml2 : (m : Int) < N.length := by omega
              obtain ⟨q1, q2, q3⟩ := HQ.out
              have e3 := q1 (by omega)
              subst e3
              have b1 := q3 (by omega)
              have d0 := q2 m hml
              have hx1 := HNX.out _ (nth_mem N m hml)
              obtain ⟨X, hX⟩ := Int.eq_ofNat_of_zero_le hx1.1
              have HSN := hid (outL_snoc s N m hml)
              rw [hX] at d0 hx1 HSN
              rw [Int.toNat_natCast] at HSN
              have hXn : X < n := by omega
              have hXn2 : (X : Int) < n := by omega
              have d1 : w5.cell? ⟨gb, X, none⟩ = some (.int .u64 (numS (nth s X))) := box_cell HBB5.out X (by rw [HFS.out.len]; exact hXn)
              have b2 := HBB5.out.lt
              have t1 : decide ((X : Int) < n) = true := by simp; omega
              have t2 : decide (X < n) = true := by simp; omega
              have HOR := hid (show bits .or .u64 (numS (outL s (N.take m))) (numS (nth s X)) = numS (outL s (N.take (m + 1))) from
                numS_or (outL_reg HFS.out.reg _) (outL_reg HFS.out.reg _) (HFS.out.reg X) (fun r => by rw [HSN.out, List.mem_append]))
              clear q1 q2 q3 hx1 hX
              go_wp2_with fail
              go_round
              case rel => exact ⟨m + 1, by omega, by go_num, by rw [← HOR.out]⟩
              case measure => simp [intOf] <;> omega
            · have HOUT := hid (show numS (outL s (N.take m)) = numS (afterL p F s K) by
                rw [List.take_of_length_le (by omega)]
                refine numS_ext (outL_reg HFS.out.reg _) (after_reg HV.out HFL.out HFS.out.reg K) fun r => ?_
                unfold afterL outL
                rw [setL_mem, HNE.out])
              rw [HOUT.out]
              have hrp := RP.out.below HB5.out
              have c0 := hrp.cell 0 _ rfl
              have c1 := hrp.cell 1 _ rfl
              have c2 := hrp.cell 2 _ rfl
              have c3 := hrp.cell 3 _ rfl
              have c7 := hrp.lt
              have HP5 := hid (HP.out.below (bvia HBW.out HB5.out))
              have hur : ∀ r ∈ usesC p F K, 0 ≤ r ∧ r < 64 := fun r hr => by have h1 := uses_in HV.out F K HFL.out r hr; have := HRG.out; omega
              have hdr : ∀ r ∈ defsC p F K, 0 ≤ r ∧ r < 64 := fun r hr => by have h1 := defs_in HV.out F K HFL.out r hr; have := HRG.out; omega
              have HUR := hid hur
              have HDR := hid hdr
              clear hrp hur hdr
              go_wp2_with fail
              refine Plan.wp_facts (B := w5.heap.size) planSv17 [(3, slF intE w5.heap.size (usesC p F K)), (4, valF (.int .u64 (numS (usesC p F K)))), (9, slF intE w5.heap.size (defsC p F K)), (10, valF (.int .u64 (numS (defsC p F K))))] (by kernel_rfl) rfl (by kernel_rfl) (by kernel_rfl) (Nat.le_refl _) ?_
              repeat (first | (apply Plan.runs_skip rfl rfl; simp only [Act.put, List.setIfInBounds_toArray, List.set_cons_zero, List.set_cons_succ]) | (apply Plan.runs_det rfl rfl; (· intro F w' hb hf; obtain ⟨hcl, hfz⟩ := bcell hb; go_simp; rfl); simp only [Act.put, List.setIfInBounds_toArray, List.set_cons_zero, List.set_cons_succ]))
              refine Plan.runs_call_sl intE w5.heap.size (usesC p F K) 80 #[.agg #[.slice (some ⟨fb, fo, none⟩) p.funcs.length fc, .slice ga p.globals.length gc, .slice la p.layouts.length lc, .int .i64 p.main], .int .i64 F, .int .i64 K] rfl rfl _ rfl rfl (fun F' w' hb hf => by obtain ⟨hcl, hfz⟩ := bcell hb; go_simp) rfl (fun F' w' hb hf => ?_) (fun v54 => ?_)
              · refine (uses_calls lo _ _ _ p F K w' (HP5.out.below hb) HV.out).mono ?_
                rintro e w'' ⟨v', rfl, hk, hb'⟩
                have hs := hb.size
                exact ⟨v', rfl, hk.mono hs, hb', fun k h0 h1 => .inr (hk.blk h0 k h1).1⟩
              simp only [Act.put, List.setIfInBounds_toArray, List.set_cons_zero, List.set_cons_succ]
              repeat (first | (apply Plan.runs_skip rfl rfl; simp only [Act.put, List.setIfInBounds_toArray, List.set_cons_zero, List.set_cons_succ]) | (apply Plan.runs_det rfl rfl; (· intro F w' hb hf; obtain ⟨hcl, hfz⟩ := bcell hb; go_simp; rfl); simp only [Act.put, List.setIfInBounds_toArray, List.set_cons_zero, List.set_cons_succ]))
              refine Plan.runs_call_val (.int .u64 (numS (usesC p F K))) 79 #[v54] rfl rfl _ rfl rfl (fun F' w' hb hf => by go_simp) rfl (fun F' w' hb hf => ?_) ?_
              · have h1 : SlE intE w5.heap.size w' v54 (usesC p F K) := Plan.facts_sl hf 3 rfl (by kernel_rfl) rfl (.inl rfl)
                exact of_calls' _ _ _ w' h1 HUR.out
              simp only [Act.put, List.setIfInBounds_toArray, List.set_cons_zero, List.set_cons_succ]
              repeat (first | (apply Plan.runs_skip rfl rfl; simp only [Act.put, List.setIfInBounds_toArray, List.set_cons_zero, List.set_cons_succ]) | (apply Plan.runs_det rfl rfl; (· intro F w' hb hf; obtain ⟨hcl, hfz⟩ := bcell hb; go_simp; rfl); simp only [Act.put, List.setIfInBounds_toArray, List.set_cons_zero, List.set_cons_succ]))
              refine Plan.runs_call_sl intE w5.heap.size (defsC p F K) 81 #[.agg #[.slice (some ⟨fb, fo, none⟩) p.funcs.length fc, .slice ga p.globals.length gc, .slice la p.layouts.length lc, .int .i64 p.main], .int .i64 F, .int .i64 K] rfl rfl _ rfl rfl (fun F' w' hb hf => by obtain ⟨hcl, hfz⟩ := bcell hb; go_simp) rfl (fun F' w' hb hf => ?_) (fun v60 => ?_)
              · refine (cdefs_calls lo _ _ _ p F K w' (HP5.out.below hb)).mono ?_
                rintro e w'' ⟨v', rfl, hk, hb'⟩
                have hs := hb.size
                exact ⟨v', rfl, hk.mono hs, hb', fun k h0 h1 => .inr (hk.blk h0 k h1).1⟩
              simp only [Act.put, List.setIfInBounds_toArray, List.set_cons_zero, List.set_cons_succ]
              repeat (first | (apply Plan.runs_skip rfl rfl; simp only [Act.put, List.setIfInBounds_toArray, List.set_cons_zero, List.set_cons_succ]) | (apply Plan.runs_det rfl rfl; (· intro F w' hb hf; obtain ⟨hcl, hfz⟩ := bcell hb; go_simp; rfl); simp only [Act.put, List.setIfInBounds_toArray, List.set_cons_zero, List.set_cons_succ]))
              refine Plan.runs_call_val (.int .u64 (numS (defsC p F K))) 79 #[v60] rfl rfl _ rfl rfl (fun F' w' hb hf => by go_simp) rfl (fun F' w' hb hf => ?_) ?_
              · have h1 : SlE intE w5.heap.size w' v60 (defsC p F K) := Plan.facts_sl hf 9 rfl (by kernel_rfl) rfl (.inl rfl)
                exact of_calls' _ _ _ w' h1 HDR.out
              simp only [Act.put, List.setIfInBounds_toArray, List.set_cons_zero, List.set_cons_succ]
              repeat (first | (apply Plan.runs_skip rfl rfl; simp only [Act.put, List.setIfInBounds_toArray, List.set_cons_zero, List.set_cons_succ]) | (apply Plan.runs_det rfl rfl; (· intro F w' hb hf; obtain ⟨hcl, hfz⟩ := bcell hb; go_simp; rfl); simp only [Act.put, List.setIfInBounds_toArray, List.set_cons_zero, List.set_cons_succ]))
              refine Plan.runs_nil (fun F' w6 hb hf => ?_)
              have HB6 := hid (bvia HB5.out hb)
              have HWB := hid (HBB5.out.below hb)
              have HWA := hid (And.intro hne (HBA5.out.below hb))
              clear hf hb c0 c1 c2 c3 c7
              have HIN := hid (show bits .or .u64 (numS (usesC p F K)) (bits .andNot .u64 (numS (afterL p F s K)) (numS (defsC p F K))) = numS (beforeL p F s K) by
                have har := after_reg HV.out HFL.out HFS.out.reg K
                have hfr : ∀ r ∈ (afterL p F s K).filter (fun r => !(defsC p F K).contains r), 0 ≤ r ∧ r < 64 := fun r hr => har r (List.mem_filter.1 hr).1
                rw [numS_diff hfr har HDR.out (fun r => by simp [List.mem_filter])]
                exact numS_or (before_reg HV.out HFL.out HFS.out.reg K) HUR.out hfr (fun r => by rw [before_mem]; simp [List.mem_filter]))
              rw [HIN.out]
              have d1 : w6.cell? ⟨gb, K, none⟩ = some (.int .u64 (numS (nth s K))) := box_cell HWB.out K (by rw [HFS.out.len]; exact hKn)
              have d2 : w6.cell? ⟨ga', K, none⟩ = some (.int .u64 (numS (nth t K))) := box_cell HWA.out.2 K (by rw [HTK.out.len]; exact hKn)
              have z1 := HWB.out.frozen K
              have z2 := HWA.out.2.frozen K
              have z3 := HWB.out.lt
              have z4 := HWA.out.2.lt
              obtain ⟨hs1, hs2, hs3⟩ := TOk.step HV.out HFL.out HFS.out HTK.out K hKn
              have HST2 := hid hs2
              have i1 : numS (beforeL p F s K) = numS (nth s K) ↔ beforeL p F s K = nth s K := numS_eq (setL_inc _ : Inc (beforeL p F s K)) (HFS.out.inc K) (before_reg HV.out HFL.out HFS.out.reg K) (HFS.out.reg K)
              have i2 : numS (afterL p F s K) = numS (nth t K) ↔ afterL p F s K = nth t K := numS_eq (setL_inc _ : Inc (afterL p F s K)) (HTK.out.inc K) (after_reg HV.out HFL.out HFS.out.reg K) (HTK.out.reg K)
              clear hs1 hs2
              rcases hs3 with ⟨e1, e2, e3, e4⟩ | ⟨hor, hlt3⟩
              · have g1 : (numS (beforeL p F s K) != numS (nth s K)) = false := by simp [i1.2 e1.symm]
                have g2 : (numS (afterL p F s K) != numS (nth t K)) = false := by simp [i2.2 e2.symm]
                have HE := hid (And.intro e2 e3)
                clear i1 i2 e1 e2 e3 e4
                go_wp2_with fail
                go_roundw
                case rel => exact ⟨s, t, b, d + 1, rfl, by omega, by have := HK.out; congr 1; omega, by rw [stepsL, ← HSE.out, ← HK.out]; exact HE.out.2.symm, HTK.out, fun h => ⟨(HFA.out h).1, (HFA.out h).2.1, fun i h1 h2 => by
                  by_cases e : i = K
                  · rw [e]; exact HE.out.1
                  · exact (HFA.out h).2.2 i h1 (by have := HK.out; omega)⟩, HTR.out, HWB.out, HWA.out.2, HB6.out⟩
                case measure => simp [intOf] <;> omega
              · have HLT := hid (show totalS s0 + totalS t0 < totalS (passAt p F s K) + totalS (t.set K (afterL p F s K)) by
                  cases b with
                  | true => have := HTR.out rfl; omega
                  | false => obtain ⟨h1, h2, _⟩ := HFA.out rfl; rw [h1, h2] at hlt3 ⊢; exact hlt3)
                clear hlt3
                by_cases e1 : nth s K = beforeL p F s K
                · have e2 : nth t K ≠ afterL p F s K := hor.resolve_left (fun h => h e1)
                  have g1 : (numS (beforeL p F s K) != numS (nth s K)) = false := by simp [i1.2 e1.symm]
                  have g2 : (numS (afterL p F s K) != numS (nth t K)) = true := by simp; exact fun h => e2 (i2.1 h).symm
                  clear i1 i2 hor e1 e2
                  go_wp2_with fail
                  have hz := HWA.out.1
                  have hx1 := box_set HWB.out K (beforeL p F s K)
                  have hx2 := (HWA.out.2).other ⟨gb, K, none⟩ (setV (beforeL p F s K)) (by show ga' ≠ gb; omega)
                  have hx3 := box_set hx2 K (afterL p F s K)
                  have hx4 := hx1.other ⟨ga', K, none⟩ (setV (afterL p F s K)) (by show gb ≠ ga'; omega)
                  have hx5 : Below W.heap.size W _ := (HB6.out.setCell (show W.heap.size ≤ (⟨gb, K, none⟩ : Addr).block from hgb) (setV (beforeL p F s K))).setCell (show W.heap.size ≤ (⟨ga', K, none⟩ : Addr).block from hga) (setV (afterL p F s K))
                  go_roundw
                  case rel => exact ⟨passAt p F s K, t.set K (afterL p F s K), true, d + 1, rfl, by omega, by have := HK.out; congr 1; omega, by rw [stepsL, ← HSE.out, ← HK.out], HST2.out, (fun h => by cases h), fun _ => HLT.out, hx4, hx3, hx5⟩
                  case measure => simp [intOf] <;> omega
                · have g1 : (numS (beforeL p F s K) != numS (nth s K)) = true := by simp; exact fun h => e1 (i1.1 h).symm
                  clear i1 i2 hor e1
                  go_wp2_with fail
                  have hz := HWA.out.1
                  have hx1 := box_set HWB.out K (beforeL p F s K)
                  have hx2 := (HWA.out.2).other ⟨gb, K, none⟩ (setV (beforeL p F s K)) (by show ga' ≠ gb; omega)
                  have hx3 := box_set hx2 K (afterL p F s K)
                  have hx4 := hx1.other ⟨ga', K, none⟩ (setV (afterL p F s K)) (by show gb ≠ ga'; omega)
                  have hx5 : Below W.heap.size W _ := (HB6.out.setCell (show W.heap.size ≤ (⟨gb, K, none⟩ : Addr).block from hgb) (setV (beforeL p F s K))).setCell (show W.heap.size ≤ (⟨ga', K, none⟩ : Addr).block from hga) (setV (afterL p F s K))
                  go_roundw
                  case rel => exact ⟨passAt p F s K, t.set K (afterL p F s K), true, d + 1, rfl, by omega, by have := HK.out; congr 1; omega, by rw [stepsL, ← HSE.out, ← HK.out], HST2.out, (fun h => by cases h), fun _ => HLT.out, hx4, hx3, hx5⟩
                  case measure => simp [intOf] <;> omega
        · have hdn2 : d = n := by omega
          have HDN := hid hdn2
          have hti : ¬ (0 : Int) ≤ (n : Int) - 1 - d := by omega
          clear hdn2
          go_wp2_with fail
          have hcnt : bcount wi gb n + bcount wi ga' n = totalS s + totalS t := by
            have h1 := bcount_eq HBB.out HFS.out.inc HFS.out.reg
            have h2 := bcount_eq HBA.out HTK.out.inc HTK.out.reg
            rw [HFS.out.len] at h1
            rw [HTK.out.len] at h2
            rw [h1, h2]
          go_roundw
          case rel =>
            refine ⟨s, t, b, rfl, ?_, HTK.out, fun h => ?_, HBB.out, HBA.out, HBI.out⟩
            · obtain ⟨k, hk⟩ := HIT.out
              exact ⟨k + 1, by rw [HSE.out, HDN.out, iterL, ← hk]; rfl⟩
            · obtain ⟨h1, h2, h3⟩ := HFA.out h
              refine ⟨?_, fun i hi => h3 i hi (by have := HDN.out; omega)⟩
              have h4 := HSE.out
              rw [HDN.out, ← h1] at h4
              exact h4.symm
          case measure =>
            have h0 := HM0.out
            have h5 := HS0.out.total
            have h6 := HT0.out.total
            have h7 := HFS.out.total
            have h8 := HTK.out.total
            cases b with
            | true => have := HTR.out rfl; simp only [chV]; omega
            | false => obtain ⟨h1, h2, _⟩ := HFA.out rfl; rw [h1, h2] at hcnt; simp only [chV]; omega

end Go.Proofs.YteiohnfmlabelaaGreat
