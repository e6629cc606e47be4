import Derived.Test.YtiaajdckhedofaaBnd
import Derived.Test.YtiaajdckhedofaaRNext
namespace Go.Proofs.Ytiaajdckhedofaa
set_option linter.unusedVariables false
set_option linter.unusedSimpArgs false
open Go.RowKit

theorem infoBl : (Try.prog.info? 37).map (fun i => (i.zero, i.size, i.bytes)) = some (some (.agg #[.int .i64 0, .int .i64 0, .slice none 0 0]), bE.sz, 40) := by kernel_rfl

noncomputable def planB14 : Plan := mkPlan (regionOf Try.f13 14) [(8, .new), (9, .new)] []
noncomputable def planB18 : Plan := mkPlan (regionOf Try.f13 18) [(14, .new), (17, .fin)] []

set_option maxRecDepth 100000 in
set_option maxHeartbeats 10000000 in
theorem rblocks_calls (lo : Nat) (vc : Value) (nm : ByteArray) (pa re : Int) (l : List Ins) (w : World) (hc : CodeAt lo w vc l) (hj : Jok l) :
    Calls Try.prog 13 #[.agg #[.string nm, .int .i64 pa, .int .i64 re, vc]] w fun e w' => ∃ v', e = .returned v' ∧ BlksAt w.heap.size w' v' (blksL l) ∧ Below w.heap.size w w' := by
  have HC0 := hc
  obtain ⟨ca, cc, cb, co, rfl, cp, q0, q1, q2, q3, q4, cbl, _, _, _, cn⟩ := hc.open
  have hpos := hj.pos
  have hle := hj.le
  have e1 := cp (by omega)
  subst e1
  have hbl' := cbl (by omega)
  clear cp cbl cn
  have hmk : ∀ u : World, (Instr.makeSlice 35 (.int .i64 ((l.length : Int) + 1)) (.int .i64 ((l.length : Int) + 1))).run Try.prog u = .ok (.slice (some ⟨u.heap.size, 0, none⟩) (l.length + 1) (l.length + 1)) (u.alloc (.cells (madeCells #[.int .i64 0] (l.length + 1)) 3)) := fun u => run_make_row' (P := Try.prog) 35 3 (.int .i64 0) 8 Try.underlying35 infoI rfl .i64 .i64 (l.length + 1) (by omega) (by omega) u
  go_enter Try.func13, Try.ntmps13
  go_wp2_with fail
  have hB0 : Below w.heap.size w (w.alloc (.cells #[.string nm, .int .i64 pa, .int .i64 re, .slice (some ⟨cb, co, none⟩) l.length cc] 29)) := (Below.refl _ _).alloc (Nat.le_refl _) _
  refine (leaders_calls lo _ nm pa re l _ (hc.below hB0) hj).mono ?_
  rintro e w1 ⟨g1, n1, rfl, rfl, hg1, hrow1, hb1⟩
  have n3 : w1.cell? ⟨w.heap.size, 3, none⟩ = some (.slice (some ⟨cb, co, none⟩) l.length cc) := (hb1.cell (by simp)).trans (by simp)
  have n0 : w1.cell? ⟨w.heap.size, 0, none⟩ = some (.string nm) := (hb1.cell (by simp)).trans (by simp)
  have n1 : w1.cell? ⟨w.heap.size, 1, none⟩ = some (.int .i64 pa) := (hb1.cell (by simp)).trans (by simp)
  have n2 : w1.cell? ⟨w.heap.size, 2, none⟩ = some (.int .i64 re) := (hb1.cell (by simp)).trans (by simp)
  have HROW1 := hid hrow1
  have HB1 := hid (hB0.trans (hb1.mono (by simp)))
  have s1 : w.heap.size < w1.heap.size := by have := hb1.size; simp at this; omega
  have s2 : g1 < w1.heap.size := hrow1.lt
  have hg1' : w.heap.size + 1 ≤ g1 := by simpa using hg1
  clear hrow1 hb1 hg1
  go_wp2_with fail
  generalize hW1 : World.alloc _ _ = W1
  have hnum : W1.rowIs w1.heap.size 3 (l.length + 1) (fun j => .int .i64 (if j < 0 then (numOf l j : Int) else 0)) := by
    rw [← hW1]
    exact (World.rowIs_made w1 (.int .i64 0) (l.length + 1) 3).congr fun j hj => by simp
  have t1 : W1.heap.size = w1.heap.size + 1 := by rw [← hW1]; simp
  have t2 : Below w1.heap.size w1 W1 := by rw [← hW1]; exact (Below.refl _ _).alloc (Nat.le_refl _) _
  clear hW1 hmk
  go_loopw [4, 6] (fun v i wr => ∃ k : Nat, k ≤ l.length ∧ i = .int .i64 k ∧ OwnE bE W1.heap.size 37 wr v (bRows (bnd l k)) ∧ wr.rowIs w1.heap.size 3 (l.length + 1) (fun j => .int .i64 (if j < k then (numOf l j : Int) else 0)) ∧ Below w1.heap.size w1 wr ∧ W1.heap.size ≤ wr.heap.size) (fun _ i _ => l.length - (intOf i).toNat)
  case atStart => exact ⟨0, Nat.zero_le _, rfl, ⟨rfl, .inl ⟨rfl, rfl⟩⟩, hnum, t2, Nat.le_refl _⟩
  case round =>
    obtain ⟨k, hk, rfl, hown, hnk, hbl, hsz⟩ := hrel
    obtain ⟨va, vcap, hv⟩ := hown.anySlice
    subst hv
    rw [bRows_len] at hown ⊢
    have m3 := (hbl.cell (p := ⟨w.heap.size, 3, none⟩) s1).trans n3
    have HLEAD := hid (HROW1.out.below (hbl.mono (by omega)))
    have HOWN := hid hown
    have HN := hid hnk
    have HBL := hid hbl
    clear hown hnk hbl
    by_cases hkl : k < l.length
    · have c0 : _ := HLEAD.out.cell (i := k) (by rw [leadL_len]; omega)
      have r1 : g1 < wr.heap.size := by omega
      cases hld : lead l k with
      | true =>
        rw [show nth (leadL l) k = true from hld] at c0
        have hadd : (bnd l k).length ≤ 1000 := Nat.le_trans (bnd_le l k) (by omega)
        go_wp2_with (
          at_builtin
          refine wpList_append_one bE (o := ⟨some 32, _, _, _, _, _⟩) rfl (.tmp 28) (.tmp 31) 33 rfl W1.heap.size wr.heap.size 37 _ 40 Try.underlying33 infoBl rfl (bRows (bnd l k)) ((k : Int), 0, ⟨none, 0, 0⟩) (HOWN.out.alloc _) ((OwnE.lit bE wr wr.heap.size 37 [((k : Int), 0, ⟨none, 0, 0⟩)] _ wr.heap.size 1 rfl (Nat.le_refl _) rfl rfl (by simp)).sl (Nat.le_refl _) (by simp)) (by rw [bRows_len]; omega) (by rw [bRows_len]; simp only [maxLen]; omega) (by simp; omega) ?_
          intro g2 cap2 w2 ho2 hg2 hl2 hb2
          rw [bRows_len] at ho2 ⊢
          have hbl2 := (HBL.out.alloc (by omega) _).trans (hb2.mono (by omega))
          have hb3 := (Below.refl _ _).alloc (by omega) _ |>.trans hb2
          have hn2 := HN.out.of_block (hb3.block w1.heap.size (by omega))
          have HO2 := hid ho2
          have HN2 := hid hn2
          have HBL2 := hid hbl2
          have r2 : w1.heap.size < w2.heap.size := by (have := hb3.size; omega)
          have hne : ¬ g2 = w1.heap.size := by omega
          have hne' : ¬ w1.heap.size = g2 := by omega
          have c5 := hn2.cell (i := k) (by omega)
          have z5 := hn2.frozen k
          have c6 := ho2.cellAt (bnd l k).length 1 (by simp [bRows_len]) (by decide)
          have z6 := ho2.frozenAt ((bnd l k).length * 3 + 1)
          rw [show bE.sz = 3 from rfl] at c6
          clear ho2 hn2 hbl2 hb3 hb2)
        refine ⟨⟨k + 1, by omega, by go_num, ?_, ?_, (HBL2.out.setCell (Nat.le_refl _) _).setCell (by simp; omega) _, by simp; omega⟩, by simp [intOf]; omega⟩
        · rw [← bRows_true l k hld]
          exact (HO2.out.other ⟨w1.heap.size, k, none⟩ _ (fun q hq => by simp [Value.ownBlock] at hq; simp; omega)).put (bnd l k).length 1 _ _ (by simp [bRows_len]) (by decide) (by rw [nth_append_right' _ _ _ (by rw [bRows_len])]; rfl)
        · refine ((HN2.out.set k _).setOther hne' _).congr fun j hj => ?_
          have := len_true l k hld
          by_cases e : j = k
          · subst e; simp [numOf]; omega
          · have e2 : (j < k + 1) ↔ j < k := by omega
            simp only [if_neg e, e2]
      | false =>
        rw [show nth (leadL l) k = false from hld] at c0
        obtain ⟨M, hM⟩ : ∃ M, (bnd l k).length = M + 1 := by
          cases k with
          | zero => rw [lead_zero] at hld; cases hld
          | succ k => exact ⟨(bnd l (k + 1)).length - 1, by have := bnd_pos l k; omega⟩
        obtain ⟨g2, cap2, hv, hg2, hl2⟩ := HOWN.out.open (by rw [bRows_len]; omega)
        have hMl : M < 1000 := by have := bnd_le l k; omega
        rw [bRows_len, hM] at hv
        rw [hM] at HOWN ⊢
        obtain ⟨rfl, _, rfl⟩ := Value.slice.inj hv
        have hne : ¬ g2 = w1.heap.size := by omega
        have hne' : ¬ w1.heap.size = g2 := by omega
        have r2 : w1.heap.size < wr.heap.size := HN.out.lt
        have c5 := HN.out.cell (i := k) (by omega)
        have z5 := HN.out.frozen k
        have c6 := HOWN.out.cellAt M 1 (by rw [bRows_len]; omega) (by decide)
        have z6 := HOWN.out.frozenAt (M * 3 + 1)
        rw [show bE.sz = 3 from rfl] at c6
        clear hv
        go_wp2_with fail
        refine ⟨⟨k + 1, by omega, by go_num, ?_, ?_, (HBL.out.setCell (Nat.le_refl _) _).setCell (by simp; omega) _, by simp; omega⟩, by simp [intOf]; omega⟩
        · rw [← bRows_false l k M hld hM]
          exact (HOWN.out.other ⟨w1.heap.size, k, none⟩ _ (fun q hq => by simp [Value.ownBlock] at hq; simp; omega)).put M 1 _ _ (by rw [bRows_len]; omega) (by decide) (by rw [nth_bRows _ _ (by omega)]; rfl)
        · refine ((HN.out.set k _).setOther hne' _).congr fun j hj => ?_
          have := len_false l k hld
          by_cases e : j = k
          · subst e; simp [numOf]; omega
          · have e2 : (j < k + 1) ↔ j < k := by omega
            simp only [if_neg e, e2]
    · have hkk : k = l.length := by omega
      subst hkk
      obtain ⟨g2, cap2, hv, hg2, hl2⟩ := HOWN.out.open (by rw [bRows_len]; have := bnd_pos l (l.length - 1); rw [Nat.sub_add_cancel hpos] at this; exact this)
      rw [bRows_len] at hv
      obtain ⟨rfl, _, rfl⟩ := Value.slice.inj hv
      generalize hm : (bnd l l.length).length = m at *
      have hm0 : m ≤ 1000 := by have := bnd_le l l.length; omega
      have hmp : 0 < m := by have := bnd_pos l (l.length - 1); rw [Nat.sub_add_cancel hpos] at this; omega
      obtain ⟨ws, hws⟩ : ∃ ws, ws = wr := ⟨_, rfl⟩
      subst hws
      have hnw : ws.rowIs w1.heap.size 3 (l.length + 1) (fun j => .int .i64 (if j < l.length then (numOf l j : Int) else 0)) := HN.out
      have HBS := hid (HB1.out.trans (HBL.out.mono (by omega)))
      have HST : Hid (Stage l W1.heap.size ws.heap.size ws (.slice (some ⟨g2, 0, none⟩) m vcap) (bRows (bnd l l.length)) 0) := hid (Stage.start HOWN.out)
      have hst0 : 0 < m → (nth (bRows (bnd l l.length)) 0).2.2 = ⟨none, 0, 0⟩ := fun h => rows_nil l (by omega)
      have s3 : w.heap.size < ws.heap.size := by omega
      have r6 : w1.heap.size < ws.heap.size := by omega
      clear hv HLEAD HN HOWN hnum
      go_wp2_with fail
      go_loopw [7] (fun i wr => ∃ c rows, c ≤ m ∧ i = .int .i64 (c : Nat) ∧ Stage l W1.heap.size ws.heap.size wr (.slice (some ⟨g2, 0, none⟩) m vcap) rows c ∧ (c < m → (nth rows c).2.2 = ⟨none, 0, 0⟩) ∧ Below W1.heap.size ws wr) (fun i _ => m - (intOf i).toNat)
      case atStart => exact ⟨0, _, Nat.zero_le _, rfl, HST.out, hst0, Below.refl _ _⟩
      case round =>
        clear HST hst0
        obtain ⟨c, rows, hc, rfl, hst, hni, hbq⟩ := hrel
        obtain ⟨wo, hwo⟩ : ∃ wo, wo = wr := ⟨_, rfl⟩
        subst hwo
        have HST := hid hst
        have HBQ := hid hbq
        have hlen : rows.length = m := by rw [hst.len, hm]
        have k3 := (hbq.cell (p := ⟨w.heap.size, 3, none⟩) (by simp; omega)).trans m3
        have k0 := (hbq.cell (p := ⟨w.heap.size, 0, none⟩) (by simp; omega)).trans ((HBL.out.cell (p := ⟨w.heap.size, 0, none⟩) s1).trans n0)
        have k1 := (hbq.cell (p := ⟨w.heap.size, 1, none⟩) (by simp; omega)).trans ((HBL.out.cell (p := ⟨w.heap.size, 1, none⟩) s1).trans n1)
        have k2 := (hbq.cell (p := ⟨w.heap.size, 2, none⟩) (by simp; omega)).trans ((HBL.out.cell (p := ⟨w.heap.size, 2, none⟩) s1).trans n2)
        have r7 : w.heap.size < wo.heap.size := by have := hbq.size; omega
        have r8 : g2 < wo.heap.size := by have := hbq.size; omega
        by_cases hcm : c < m
        · have c1 := hst.own.cellAt c 1 (by omega) (by decide)
          rw [show bE.sz = 3 from rfl] at c1
          have hfr := hst.fr c (by omega)
          have hc1 : nth (bE.enc (nth rows c)) 1 = .int .i64 ((nth (bnd l l.length) c).2 : Nat) := by rw [← hfr.2]; rfl
          rw [hc1] at c1
          have hin := bnd_in l l.length c (by omega)
          obtain ⟨t, ht⟩ : ∃ t, (nth (bnd l l.length) c).2 = t + 1 := ⟨_, (Nat.succ_pred (by omega)).symm⟩
          have htl : t < l.length := by omega
          have hhl := headN_le l t
          rw [ht] at c1
          have hs1 : IntKind.i64.wrap (t : Int) = t := IntWalk.i64_in _ (by omega)
          clear hst hbq hc1 hin
          go_wp2_with fail
          refine Plan.wp_facts (B := wo.heap.size) planB14 [(8, valF (.int .i64 (headN l t : Nat))), (9, slF intE wo.heap.size (nextL l (headN l t)))] (by kernel_rfl) rfl (by kernel_rfl) (by kernel_rfl) (Nat.le_refl _) ?_
          repeat (first | (apply Plan.runs_skip rfl rfl; simp only [Act.put, List.setIfInBounds_toArray, List.set_cons_zero, List.set_cons_succ]) | (apply Plan.runs_det rfl rfl; (· intro F w' hb hf; obtain ⟨hcl, hfz⟩ := bcell hb; go_simp; rfl); simp only [Act.put, List.setIfInBounds_toArray, List.set_cons_zero, List.set_cons_succ]))
          refine Plan.runs_call_val (.int .i64 (headN l t : Nat)) 22 #[.agg #[.string nm, .int .i64 pa, .int .i64 re, .slice (some ⟨cb, co, none⟩) l.length cc], .int .i64 t] rfl rfl _ rfl rfl (fun F w' hb hf => by obtain ⟨hcl, hfz⟩ := bcell hb; go_simp) rfl (fun F w' hb hf => ?_) ?_
          · exact rhead_calls lo _ nm pa re l t w' (HC0.below (HBS.out.trans ((HBQ.out.mono (by omega)).trans (hb.mono (by omega))))) htl
          simp only [Act.put, List.setIfInBounds_toArray, List.set_cons_zero, List.set_cons_succ]
          repeat (first | (apply Plan.runs_skip rfl rfl; simp only [Act.put, List.setIfInBounds_toArray, List.set_cons_zero, List.set_cons_succ]) | (apply Plan.runs_det rfl rfl; (· intro F w' hb hf; obtain ⟨hcl, hfz⟩ := bcell hb; go_simp; rfl); simp only [Act.put, List.setIfInBounds_toArray, List.set_cons_zero, List.set_cons_succ]))
          refine Plan.runs_call_sl intE wo.heap.size (nextL l (headN l t)) 21 #[.agg #[.string nm, .int .i64 pa, .int .i64 re, .slice (some ⟨cb, co, none⟩) l.length cc], .int .i64 (headN l t : Nat)] rfl rfl _ rfl rfl (fun F w' hb hf => by obtain ⟨hcl, hfz⟩ := bcell hb; go_simp) rfl (fun F w' hb hf => ?_) (fun v62 => ?_)
          · refine (rnext_calls lo nm pa re _ l _ w' (HC0.below (HBS.out.trans ((HBQ.out.mono (by omega)).trans (hb.mono (by omega)))))).mono ?_
            rintro e w2 ⟨v, rfl, h1, h2⟩
            exact ⟨v, rfl, h1.mono hb.size, h2, fun k h0 hk => .inr (h1.blk h0 k hk).1⟩
          simp only [Act.put, List.setIfInBounds_toArray, List.set_cons_zero, List.set_cons_succ]
          repeat (apply Plan.runs_det rfl rfl; (· intro F w hb hf; go_simp; rfl); simp only [Act.put, List.setIfInBounds_toArray, List.set_cons_zero, List.set_cons_succ])
          refine Plan.runs_nil (fun F wn hb hf => ?_)
          have hres : IntsAt wo.heap.size wn v62 (nextL l (headN l t)) := Plan.rest_sl hf 9 rfl (by decide) rfl rfl
          have HR := hid hres
          have HBN := hid hb
          clear hf hb hres
          generalize hN : nextL l (headN l t) = N at *
          have hNl : N.length ≤ 2 := by rw [← hN]; exact nextL_len l _
          have hNx : ∀ x ∈ N, 0 ≤ x ∧ x < l.length := by rw [← hN]; exact hj.nx _ (by omega)
          have hnums : nums l (nth (bnd l l.length) c) = N.map fun x => (numOf l x.toNat : Int) := by unfold nums; rw [ht, Nat.add_sub_cancel, hN]
          obtain ⟨a62, c62, b62, o62, hv62, p62, d62, bl62, lo62, lc62, cm62, _⟩ := HR.out.open
          subst hv62
          have hlo62 : ∀ h : 0 < N.length, g2 + 1 ≤ b62 := fun h => by have := lo62 h; omega
          have HSN := hid (HST.out.below (HBN.out.mono (Nat.le_refl _)))
          have hgn : g2 < wn.heap.size := by have := HBN.out.size; omega
          have hwsn : ws.heap.size ≤ wn.heap.size := by have := HBN.out.size; have := HBQ.out.size; omega
          clear hNl
          have hNl : N.length ≤ 2 := by rw [← hN]; exact nextL_len l _
          clear lo62
          go_wp2_with fail
          go_loopw [9] (fun i wr => ∃ k rows', k ≤ N.length ∧ i = .int .i64 (k : Nat) ∧ Stage l W1.heap.size ws.heap.size wr (.slice (some ⟨g2, 0, none⟩) m vcap) rows' c ∧ IntsAt ws.heap.size wr (nth rows' c).2.2.val (foldW ((nums l (nth (bnd l l.length) c)).take k)) ∧ Below W1.heap.size wn wr ∧ Keep (g2 + 1) wn wr ∧ (k = 0 → (nth rows' c).2.2 = ⟨none, 0, 0⟩)) (fun i _ => N.length - (intOf i).toNat)
          case atStart => exact ⟨0, rows, Nat.zero_le _, rfl, HSN.out, by rw [hni hcm]; exact SlE.nil _ _ _, Below.refl _ _, Keep.refl _ _, fun _ => hni hcm⟩
          case round =>
            obtain ⟨k, rows', hk, rfl, hst2, hat, hbr, hkeep, hk0⟩ := hrel
            have hsr : wn.heap.size ≤ wr.heap.size := hbr.size
            have hlen' : rows'.length = m := by rw [hst2.len, hm]
            have HST2 := hid hst2
            have HAT := hid hat
            have HBR := hid hbr
            have HK := hid hkeep
            by_cases hkN : k < N.length
            · have ea := p62 (by omega)
              subst ea
              obtain ⟨y, hy⟩ : ∃ y : Nat, nth N k = y := ⟨(nth N k).toNat, by have := hNx _ (nth_mem N k hkN); omega⟩
              have hyl : y < l.length := by have := hNx _ (nth_mem N k hkN); omega
              have d1 : wr.cell? ⟨b62, o62 + k, none⟩ = some (.int .i64 (y : Nat)) := by
                rw [← hy]
                have e := hkeep b62 (hlo62 (by omega)) (bl62 (by omega))
                have := d62 k hkN
                simp only [World.cell?] at this ⊢
                rw [e]; exact this
              have d2 := (hbr.cell (p := ⟨w1.heap.size, y, none⟩) (by simp; omega)).trans ((HBN.out.cell (p := ⟨w1.heap.size, y, none⟩) (by simp; have := HBQ.out.size; omega)).trans ((HBQ.out.cell (p := ⟨w1.heap.size, y, none⟩) (by simp; omega)).trans (hnw.cell (i := y) (by omega))))
              rw [if_pos hyl] at d2
              have hyl2 : (y : Int) < (l.length : Int) + 1 := by omega
              have hyl3 : y < l.length + 1 := by omega
              have d3 := hst2.own.cellAt c 2 (by omega) (by decide)
              have z3 := hst2.own.frozenAt (c * 3 + 2)
              rw [show bE.sz = 3 from rfl] at d3
              generalize hs : (nth rows' c).2.2 = sl at *
              have d3' : wr.cell? ⟨g2, c * 3 + 2, none⟩ = some (.slice sl.a sl.n sl.c) := by rw [d3, ← hs]; rfl
              have r9 : g2 < wr.heap.size := by omega
              have r10 : w1.heap.size < wr.heap.size := by omega
              have r11 : b62 < wr.heap.size := by have := bl62 (by omega); omega
              have hfl : (foldW ((nums l (nth (bnd l l.length) c)).take k)).length ≤ 10000000000 := by
                refine Nat.le_trans (foldW_len _) ?_
                rw [List.length_take]; omega
              clear d3 hst2 hat hbr hkeep
              go_wp2_with fail
              refine Plan.wp_facts (B := wr.heap.size) planB18 [(14, slF intE ws.heap.size (withL (foldW ((nums l (nth (bnd l l.length) c)).take k)) (numOf l y : Nat)))] (by kernel_rfl) rfl (by kernel_rfl) (by kernel_rfl) (Nat.le_refl _) ?_
              repeat (first | (apply Plan.runs_skip rfl rfl; simp only [Act.put, List.setIfInBounds_toArray, List.set_cons_zero, List.set_cons_succ]) | (apply Plan.runs_det rfl rfl; (· intro F w' hb hf; obtain ⟨hcl, hfz⟩ := bcell hb; go_simp; rfl); simp only [Act.put, List.setIfInBounds_toArray, List.set_cons_zero, List.set_cons_succ]))
              refine Plan.runs_call_sl intE ws.heap.size (withL (foldW ((nums l (nth (bnd l l.length) c)).take k)) (numOf l y : Nat)) 30 #[.slice sl.a sl.n sl.c, .int .i64 (numOf l y : Nat)] rfl rfl _ rfl rfl (fun F w' hb hf => by obtain ⟨hcl, hfz⟩ := bcell hb; go_simp) rfl (fun F w' hb hf => ?_) (fun v83 => ?_)
              · refine (with_calls ws.heap.size _ _ _ w' (HAT.out.below hb) (by have := hb.size; omega) hfl).mono ?_
                rintro e w2 ⟨v, rfl, h1, h2, h3⟩
                exact ⟨v, rfl, h1, h2, fun q _ hq => (h3 q hq).imp (fun h => by
                  have h0 : 0 < (foldW ((nums l (nth (bnd l l.length) c)).take k)).length := by
                    cases k with
                    | zero => rw [hk0 rfl] at h; cases h
                    | succ k => rw [take_succ_nth _ _ (by rw [hnums, List.length_map]; omega), foldW_snoc]; exact withL_pos _ _
                  exact (HAT.out.blk h0 q h).2) id⟩
              simp only [Act.put, List.setIfInBounds_toArray, List.set_cons_zero, List.set_cons_succ]
              repeat (first | (apply Plan.runs_skip rfl rfl; simp only [Act.put, List.setIfInBounds_toArray, List.set_cons_zero, List.set_cons_succ]) | (apply Plan.runs_det rfl rfl; (· intro F w' hb hf; obtain ⟨hcl, hfz⟩ := bcell hb; go_simp; rfl); simp only [Act.put, List.setIfInBounds_toArray, List.set_cons_zero, List.set_cons_succ]))
              refine Plan.runs_fin rfl rfl (fun F w9 hb hf => ?_)
              have hres : IntsAt ws.heap.size w9 v83 (withL (foldW ((nums l (nth (bnd l l.length) c)).take k)) (numOf l y : Nat)) := Plan.rest_sl hf 14 rfl (by decide) rfl rfl
              obtain ⟨a83, n83, c83, hv83⟩ : ∃ a n c, v83 = .slice a n c := by obtain ⟨a, c, _, _, h, _⟩ := hres; exact ⟨a, _, c, h⟩
              subst hv83
              have HR9 := hid hres
              have HB9 := hid hb
              obtain ⟨hcl, hfz⟩ := bcell hb
              have d9 := (hcl g2 (c * 3 + 2) r9).trans d3'
              have z9 := (hfz g2 (c * 3 + 2) r9).trans z3
              clear hf hb hres
              unfold Oper.wp
              go_simp
              go_wp2_with fail
              have hw9 : wr.heap.size ≤ w9.heap.size := HB9.out.size
              refine ⟨⟨k + 1, rows'.set c ((nth rows' c).1, (nth rows' c).2.1, ⟨a83, n83, c83⟩), by omega, by go_num, (HST2.out.below HB9.out).put (by omega) hl2 ⟨a83, n83, c83⟩, ?_, (HBR.out.trans (HB9.out.mono (by omega))).setCell hg2 _, fun q hq hlt => (Keep.store w9 _ _ (Nat.lt_succ_self g2) q hq (by omega)).trans ((HB9.out.block q (by omega)).trans (HK.out q hq hlt)), fun h => by omega⟩, by simp [intOf]; omega⟩
              rw [nth_set _ _ _ _ (by omega), if_pos rfl, take_succ_nth _ _ (by rw [hnums, List.length_map]; exact hkN), foldW_snoc]
              have e : nth (nums l (nth (bnd l l.length) c)) k = (numOf l y : Nat) := by rw [hnums, nth_map' _ _ _ hkN, hy]; rfl
              rw [e]
              exact HR9.out.keep (Keep.store _ _ _ hl2)
            · have hkk : k = N.length := by omega
              have htk : (nums l (nth (bnd l l.length) c)).take k = nums l (nth (bnd l l.length) c) := List.take_of_length_le (by rw [hnums, List.length_map]; omega)
              rw [htk, foldW_setL] at HAT
              clear htk hst2 hat hbr hkeep
              go_wp2_with fail
              refine ⟨⟨c + 1, rows', by omega, by go_num, HST2.out.next (fun _ => HAT.out), fun h => HST2.out.rest (c + 1) (by omega) (by omega), HBQ.out.trans ((HBN.out.mono (by have := HBQ.out.size; omega)).trans HBR.out)⟩, by simp [intOf]; omega⟩
        · clear hst hbq
          go_wp2_with fail
          go_ret
          exact ⟨_, rfl, (HST.out.end (by omega) (by omega) hle).mono (by omega), HBS.out.trans (HBQ.out.mono (by omega))⟩

end Go.Proofs.Ytiaajdckhedofaa
