/-
  The right sides of the must-equations, as the reference reckons them.
-/
import Derived.Test.YtnbffkcnhphdnaaZMayStep42
namespace Go.Proofs.Ytnbffkcnhphdnaa
set_option linter.unusedVariables false
set_option linter.unusedSimpArgs false
open Go.RowKit

noncomputable def planMust12 : Plan := mkPlan (regionOf Try.f23 12) [(18, .new), (19, .new), (21, .fin)] []
noncomputable def planMust7 : Plan := mkPlan (regionOf Try.f23 7) [(10, .new), (12, .fin)] []

set_option maxRecDepth 100000 in
set_option maxHeartbeats 16000000 in
theorem rmuststep_calls (lo1 lo2 lo3 lo4 : Nat) (ve vs va vx : Value) (n : Nat) (E : List Edg) (S x : List (List Int)) (all U : List Int) (w : World) (hE : EdgesAt lo1 w ve E) (hok : EOk E) (hS : LaysAt lo2 w vs S) (hx : LaysAt lo3 w vx x) (ha : IntsAt lo4 w va all) (hal : all.length ≤ 10000) (hxl : x.length = n) (hn : n ≤ 1000)
    (hU : U.length ≤ 10000) (haU : ∀ r ∈ all, r ∈ U) (hgen : ∀ i, i < E.length → ∀ r ∈ (nth E i).gen, r ∈ U) (hxi : IncV x) (hxU : ∀ i r, r ∈ nth x i → r ∈ U) :
    Calls Try.prog 23 #[.int .i64 n, ve, vs, va, vx] w fun e w' => ∃ g ss, e = .returned (.slice (some ⟨g, 0, none⟩) n n) ∧ VAt w.heap.size w' (.slice (some ⟨g, 0, none⟩) n n) ss (mustStep n E S all x) ∧ Below w.heap.size w w' := by
  have hxle : ∀ i, (nth x i).length ≤ 10000 := fun i => Nat.le_trans (inc_sub_len (hxi i) (hxU i)) hU
  have hthru : ∀ k, k < E.length → ∀ s, (thru (nth E k) (nth x s)).length ≤ 10000 := fun k hk s => Nat.le_trans (inc_sub_len (thru_inc _ _) fun r hr => by
    rw [thru_mem] at hr
    rcases hr with ⟨h, _⟩ | h
    · exact hxU s r h
    · exact hgen k hk r h) hU
  have hacc : ∀ i k, ((E.take k).foldl (mustAcc n x i) (must0 S all i)).length ≤ 10000 := fun i k => Nat.le_trans (inc_sub_len (U := U) (mustFold_inc _ _ _ _ _ (must0_inc S all i)) fun r hr => by
    rw [mustFold_mem] at hr
    have h := hr.1
    unfold must0 at h
    split at h
    · rw [meetL_mem, setL_mem] at h; exact haU r h.1
    · rw [setL_mem] at h; exact haU r h) hU
  obtain ⟨ea, ec, eb, eo, K, G, rfl, p1, x0, x1, x2, x3, xk, xg, k1, _, _, m1, n1⟩ := hE.open
  have HEO := hid (And.intro p1 (And.intro x0 (And.intro x1 (And.intro x2 (And.intro x3 (And.intro xk (And.intro xg k1)))))))
  obtain ⟨sa, sc, sb, so, SS, rfl, s1, s2, s3, s4, _, m2, n2⟩ := hS.open
  have HSO := hid (And.intro s1 (And.intro s2 (And.intro s3 s4)))
  obtain ⟨xa, xc, xb, xo, XS, rfl, t1, t2, t3, t4, _, m3, n3⟩ := hx.open
  have HXO := hid (And.intro t1 (And.intro t2 (And.intro t3 t4)))
  have HXL := hid hxl
  have HEK := hid hok.2
  have hEl := hok.1
  have HXLE := hid hxle
  have HTH := hid hthru
  have HACC := hid hacc
  have HA := hid ha
  have hmk := run_make_row' (P := Try.prog) 23 34 (.slice none 0 0) 24 Try.underlying23 infoRow42 rfl .i64 .i64 n (by omega) (by omega)
  rw [hxl] at n3 ⊢
  clear hE hok hS hx hxl hU hgen hxi hxU hxle hthru hacc p1 x0 x1 x2 x3 xk xg k1 s1 s2 s3 s4 t1 t2 t3 t4 haU ha
  go_enter Try.func23, Try.ntmps23
  go_wp2_with fail
  generalize hW : World.alloc _ _ = W
  have hv := show VAt w.heap.size W (.slice (some ⟨w.heap.size, 0, none⟩) n n) (List.replicate n ⟨none, 0, 0⟩) (List.replicate n []) by rw [← hW]; exact VAt.made w n hn
  have HV := hid hv
  have HBW := hid (show Below w.heap.size w W by rw [← hW]; exact (Below.refl _ _).alloc (Nat.le_refl _) _)
  clear hW hv hmk
  go_loopw [12] (fun i wr => ∃ (k : Nat) (ss : List Slc), k ≤ n ∧ i = .int .i64 k ∧ VAt w.heap.size wr (.slice (some ⟨w.heap.size, 0, none⟩) n n) ss ((List.range k).map (mustAt n E S all x) ++ List.replicate (n - k) []) ∧ Below w.heap.size w wr) (fun i _ => n - (intOf i).toNat)
  case atStart => exact ⟨0, _, Nat.zero_le _, rfl, HV.out, HBW.out⟩
  case round =>
    obtain ⟨i, ss, hi, rfl, hv, hbl⟩ := hrel
    obtain ⟨wo, hwo⟩ : ∃ wo, wo = wr := ⟨_, rfl⟩
    subst hwo
    have HVO := hid hv
    have HBL := hid hbl
    have zg : w.heap.size < wo.heap.size := (hv.own.lt _ rfl).2
    have zf := hv.frozen i
    have hlenk : ((List.range i).map (mustAt n E S all x) ++ List.replicate (n - i) []).length = n := by simp; omega
    have HLN := hid hlenk
    clear hv hbl hlenk
    by_cases hlt : i < n
    · have hlt2 : (i : Int) < n := Int.ofNat_lt.2 hlt
      have d0 := HVO.out.cell i (by rw [HLN.out]; exact hlt)
      have HFIN := hid (rmap_set (mustAt n E S all x) [] n i hlt)
      have hnil : nth ((List.range i).map (mustAt n E S all x) ++ List.replicate (n - i) []) i = [] := by
        rw [nth_eq _ _ (by rw [HLN.out]; exact hlt), List.getElem_append_right (by simp)]
        simp
      have HNIL := hid hnil
      rw [hnil] at d0
      obtain ⟨cur, hcur⟩ : ∃ cur, (List.range i).map (mustAt n E S all x) ++ List.replicate (n - i) [] = cur := ⟨_, rfl⟩
      have HCUR := hid hcur
      rw [hcur] at HVO HLN HFIN HNIL
      clear hnil hcur
      have hsal := setL_length all
      by_cases hs : i < S.length
      · have hs2 : (i : Int) < S.length := Int.ofNat_lt.2 hs
        go_wp2_with
          (go_at_call 20
           refine (rset_calls lo4 va all _ (HA.out.below HBL.out) (by omega)).mono ?_
           rintro e w2 ⟨v2, rfl, hi2, hb2⟩
           obtain ⟨a2, c2, _, _, rfl, _⟩ := IntsAt.open hi2
           have HV2 := hid (HVO.out.below hb2)
           have HI2 := hid hi2
           have HB2 := hid (bvia HBL.out hb2)
           have zg2 : w.heap.size < w2.heap.size := Nat.lt_of_lt_of_le zg hb2.size
           have zf2 := HV2.out.frozen i
           have d2 := HV2.out.cell i (by rw [HLN.out]; exact hlt)
           have HV4 := hid (show VAt w.heap.size (w2.setCell ⟨w.heap.size, i, none⟩ (.slice a2 (setL all).length c2)) (.slice (some ⟨w.heap.size, 0, none⟩) n n) (ss.set i ⟨a2, (setL all).length, c2⟩) (cur.set i (setL all)) from HV2.out.put i ⟨a2, (setL all).length, c2⟩ (setL all) (by rw [HLN.out]; exact hlt) HI2.out (fun h0 q hq => by have := (HI2.out.blk h0 q hq).1; omega))
           have HB4 := hid (bstore HB2.out w.heap.size i (.slice a2 (setL all).length c2) (Nat.le_refl _))
           clear hi2 hb2)
        generalize hW4 : World.setCell w2 _ _ = w4
        rw [hW4] at HV4 HB4
        clear hW4 zg2 zf2 d2 d0
        obtain ⟨s1, s2, s3, s4⟩ := HSO.out
        have es := s1 (by omega)
        subst es
        have zs := s4 (by omega)
        have y0 := (HB4.out.cell (p := ⟨sb, _, none⟩) zs).trans (s2 i hs)
        have zs2 : sb < w4.heap.size := Nat.lt_of_lt_of_le zs HB4.out.size
        have HSI := hid ((s3 i hs).below HB4.out)
        have H0 := hid (show meetL (setL all) (nth S i) = must0 S all i by unfold must0; rw [if_pos hs])
        have y1 := HV4.out.cell i (by rw [List.length_set, HLN.out]; exact hlt)
        have y2 := HV4.out.frozen i
        have zg4 : w.heap.size < w4.heap.size := (HV4.out.own.lt _ rfl).2
        have HVC := hid (HV4.out.ints i (by rw [List.length_set, HLN.out]; exact hlt))
        have hnc : nth (cur.set i (setL all)) i = setL all := by rw [nth_setV _ _ _ _ (by rw [HLN.out]; exact hlt), if_pos rfl]
        rw [hnc] at y1 HVC
        obtain ⟨ca, hca⟩ : ∃ q, (nth (ss.set i ⟨a2, (setL all).length, c2⟩) i).a = q := ⟨_, rfl⟩
        obtain ⟨cc, hcc⟩ : ∃ q, (nth (ss.set i ⟨a2, (setL all).length, c2⟩) i).c = q := ⟨_, rfl⟩
        rw [hca, hcc] at y1 HVC
        clear s1 s2 s3 s4 hnc hca hcc
        refine Plan.wp_facts (B := w4.heap.size) planMust7 [(10, slF intE w4.heap.size (meetL (setL all) (nth S i)))] (by kernel_rfl) rfl (by kernel_rfl) (by kernel_rfl) (Nat.le_refl _) ?_
        repeat (first | (apply Plan.runs_skip rfl rfl; simp only [Act.put, List.setIfInBounds_toArray, List.set_cons_zero, List.set_cons_succ]) | (apply Plan.runs_det rfl rfl; (· intro F w' hb hf; obtain ⟨hcl, hfz⟩ := bcell hb; go_simp; rfl); simp only [Act.put, List.setIfInBounds_toArray, List.set_cons_zero, List.set_cons_succ]))
        refine Plan.runs_call_sl intE w4.heap.size (meetL (setL all) (nth S i)) 24 #[.slice ca (setL all).length cc, .slice (SS i).a (nth S i).length (SS i).c] rfl rfl _ rfl rfl (fun F w' hb hf => by obtain ⟨hcl, hfz⟩ := bcell hb; go_simp) rfl (fun F w' hb hf => ?_) (fun vj => ?_)
        · refine (rmeet_calls 0 lo2 _ _ (setL all) (nth S i) w' (HVC.out.below hb) (HSI.out.below hb) (by omega)).mono ?_
          rintro en w'' ⟨v', rfl, hk, hb'⟩
          exact ⟨v', rfl, hk.mono hb.size, hb', fun k h0 h1 => .inr (hk.blk h0 k h1).1⟩
        simp only [Act.put, List.setIfInBounds_toArray, List.set_cons_zero, List.set_cons_succ]
        repeat (first | (apply Plan.runs_skip rfl rfl; simp only [Act.put, List.setIfInBounds_toArray, List.set_cons_zero, List.set_cons_succ]) | (apply Plan.runs_det rfl rfl; (· intro F w' hb hf; obtain ⟨hcl, hfz⟩ := bcell hb; go_simp; rfl); simp only [Act.put, List.setIfInBounds_toArray, List.set_cons_zero, List.set_cons_succ]))
        refine Plan.runs_fin rfl rfl (fun F w9 hb hf => ?_)
        have hres : SlE intE w4.heap.size w9 vj (meetL (setL all) (nth S i)) := Plan.rest_sl hf 10 rfl (by decide) rfl rfl
        obtain ⟨ja, jc, jb, jo, rfl, _⟩ := IntsAt.open hres
        have HR := hid hres
        have HB9 := hid hb
        have a7 := (hb.cell (p := ⟨w.heap.size, _, none⟩) zg4).trans y1
        have a8 := (hb.frozen (p := ⟨w.heap.size, _, none⟩) zg4).trans y2
        have zg9 : w.heap.size < w9.heap.size := Nat.lt_of_lt_of_le zg4 hb.size
        have HV5 := hid (show VAt w.heap.size (w9.setCell ⟨w.heap.size, i, none⟩ (.slice ja (meetL (setL all) (nth S i)).length jc)) (.slice (some ⟨w.heap.size, 0, none⟩) n n) ((ss.set i ⟨a2, (setL all).length, c2⟩).set i ⟨ja, (meetL (setL all) (nth S i)).length, jc⟩) (cur.set i (must0 S all i)) by
          have hput := (HV4.out.below HB9.out).put i ⟨ja, (meetL (setL all) (nth S i)).length, jc⟩ (meetL (setL all) (nth S i)) (by rw [List.length_set, HLN.out]; exact hlt) HR.out (fun h0 q hq => by have := (HR.out.blk h0 q hq).1; omega)
          rw [List.set_set, H0.out, List.set_set] at hput
          rw [List.set_set, H0.out]
          exact hput)
        have HB5 := hid (bstore (bvia HB4.out HB9.out) w.heap.size i (.slice ja (meetL (setL all) (nth S i)).length jc) (Nat.le_refl _))
        clear hf hb hres y0 y1 y2 zs2
        unfold Oper.wp
        go_simp
        go_wp2_with fail
        clear a7 a8 zg9 HV4 HB4 HVC
        go_loopw [13] (fun j wr => ∃ (k : Nat) (ss : List Slc), k ≤ E.length ∧ j = .int .i64 k ∧ VAt w.heap.size wr (.slice (some ⟨w.heap.size, 0, none⟩) n n) ss (cur.set i ((E.take k).foldl (mustAcc n x i) (must0 S all i))) ∧ Below w.heap.size w wr) (fun j _ => E.length - (intOf j).toNat)
        case atStart => exact ⟨0, _, Nat.zero_le _, rfl, by rw [List.take_zero, List.foldl_nil]; exact HV5.out, HB5.out⟩
        case round =>
          clear HVO HV HBL HBW HV5 HB5 zf zg
          obtain ⟨k, ss, hk, rfl, hv, hbl⟩ := hrel
          obtain ⟨wi, hwi⟩ : ∃ wi, wi = wr := ⟨_, rfl⟩
          subst hwi
          have HVI := hid hv
          have HBI := hid hbl
          clear hv hbl
          by_cases hkE : k < E.length
          · have hkE2 : (k : Int) < E.length := Int.ofNat_lt.2 hkE
            obtain ⟨p1, x0, x1, x2, x3, xk, xg, k1⟩ := HEO.out
            have e1 := p1 (by omega)
            subst e1
            have zE := k1 (by omega)
            have b0 := (HBI.out.cell (p := ⟨eb, _, none⟩) zE).trans (x0 k hkE)
            have b1 := (HBI.out.cell (p := ⟨eb, _, none⟩) zE).trans (x1 k hkE)
            have b2 := (HBI.out.cell (p := ⟨eb, _, none⟩) zE).trans (x2 k hkE)
            have b3 := (HBI.out.cell (p := ⟨eb, _, none⟩) zE).trans (x3 k hkE)
            have HK := hid (xk k hkE)
            have HG := hid (xg k hkE)
            have zE2 : eb < wi.heap.size := Nat.lt_of_lt_of_le zE HBI.out.size
            have HTK := hid (HTH.out k hkE)
            have HEN := hid (HEK.out k hkE)
            have HAC := hid (HACC.out i k)
            have HAS := hid (show (E.take (k + 1)).foldl (mustAcc n x i) (must0 S all i) = mustAcc n x i ((E.take k).foldl (mustAcc n x i) (must0 S all i)) (nth E k) by
              rw [List.take_add_one, List.getElem?_eq_getElem hkE, ← nth_eq _ _ hkE, Option.toList_some, List.foldl_append]
              rfl)
            obtain ⟨ac, hac⟩ : ∃ ac, (E.take k).foldl (mustAcc n x i) (must0 S all i) = ac := ⟨_, rfl⟩
            rw [hac] at HVI HAS HAC
            obtain ⟨ed, hed⟩ : ∃ ed, nth E k = ed := ⟨_, rfl⟩
            rw [hed] at b0 b1 b2 b3 HK HG HTK HEN HAS
            obtain ⟨ka, hka⟩ : ∃ q, (K k).a = q := ⟨_, rfl⟩
            obtain ⟨kc, hkc⟩ : ∃ q, (K k).c = q := ⟨_, rfl⟩
            obtain ⟨ga, hga⟩ : ∃ q, (G k).a = q := ⟨_, rfl⟩
            obtain ⟨gc, hgc⟩ : ∃ q, (G k).c = q := ⟨_, rfl⟩
            rw [hka, hkc] at b2 HK
            rw [hga, hgc] at b3 HG
            clear p1 x0 x1 x2 x3 xk xg k1 hac hed hka hkc hga hgc
            cases hin : insideB n ed with
            | false =>
              have HIN := hid hin
              clear hin
              go_wp2_with (
                go_at_call 43
                refine (inside_calls _ _ ed n _).mono ?_
                rw [HIN.out]
                rintro e w2 ⟨rfl, hb2⟩
                have HB2 := hid (bvia HBI.out hb2)
                have HV2 := hid (HVI.out.below hb2)
                clear hb2)
              go_roundw
              case rel => exact ⟨k + 1, ss, by omega, by go_num, by rw [HAS.out]; unfold mustAcc; rw [if_neg (fun h => by rw [HIN.out] at h; cases h.1)]; exact HV2.out, HB2.out⟩
              case measure => simp [intOf] <;> omega
            | true =>
              have HIN := hid hin
              obtain ⟨r1, r2, r3, r4⟩ := (insideB_iff n ed).1 hin
              clear hin
              cases hdi : (ed.dst == (i : Int)) with
              | false =>
                have HDI := hid (show ¬ (insideB n ed = true ∧ ed.dst = i) from fun h => by rw [h.2] at hdi; simp at hdi)
                go_wp2_with (
                  go_at_call 43
                  refine (inside_calls _ _ ed n _).mono ?_
                  rw [HIN.out]
                  rintro e w2 ⟨rfl, hb2⟩
                  have HB2 := hid (bvia HBI.out hb2)
                  have HV2 := hid (HVI.out.below hb2)
                  have b4 := (hb2.cell (p := ⟨eb, _, none⟩) zE2).trans b1
                  have zE3 : eb < w2.heap.size := Nat.lt_of_lt_of_le zE2 hb2.size
                  clear hb2)
                go_roundw
                case rel => exact ⟨k + 1, ss, by omega, by go_num, by rw [HAS.out]; unfold mustAcc; rw [if_neg HDI.out]; exact HV2.out, HB2.out⟩
                case measure => simp [intOf] <;> omega
              | true =>
                have HDI := hid (show insideB n ed = true ∧ ed.dst = i from ⟨HIN.out, by simpa using hdi⟩)
                obtain ⟨s, hs⟩ := Int.eq_ofNat_of_zero_le r1
                have hsn : s < n := by omega
                have hsn2 : (s : Int) < n := Int.ofNat_lt.2 hsn
                have HSS := hid hs
                obtain ⟨t1, t2, t3, t4⟩ := HXO.out
                have ex := t1 (by rw [HXL.out]; omega)
                subst ex
                have zx := t4 (by rw [HXL.out]; omega)
                have HX0 := hid (t2 s (by rw [HXL.out]; exact hsn))
                have HXI := hid (t3 s (by rw [HXL.out]; exact hsn))
                have HAS2 := hid (show (E.take (k + 1)).foldl (mustAcc n x i) (must0 S all i) = meetL ac (thru ed (nth x s)) by rw [HAS.out]; unfold mustAcc; rw [if_pos HDI.out, hs, Int.toNat_natCast])
                have HTS := hid (HTK.out s)
                have HXS := hid (HXLE.out s)
                obtain ⟨xs, hxs⟩ : ∃ q, nth x s = q := ⟨_, rfl⟩
                obtain ⟨ya, hya⟩ : ∃ q, (XS s).a = q := ⟨_, rfl⟩
                obtain ⟨yc, hyc⟩ : ∃ q, (XS s).c = q := ⟨_, rfl⟩
                rw [hxs, hya, hyc] at HX0 HXI
                rw [hxs] at HAS2 HTS HXS
                have HIC := hid (show ∀ (vk vg : Value) (w : World), Calls Try.prog 43 #[.agg #[.int .i64 (s : Int), .int .i64 ed.dst, vk, vg], .int .i64 n] w fun en w' => en = .returned (.bool true) ∧ Below w.heap.size w w' from fun vk vg w => by
                  have h := inside_calls vk vg ed n w
                  rw [hs, HIN.out] at h
                  exact h)
                rw [hs] at b0
                clear t1 t2 t3 t4 r1 r2 r3 r4 hxs hya hyc hs
                go_wp2_with (
                  go_at_call 43
                  refine (HIC.out _ _ _).mono ?_
                  rintro e w2 ⟨rfl, hb2⟩
                  have HB2 := hid (bvia HBI.out hb2)
                  have HV2 := hid (HVI.out.below hb2)
                  have a0 := (hb2.cell (p := ⟨eb, _, none⟩) zE2).trans b0
                  have a1 := (hb2.cell (p := ⟨eb, _, none⟩) zE2).trans b1
                  have a2 := (hb2.cell (p := ⟨eb, _, none⟩) zE2).trans b2
                  have a3 := (hb2.cell (p := ⟨eb, _, none⟩) zE2).trans b3
                  have zE3 : eb < w2.heap.size := Nat.lt_of_lt_of_le zE2 hb2.size
                  clear hb2 b0 b1 b2 b3)
                have a4 := (HB2.out.cell (p := ⟨xb, _, none⟩) zx).trans HX0.out
                have zx2 : xb < w2.heap.size := Nat.lt_of_lt_of_le zx HB2.out.size
                have a5 := HV2.out.cell i (by rw [List.length_set, HLN.out]; exact hlt)
                have a6 := HV2.out.frozen i
                have zg2 : w.heap.size < w2.heap.size := (HV2.out.own.lt _ rfl).2
                have HVC := hid (HV2.out.ints i (by rw [List.length_set, HLN.out]; exact hlt))
                have hnc : nth (cur.set i ac) i = ac := by rw [nth_setV _ _ _ _ (by rw [HLN.out]; exact hlt), if_pos rfl]
                rw [hnc] at a5 HVC
                obtain ⟨ca, hca⟩ : ∃ q, (nth ss i).a = q := ⟨_, rfl⟩
                obtain ⟨cc, hcc⟩ : ∃ q, (nth ss i).c = q := ⟨_, rfl⟩
                rw [hca, hcc] at a5 HVC
                have HKK := hid (HK.out.below HB2.out)
                have HGG := hid (HG.out.below HB2.out)
                have HXX := hid (HXI.out.below HB2.out)
                clear hnc hca hcc
                refine Plan.wp_facts (B := w2.heap.size) planMust12 [(18, slF intE w2.heap.size (thru ed xs)), (19, slF intE w2.heap.size (meetL ac (thru ed xs)))] (by kernel_rfl) rfl (by kernel_rfl) (by kernel_rfl) (Nat.le_refl _) ?_
                repeat (first | (apply Plan.runs_skip rfl rfl; simp only [Act.put, List.setIfInBounds_toArray, List.set_cons_zero, List.set_cons_succ]) | (apply Plan.runs_det rfl rfl; (· intro F w' hb hf; obtain ⟨hcl, hfz⟩ := bcell hb; go_simp; rfl); simp only [Act.put, List.setIfInBounds_toArray, List.set_cons_zero, List.set_cons_succ]))
                refine Plan.runs_call_sl intE w2.heap.size (thru ed xs) 44 #[.slice ya xs.length yc, .agg #[.int .i64 s, .int .i64 ed.dst, .slice ka ed.kill.length kc, .slice ga ed.gen.length gc]] rfl rfl _ rfl rfl (fun F w' hb hf => by obtain ⟨hcl, hfz⟩ := bcell hb; go_simp) rfl (fun F w' hb hf => ?_) (fun vt => ?_)
                · have hth := thru_calls lo1 lo3 (.slice ka ed.kill.length kc) (.slice ga ed.gen.length gc) (.slice ya xs.length yc) ed xs w' (HKK.out.below hb) (HGG.out.below hb) (HXX.out.below hb) (by have := HEN.out; omega) (by have := HXS.out; omega)
                  rw [HSS.out] at hth
                  refine hth.mono ?_
                  rintro en w'' ⟨v', rfl, hk, hb'⟩
                  exact ⟨v', rfl, hk.mono hb.size, hb', fun k h0 h1 => .inr (hk.blk h0 k h1).1⟩
                simp only [Act.put, List.setIfInBounds_toArray, List.set_cons_zero, List.set_cons_succ]
                repeat (first | (apply Plan.runs_skip rfl rfl; simp only [Act.put, List.setIfInBounds_toArray, List.set_cons_zero, List.set_cons_succ]) | (apply Plan.runs_det rfl rfl; (· intro F w' hb hf; obtain ⟨hcl, hfz⟩ := bcell hb; go_simp; rfl); simp only [Act.put, List.setIfInBounds_toArray, List.set_cons_zero, List.set_cons_succ]))
                refine Plan.runs_call_sl intE w2.heap.size (meetL ac (thru ed xs)) 24 #[.slice ca ac.length cc, vt] rfl rfl _ rfl rfl (fun F w' hb hf => by go_simp) rfl (fun F w' hb hf => ?_) (fun vj => ?_)
                · have ht : SlE intE w2.heap.size w' vt (thru ed xs) := Plan.facts_sl hf 18 rfl (by kernel_rfl) rfl (.inl rfl)
                  refine (rmeet_calls 0 w2.heap.size _ vt ac _ w' (HVC.out.below hb) ht (by have := HAC.out; omega) ).mono ?_
                  rintro en w'' ⟨v', rfl, hk, hb'⟩
                  exact ⟨v', rfl, hk.mono hb.size, hb', fun k h0 h1 => .inr (hk.blk h0 k h1).1⟩
                simp only [Act.put, List.setIfInBounds_toArray, List.set_cons_zero, List.set_cons_succ]
                repeat (first | (apply Plan.runs_skip rfl rfl; simp only [Act.put, List.setIfInBounds_toArray, List.set_cons_zero, List.set_cons_succ]) | (apply Plan.runs_det rfl rfl; (· intro F w' hb hf; obtain ⟨hcl, hfz⟩ := bcell hb; go_simp; rfl); simp only [Act.put, List.setIfInBounds_toArray, List.set_cons_zero, List.set_cons_succ]))
                refine Plan.runs_fin rfl rfl (fun F w9 hb hf => ?_)
                have hres : SlE intE w2.heap.size w9 vj (meetL ac (thru ed xs)) := Plan.rest_sl hf 19 rfl (by decide) rfl rfl
                obtain ⟨ja, jc, jb, jo, rfl, _⟩ := IntsAt.open hres
                have HR := hid hres
                have HB9 := hid hb
                have a7 := (hb.cell (p := ⟨w.heap.size, _, none⟩) zg2).trans a5
                have a8 := (hb.frozen (p := ⟨w.heap.size, _, none⟩) zg2).trans a6
                have zg9 : w.heap.size < w9.heap.size := Nat.lt_of_lt_of_le zg2 hb.size
                clear hf hb hres a0 a1 a2 a3 a4 a5 a6
                unfold Oper.wp
                go_simp
                go_wp2_with fail
                have hput := (HV2.out.below HB9.out).put i ⟨ja, (meetL ac (thru ed xs)).length, jc⟩ (meetL ac (thru ed xs)) (by rw [List.length_set, HLN.out]; exact hlt) HR.out (fun h0 q hq => by have := (HR.out.blk h0 q hq).1; omega)
                rw [List.set_set] at hput
                refine ⟨⟨k + 1, ss.set i ⟨ja, (meetL ac (thru ed xs)).length, jc⟩, by omega, by go_num, by rw [HAS2.out]; exact hput, bstore (bvia HB2.out HB9.out) _ _ _ (Nat.le_refl _)⟩, by simp [intOf] <;> omega⟩
          · have HKE := hid (show k = E.length by omega)
            go_wp2_with fail
            go_roundw
            case rel =>
              refine ⟨i + 1, ss, by omega, by go_num, ?_, HBI.out⟩
              rw [← HFIN.out]
              have := HVI.out
              rw [HKE.out, List.take_length] at this
              exact this
            case measure => simp [intOf] <;> omega
      · have hs2 : ¬ (i : Int) < S.length := by omega
        have H0 := hid (show setL all = must0 S all i by unfold must0; rw [if_neg hs])
        go_wp2_with
          (go_at_call 20
           refine (rset_calls lo4 va all _ (HA.out.below HBL.out) (by omega)).mono ?_
           rintro e w2 ⟨v2, rfl, hi2, hb2⟩
           obtain ⟨a2, c2, _, _, rfl, _⟩ := IntsAt.open hi2
           have HV2 := hid (HVO.out.below hb2)
           have HI2 := hid hi2
           have HB2 := hid (bvia HBL.out hb2)
           have zg2 : w.heap.size < w2.heap.size := Nat.lt_of_lt_of_le zg hb2.size
           have zf2 := HV2.out.frozen i
           have d2 := HV2.out.cell i (by rw [HLN.out]; exact hlt)
           have HV4 := hid (show VAt w.heap.size (w2.setCell ⟨w.heap.size, i, none⟩ (.slice a2 (setL all).length c2)) (.slice (some ⟨w.heap.size, 0, none⟩) n n) (ss.set i ⟨a2, (setL all).length, c2⟩) (cur.set i (setL all)) from HV2.out.put i ⟨a2, (setL all).length, c2⟩ (setL all) (by rw [HLN.out]; exact hlt) HI2.out (fun h0 q hq => by have := (HI2.out.blk h0 q hq).1; omega))
           have HB4 := hid (bstore HB2.out w.heap.size i (.slice a2 (setL all).length c2) (Nat.le_refl _))
           clear hi2 hb2)
        have HV5 := hid (show VAt w.heap.size (w2.setCell ⟨w.heap.size, i, none⟩ (.slice a2 (setL all).length c2)) (.slice (some ⟨w.heap.size, 0, none⟩) n n) (ss.set i ⟨a2, (setL all).length, c2⟩) (cur.set i (must0 S all i)) by
          rw [← H0.out]
          exact HV4.out)
        have HB5 := hid HB4.out
        clear zg2 zf2 d2
        go_loopw [13] (fun j wr => ∃ (k : Nat) (ss : List Slc), k ≤ E.length ∧ j = .int .i64 k ∧ VAt w.heap.size wr (.slice (some ⟨w.heap.size, 0, none⟩) n n) ss (cur.set i ((E.take k).foldl (mustAcc n x i) (must0 S all i))) ∧ Below w.heap.size w wr) (fun j _ => E.length - (intOf j).toNat)
        case atStart => exact ⟨0, _, Nat.zero_le _, rfl, by rw [List.take_zero, List.foldl_nil]; exact HV5.out, HB5.out⟩
        case round =>
          clear HVO HV HBL HBW HV5 HB5 d0 zf zg
          obtain ⟨k, ss, hk, rfl, hv, hbl⟩ := hrel
          obtain ⟨wi, hwi⟩ : ∃ wi, wi = wr := ⟨_, rfl⟩
          subst hwi
          have HVI := hid hv
          have HBI := hid hbl
          clear hv hbl
          by_cases hkE : k < E.length
          · have hkE2 : (k : Int) < E.length := Int.ofNat_lt.2 hkE
            obtain ⟨p1, x0, x1, x2, x3, xk, xg, k1⟩ := HEO.out
            have e1 := p1 (by omega)
            subst e1
            have zE := k1 (by omega)
            have b0 := (HBI.out.cell (p := ⟨eb, _, none⟩) zE).trans (x0 k hkE)
            have b1 := (HBI.out.cell (p := ⟨eb, _, none⟩) zE).trans (x1 k hkE)
            have b2 := (HBI.out.cell (p := ⟨eb, _, none⟩) zE).trans (x2 k hkE)
            have b3 := (HBI.out.cell (p := ⟨eb, _, none⟩) zE).trans (x3 k hkE)
            have HK := hid (xk k hkE)
            have HG := hid (xg k hkE)
            have zE2 : eb < wi.heap.size := Nat.lt_of_lt_of_le zE HBI.out.size
            have HTK := hid (HTH.out k hkE)
            have HEN := hid (HEK.out k hkE)
            have HAC := hid (HACC.out i k)
            have HAS := hid (show (E.take (k + 1)).foldl (mustAcc n x i) (must0 S all i) = mustAcc n x i ((E.take k).foldl (mustAcc n x i) (must0 S all i)) (nth E k) by
              rw [List.take_add_one, List.getElem?_eq_getElem hkE, ← nth_eq _ _ hkE, Option.toList_some, List.foldl_append]
              rfl)
            obtain ⟨ac, hac⟩ : ∃ ac, (E.take k).foldl (mustAcc n x i) (must0 S all i) = ac := ⟨_, rfl⟩
            rw [hac] at HVI HAS HAC
            obtain ⟨ed, hed⟩ : ∃ ed, nth E k = ed := ⟨_, rfl⟩
            rw [hed] at b0 b1 b2 b3 HK HG HTK HEN HAS
            obtain ⟨ka, hka⟩ : ∃ q, (K k).a = q := ⟨_, rfl⟩
            obtain ⟨kc, hkc⟩ : ∃ q, (K k).c = q := ⟨_, rfl⟩
            obtain ⟨ga, hga⟩ : ∃ q, (G k).a = q := ⟨_, rfl⟩
            obtain ⟨gc, hgc⟩ : ∃ q, (G k).c = q := ⟨_, rfl⟩
            rw [hka, hkc] at b2 HK
            rw [hga, hgc] at b3 HG
            clear p1 x0 x1 x2 x3 xk xg k1 hac hed hka hkc hga hgc
            cases hin : insideB n ed with
            | false =>
              have HIN := hid hin
              clear hin
              go_wp2_with (
                go_at_call 43
                refine (inside_calls _ _ ed n _).mono ?_
                rw [HIN.out]
                rintro e w2 ⟨rfl, hb2⟩
                have HB2 := hid (bvia HBI.out hb2)
                have HV2 := hid (HVI.out.below hb2)
                clear hb2)
              go_roundw
              case rel => exact ⟨k + 1, ss, by omega, by go_num, by rw [HAS.out]; unfold mustAcc; rw [if_neg (fun h => by rw [HIN.out] at h; cases h.1)]; exact HV2.out, HB2.out⟩
              case measure => simp [intOf] <;> omega
            | true =>
              have HIN := hid hin
              obtain ⟨r1, r2, r3, r4⟩ := (insideB_iff n ed).1 hin
              clear hin
              cases hdi : (ed.dst == (i : Int)) with
              | false =>
                have HDI := hid (show ¬ (insideB n ed = true ∧ ed.dst = i) from fun h => by rw [h.2] at hdi; simp at hdi)
                go_wp2_with (
                  go_at_call 43
                  refine (inside_calls _ _ ed n _).mono ?_
                  rw [HIN.out]
                  rintro e w2 ⟨rfl, hb2⟩
                  have HB2 := hid (bvia HBI.out hb2)
                  have HV2 := hid (HVI.out.below hb2)
                  have b4 := (hb2.cell (p := ⟨eb, _, none⟩) zE2).trans b1
                  have zE3 : eb < w2.heap.size := Nat.lt_of_lt_of_le zE2 hb2.size
                  clear hb2)
                go_roundw
                case rel => exact ⟨k + 1, ss, by omega, by go_num, by rw [HAS.out]; unfold mustAcc; rw [if_neg HDI.out]; exact HV2.out, HB2.out⟩
                case measure => simp [intOf] <;> omega
              | true =>
                have HDI := hid (show insideB n ed = true ∧ ed.dst = i from ⟨HIN.out, by simpa using hdi⟩)
                obtain ⟨s, hs⟩ := Int.eq_ofNat_of_zero_le r1
                have hsn : s < n := by omega
                have hsn2 : (s : Int) < n := Int.ofNat_lt.2 hsn
                have HSS := hid hs
                obtain ⟨t1, t2, t3, t4⟩ := HXO.out
                have ex := t1 (by rw [HXL.out]; omega)
                subst ex
                have zx := t4 (by rw [HXL.out]; omega)
                have HX0 := hid (t2 s (by rw [HXL.out]; exact hsn))
                have HXI := hid (t3 s (by rw [HXL.out]; exact hsn))
                have HAS2 := hid (show (E.take (k + 1)).foldl (mustAcc n x i) (must0 S all i) = meetL ac (thru ed (nth x s)) by rw [HAS.out]; unfold mustAcc; rw [if_pos HDI.out, hs, Int.toNat_natCast])
                have HTS := hid (HTK.out s)
                have HXS := hid (HXLE.out s)
                obtain ⟨xs, hxs⟩ : ∃ q, nth x s = q := ⟨_, rfl⟩
                obtain ⟨ya, hya⟩ : ∃ q, (XS s).a = q := ⟨_, rfl⟩
                obtain ⟨yc, hyc⟩ : ∃ q, (XS s).c = q := ⟨_, rfl⟩
                rw [hxs, hya, hyc] at HX0 HXI
                rw [hxs] at HAS2 HTS HXS
                have HIC := hid (show ∀ (vk vg : Value) (w : World), Calls Try.prog 43 #[.agg #[.int .i64 (s : Int), .int .i64 ed.dst, vk, vg], .int .i64 n] w fun en w' => en = .returned (.bool true) ∧ Below w.heap.size w w' from fun vk vg w => by
                  have h := inside_calls vk vg ed n w
                  rw [hs, HIN.out] at h
                  exact h)
                rw [hs] at b0
                clear t1 t2 t3 t4 r1 r2 r3 r4 hxs hya hyc hs
                go_wp2_with (
                  go_at_call 43
                  refine (HIC.out _ _ _).mono ?_
                  rintro e w2 ⟨rfl, hb2⟩
                  have HB2 := hid (bvia HBI.out hb2)
                  have HV2 := hid (HVI.out.below hb2)
                  have a0 := (hb2.cell (p := ⟨eb, _, none⟩) zE2).trans b0
                  have a1 := (hb2.cell (p := ⟨eb, _, none⟩) zE2).trans b1
                  have a2 := (hb2.cell (p := ⟨eb, _, none⟩) zE2).trans b2
                  have a3 := (hb2.cell (p := ⟨eb, _, none⟩) zE2).trans b3
                  have zE3 : eb < w2.heap.size := Nat.lt_of_lt_of_le zE2 hb2.size
                  clear hb2 b0 b1 b2 b3)
                have a4 := (HB2.out.cell (p := ⟨xb, _, none⟩) zx).trans HX0.out
                have zx2 : xb < w2.heap.size := Nat.lt_of_lt_of_le zx HB2.out.size
                have a5 := HV2.out.cell i (by rw [List.length_set, HLN.out]; exact hlt)
                have a6 := HV2.out.frozen i
                have zg2 : w.heap.size < w2.heap.size := (HV2.out.own.lt _ rfl).2
                have HVC := hid (HV2.out.ints i (by rw [List.length_set, HLN.out]; exact hlt))
                have hnc : nth (cur.set i ac) i = ac := by rw [nth_setV _ _ _ _ (by rw [HLN.out]; exact hlt), if_pos rfl]
                rw [hnc] at a5 HVC
                obtain ⟨ca, hca⟩ : ∃ q, (nth ss i).a = q := ⟨_, rfl⟩
                obtain ⟨cc, hcc⟩ : ∃ q, (nth ss i).c = q := ⟨_, rfl⟩
                rw [hca, hcc] at a5 HVC
                have HKK := hid (HK.out.below HB2.out)
                have HGG := hid (HG.out.below HB2.out)
                have HXX := hid (HXI.out.below HB2.out)
                clear hnc hca hcc
                refine Plan.wp_facts (B := w2.heap.size) planMust12 [(18, slF intE w2.heap.size (thru ed xs)), (19, slF intE w2.heap.size (meetL ac (thru ed xs)))] (by kernel_rfl) rfl (by kernel_rfl) (by kernel_rfl) (Nat.le_refl _) ?_
                repeat (first | (apply Plan.runs_skip rfl rfl; simp only [Act.put, List.setIfInBounds_toArray, List.set_cons_zero, List.set_cons_succ]) | (apply Plan.runs_det rfl rfl; (· intro F w' hb hf; obtain ⟨hcl, hfz⟩ := bcell hb; go_simp; rfl); simp only [Act.put, List.setIfInBounds_toArray, List.set_cons_zero, List.set_cons_succ]))
                refine Plan.runs_call_sl intE w2.heap.size (thru ed xs) 44 #[.slice ya xs.length yc, .agg #[.int .i64 s, .int .i64 ed.dst, .slice ka ed.kill.length kc, .slice ga ed.gen.length gc]] rfl rfl _ rfl rfl (fun F w' hb hf => by obtain ⟨hcl, hfz⟩ := bcell hb; go_simp) rfl (fun F w' hb hf => ?_) (fun vt => ?_)
                · have hth := thru_calls lo1 lo3 (.slice ka ed.kill.length kc) (.slice ga ed.gen.length gc) (.slice ya xs.length yc) ed xs w' (HKK.out.below hb) (HGG.out.below hb) (HXX.out.below hb) (by have := HEN.out; omega) (by have := HXS.out; omega)
                  rw [HSS.out] at hth
                  refine hth.mono ?_
                  rintro en w'' ⟨v', rfl, hk, hb'⟩
                  exact ⟨v', rfl, hk.mono hb.size, hb', fun k h0 h1 => .inr (hk.blk h0 k h1).1⟩
                simp only [Act.put, List.setIfInBounds_toArray, List.set_cons_zero, List.set_cons_succ]
                repeat (first | (apply Plan.runs_skip rfl rfl; simp only [Act.put, List.setIfInBounds_toArray, List.set_cons_zero, List.set_cons_succ]) | (apply Plan.runs_det rfl rfl; (· intro F w' hb hf; obtain ⟨hcl, hfz⟩ := bcell hb; go_simp; rfl); simp only [Act.put, List.setIfInBounds_toArray, List.set_cons_zero, List.set_cons_succ]))
                refine Plan.runs_call_sl intE w2.heap.size (meetL ac (thru ed xs)) 24 #[.slice ca ac.length cc, vt] rfl rfl _ rfl rfl (fun F w' hb hf => by go_simp) rfl (fun F w' hb hf => ?_) (fun vj => ?_)
                · have ht : SlE intE w2.heap.size w' vt (thru ed xs) := Plan.facts_sl hf 18 rfl (by kernel_rfl) rfl (.inl rfl)
                  refine (rmeet_calls 0 w2.heap.size _ vt ac _ w' (HVC.out.below hb) ht (by have := HAC.out; omega) ).mono ?_
                  rintro en w'' ⟨v', rfl, hk, hb'⟩
                  exact ⟨v', rfl, hk.mono hb.size, hb', fun k h0 h1 => .inr (hk.blk h0 k h1).1⟩
                simp only [Act.put, List.setIfInBounds_toArray, List.set_cons_zero, List.set_cons_succ]
                repeat (first | (apply Plan.runs_skip rfl rfl; simp only [Act.put, List.setIfInBounds_toArray, List.set_cons_zero, List.set_cons_succ]) | (apply Plan.runs_det rfl rfl; (· intro F w' hb hf; obtain ⟨hcl, hfz⟩ := bcell hb; go_simp; rfl); simp only [Act.put, List.setIfInBounds_toArray, List.set_cons_zero, List.set_cons_succ]))
                refine Plan.runs_fin rfl rfl (fun F w9 hb hf => ?_)
                have hres : SlE intE w2.heap.size w9 vj (meetL ac (thru ed xs)) := Plan.rest_sl hf 19 rfl (by decide) rfl rfl
                obtain ⟨ja, jc, jb, jo, rfl, _⟩ := IntsAt.open hres
                have HR := hid hres
                have HB9 := hid hb
                have a7 := (hb.cell (p := ⟨w.heap.size, _, none⟩) zg2).trans a5
                have a8 := (hb.frozen (p := ⟨w.heap.size, _, none⟩) zg2).trans a6
                have zg9 : w.heap.size < w9.heap.size := Nat.lt_of_lt_of_le zg2 hb.size
                clear hf hb hres a0 a1 a2 a3 a4 a5 a6
                unfold Oper.wp
                go_simp
                go_wp2_with fail
                have hput := (HV2.out.below HB9.out).put i ⟨ja, (meetL ac (thru ed xs)).length, jc⟩ (meetL ac (thru ed xs)) (by rw [List.length_set, HLN.out]; exact hlt) HR.out (fun h0 q hq => by have := (HR.out.blk h0 q hq).1; omega)
                rw [List.set_set] at hput
                refine ⟨⟨k + 1, ss.set i ⟨ja, (meetL ac (thru ed xs)).length, jc⟩, by omega, by go_num, by rw [HAS2.out]; exact hput, bstore (bvia HB2.out HB9.out) _ _ _ (Nat.le_refl _)⟩, by simp [intOf] <;> omega⟩
          · have HKE := hid (show k = E.length by omega)
            go_wp2_with fail
            go_roundw
            case rel =>
              refine ⟨i + 1, ss, by omega, by go_num, ?_, HBI.out⟩
              rw [← HFIN.out]
              have := HVI.out
              rw [HKE.out, List.take_length] at this
              exact this
            case measure => simp [intOf] <;> omega
    · have HK := hid (show i = n by omega)
      go_wp2_with fail
      go_ret
      refine ⟨w.heap.size, ss, rfl, ?_, HBL.out⟩
      have := HVO.out
      rw [HK.out, Nat.sub_self, List.replicate_zero, List.append_nil] at this
      exact this

end Go.Proofs.Ytnbffkcnhphdnaa
