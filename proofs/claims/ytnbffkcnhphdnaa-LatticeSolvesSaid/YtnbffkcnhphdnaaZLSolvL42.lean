/-
  The law LatticeSolves, walked to its end.
-/
import Derived.Test.YtnbffkcnhphdnaaZLSolv42
namespace Go.Proofs.Ytnbffkcnhphdnaa
set_option linter.unusedVariables false
set_option linter.unusedSimpArgs false
open Go.RowKit

set_option maxRecDepth 100000 in
set_option maxHeartbeats 4000000 in
theorem lsolves_no (lo1 : Nat) (va : Value) (l : List Int) (lo2 : Nat) (ve : Value) (E : List Edg) (w : World) (ha : IntsAt lo1 w va l) (hE : EdgesAt lo2 w ve E) (hcase : 8 < l.length ∨ 16 < E.length) :
    Calls Try.prog 10 #[va, ve] w fun e w' => e = .returned (.bool true) ∧ Below w.heap.size w w' := by
  obtain ⟨aa, ac, ab, ao, rfl, _⟩ := ha.open
  obtain ⟨ea, ec, eb', eo, K, G, rfl, _⟩ := hE.open
  clear ha hE
  have hcs : (8 : Int) < l.length ∨ (¬ (8 : Int) < l.length ∧ (16 : Int) < E.length) := by omega
  clear hcase
  rcases hcs with h1 | ⟨h1, h2⟩
  all_goals
    go_enter Try.func10, Try.ntmps10
    go_wp2_with (
      go_at_call 11
      refine (awake42_calls w).mono ?_
      rintro e w1 ⟨rfl, hb1⟩
      have HB1 := hid hb1
      clear hb1)
    go_ret
    exact ⟨rfl, HB1.out⟩

set_option maxRecDepth 100000 in
set_option maxHeartbeats 8000000 in
theorem lsolves_yes (lo1 : Nat) (va : Value) (l : List Int) (lo2 : Nat) (ve : Value) (E : List Edg) (w : World) (ha : IntsAt lo1 w va l) (hE : EdgesAt lo2 w ve E) (hl8 : l.length ≤ 8) (he16 : E.length ≤ 16) :
    Calls Try.prog 10 #[va, ve] w fun e w' => e = .returned (.bool true) ∧ Below w.heap.size w w' := by
  obtain ⟨aa, ac, ab, ao, rfl, a1, a2, a3, _, _, am, an⟩ := ha.open
  obtain ⟨ea, ec, eb', eo, K, G, rfl, p1, x0, x1, x2, x3, xk, xg, k1, _, _, m1, n1⟩ := hE.open
  have HA := hid ha
  have HE := hid hE
  have HAO := hid (And.intro a1 (And.intro a2 a3))
  have HEO := hid (And.intro p1 (And.intro x0 (And.intro x1 k1)))
  have h1 : ¬ (8 : Int) < l.length := by omega
  have h2 : ¬ (16 : Int) < E.length := by omega
  clear ha hE a1 a2 a3 p1 x0 x1 x2 x3 xk xg k1
  go_enter Try.func10, Try.ntmps10
  go_wp2_with (
    go_at_call 11
    refine (awake42_calls w).mono ?_
    rintro e w1 ⟨rfl, hb1⟩
    have HB1 := hid hb1
    clear hb1)
  go_loopw [5] (fun i wr => ∃ k : Nat, k ≤ l.length ∧ i = .int .i64 k ∧ (∀ j, j < k → OkN (nth l j)) ∧ wr = w1) (fun i _ => l.length - (intOf i).toNat)
  case atStart => exact ⟨0, Nat.zero_le _, rfl, fun j hj => by omega, rfl⟩
  case round =>
    obtain ⟨k, hk, rfl, hok, hwr⟩ := hrel
    obtain ⟨wo, hwo⟩ : ∃ wo, wo = wr := ⟨_, rfl⟩
    subst hwo
    have HWR := hid hwr
    have HB := hid (show Below w.heap.size w wo by rw [hwr]; exact HB1.out)
    have HOK := hid hok
    clear hok hwr HB1
    by_cases hlt : k < l.length
    · have hlt2 : (k : Int) < l.length := Int.ofNat_lt.2 hlt
      obtain ⟨a1, a2, a3⟩ := HAO.out
      have e1 := a1 (by omega)
      subst e1
      have z1 := a3 (by omega)
      have c1 := (HB.out.cell (p := ⟨ab, _, none⟩) z1).trans (a2 k hlt)
      clear a1 a2 a3
      obtain ⟨y, hy⟩ : ∃ y, nth l k = y := ⟨_, rfl⟩
      have HY := hid hy
      rw [hy] at c1
      clear hy
      by_cases hy1 : y < -1000
      · go_wp2_with fail
        go_ret
        exact ⟨rfl, HB.out⟩
      · by_cases hy2 : 1000 < y
        · go_wp2_with fail
          go_ret
          exact ⟨rfl, HB.out⟩
        · have HKY := hid (show OkN (nth l k) by rw [HY.out]; unfold OkN; omega)
          go_wp2_with fail
          exact ⟨⟨k + 1, by omega, by go_num, upto_succ HOK.out HKY.out, HWR.out⟩, by simp [intOf] <;> omega⟩
    · have HOKL := hid (show ∀ i, i < l.length → OkN (nth l i) from fun i hi => HOK.out i (by omega))
      have hlt2 : ¬ (k : Int) < l.length := by omega
      clear HOK HWR
      have HWB := hid (show wo.heap.size ≤ wo.heap.size from Nat.le_refl _)
      go_wp2_with (
        at_builtin
        go_loud (
          refine wpList_append_E intE rfl (.tmp 40) (.tmp 41) 34 rfl wo.heap.size lo1 3 (.int .i64 0) 8 Try.underlying34 infoI42 rfl [] l (OwnE.lit intE wo wo.heap.size 3 [] _ wo.heap.size 0 rfl (Nat.le_refl _) rfl rfl (by simp)) ((HA.out.below HB.out).below ((Below.refl _ _).alloc (Nat.le_refl _) _)) (by simp; omega) (by simp [maxLen]; omega) (by simp) ?_
          intro v6 w6 ho6 hg6
          rw [List.nil_append] at ho6
          have HO6 := hid ho6
          have HB6 := hid (Below.grownE ((Below.refl wo.heap.size wo).alloc (Nat.le_refl _) (Obj.cells #[] 3)) (OwnE.lit intE wo wo.heap.size 3 [] #[] wo.heap.size 0 rfl (Nat.le_refl _) rfl rfl (by simp)) hg6 (by simp) (Nat.le_refl _))
          obtain ⟨xa, xc, rfl⟩ : ∃ a c, v6 = .slice a l.length c := ho6.anySlice
          clear ho6 hg6))
      clear hlt hlt2
      obtain ⟨n, hn⟩ : ∃ n, l.length = n := ⟨_, rfl⟩
      have HN := hid hn
      have HA2 := hid (show IntsAt lo1 wo (.slice aa n ac) l by rw [← hn]; exact HA.out.below HB.out)
      have HE2 := hid (HE.out.below HB.out)
      have HRNG := hid (fun u (hu : Steps l.length E mostI halfI l u) => steps_rng rfl HOKL.out hu)
      rw [hn] at HO6 HRNG hl8 ⊢
      clear hn
      go_loopg [7] (2 * lack l + 2) (fun gk ch wr => ∃ (u : List Int) (b : Bool), ch = .bool b ∧ OwnE intE wo.heap.size 3 wr (.slice xa n xc) u ∧ Steps n E mostI halfI l u ∧ (b = false → ClosedV n E mostI halfI u) ∧ Below wo.heap.size wo wr ∧ 2 * lack u + (if b then 1 else 0) < gk)
      case atStart => exact ⟨l, true, rfl, HO6.out, .refl _, fun h => (by cases h), HB6.out, by simp⟩
      case round =>
        clear HO6 HB6
        obtain ⟨u, b, rfl, hown, hst, hcl, hbl, hgk⟩ := hrel
        obtain ⟨wk, hwk⟩ : ∃ wk, wk = wr := ⟨_, rfl⟩
        subst hwk
        have HOWN := hid hown
        have HST := hid hst
        have HCL := hid hcl
        have HBL := hid hbl
        have HGK := hid hgk
        clear hown hst hcl hbl hgk
        cases b with
        | false =>
          have HBK := hid (bvia HB.out HBL.out)
          go_wp2_with fail
          refine (own42_calls lo2 _ E wk (HE2.out.below HBL.out) (by omega)).mono ?_
          rintro e w7 ⟨v7, rfl, h7, hb7⟩
          have H7 := hid h7
          have HB7 := hid hb7
          clear h7 hb7
          go_wp2_with fail
          refine (Solve_calls 0 lo1 v7 _ E l w7 H7.out ((HA2.out.below HBL.out).below HB7.out) (by omega) (by rw [HN.out]; omega) HOKL.out).mono ?_
          rintro e w8 ⟨v8, V, rfl, h8, hs8, hc8, hb8⟩
          rw [HN.out] at hs8 hc8
          have hVu := solved_unique HN.out hs8 HST.out hc8 (HCL.out (by simp))
          subst hVu
          have H8 := hid h8
          have HB8 := hid (bvia HB7.out hb8)
          have HX8 := hid (show IntsAt 0 w8 (.slice xa n xc) V from ((HOWN.out.sl (Nat.zero_le _) (by have := (HRNG.out V HST.out).1; omega)).below HB7.out).below hb8)
          clear h8 hs8 hc8 hb8
          go_wp2_with fail
          refine (rsame_calls 0 0 _ _ V V w8 H8.out HX8.out).mono ?_
          rintro e w9 ⟨rfl, hb9⟩
          rw [show intsEq V V = true by simp [intsEq]]
          have HB9 := hid (bvia (bvia HBK.out HB8.out) hb9)
          clear hb9
          go_wp2_with fail
          go_ret
          exact ⟨rfl, HB9.out⟩
        | true =>
          go_wp2_with fail
          go_loopw [7, 8] (fun ch i wr => ∃ (q : Nat) (u' : List Int) (b : Bool), q ≤ E.length ∧ i = .int .i64 q ∧ ch = .bool b ∧ OwnE intE wo.heap.size 3 wr (.slice xa n xc) u' ∧ Steps n E mostI halfI l u' ∧ Below wo.heap.size wo wr ∧ (b = false → u' = u ∧ ∀ j, j < q → insideB n (nth E j) = true → Sat E mostI halfI u j) ∧ (b = true → lack u' < lack u)) (fun _ i _ => E.length - (intOf i).toNat)
          case atStart => exact ⟨0, u, false, Nat.zero_le _, rfl, rfl, HOWN.out, HST.out, HBL.out, fun _ => ⟨rfl, fun j hj => by omega⟩, fun h => (by cases h)⟩
          case round =>
            clear HOWN HBL
            obtain ⟨q, u', b, hq, rfl, rfl, hown, hst, hbl, hfalse, htrue⟩ := hrel
            obtain ⟨wl, hwl⟩ : ∃ wl, wl = wr := ⟨_, rfl⟩
            subst hwl
            have HOWN := hid hown
            have HST2 := hid hst
            have HBL := hid hbl
            have HF := hid hfalse
            have HT := hid htrue
            have HBW := hid (bvia HB.out hbl)
            clear hown hst hbl hfalse htrue
            by_cases hqE : q < E.length
            · have hqE2 : (q : Int) < E.length := Int.ofNat_lt.2 hqE
              obtain ⟨p1, x0, x1, k1⟩ := HEO.out
              have e1 := p1 (by omega)
              subst e1
              have zE := k1 (by omega)
              have d0 := (HBW.out.cell (p := ⟨eb', _, none⟩) zE).trans (x0 q hqE)
              have d1 := (HBW.out.cell (p := ⟨eb', _, none⟩) zE).trans (x1 q hqE)
              clear p1 x0 x1 k1
              by_cases hin : insideB n (nth E q) = true
              · obtain ⟨b1, b2, b3, b4⟩ := (insideB_iff n _).1 hin
                obtain ⟨A, hA⟩ := Int.eq_ofNat_of_zero_le b1
                obtain ⟨D, hD⟩ := Int.eq_ofNat_of_zero_le b3
                rw [hA] at d0 b2
                rw [hD] at d1 b4
                have hAn : A < n := by omega
                have hDn : D < n := by omega
                have b5 : ¬ (n : Int) ≤ (A : Int) := by omega
                have b6 : ¬ (n : Int) ≤ (D : Int) := by omega
                obtain ⟨hul, hrng⟩ := HRNG.out u' HST2.out
                obtain ⟨g, cap, exa, hg1, hg2⟩ := HOWN.out.open (by omega)
                rw [hul] at exa
                obtain ⟨rfl, exn, rfl⟩ := Value.slice.inj exa
                clear exa exn
                have hcell : ∀ j, j < n → wl.cell? ⟨g, j, none⟩ = some (.int .i64 (nth u' j)) := fun j hj => by
                  have := HOWN.out.cellAt j 0 (by rw [hul]; exact hj) (by decide)
                  rw [show j * intE.sz + 0 = j by show j * 1 + 0 = j; omega] at this
                  exact this
                have y1 := hcell A hAn
                have y2 := hcell D hDn
                have hzA := hrng A hAn
                obtain ⟨za, hza⟩ : ∃ z, nth u' A = z := ⟨_, rfl⟩
                obtain ⟨zd, hzd⟩ : ∃ z, nth u' D = z := ⟨_, rfl⟩
                rw [hza] at y1 hzA
                rw [hzd] at y2
                have HZA := hid hzA
                have HUL := hid hul
                have HSATD := hid (show mostI zd (halfI q za) = mostI (nth u' (nth E q).dst.toNat) (halfI q (nth u' (nth E q).src.toNat)) by rw [hA, hD, Int.toNat_natCast, Int.toNat_natCast, hza, hzd])
                have HDD := hid (show (nth E q).dst.toNat = D by rw [hD, Int.toNat_natCast])
                have HIN := hid hin
                have HZD := hid hzd
                have HG1 := hid hg1
                clear hin hA hD b1 b2 b3 b4 hul hrng hza hzd hzA hcell
                by_cases hv : zd < halfI q za
                · have HV := hid hv
                  obtain ⟨t, ht⟩ : ∃ t, halfI q za = t := ⟨_, rfl⟩
                  have HTT := hid ht
                  rw [ht] at hv
                  clear ht
                  go_wp2_with (
                    go_at_call 33
                    refine (half_calls q za wl (by omega) HZA.out).mono ?_
                    rintro e w9 ⟨rfl, hb9⟩
                    rw [HTT.out]
                    have HB9 := hid hb9
                    have HO9 := hid (show OwnE intE wo.heap.size 3 w9 _ u' from HOWN.out.ofBlock fun k hk => hb9.block k (HOWN.out.lt k hk).2)
                    have y9 := (hb9.cell (p := ⟨g, D, none⟩) hg2).trans y2
                    have zg9 : g < w9.heap.size := Nat.lt_of_lt_of_le hg2 hb9.size
                    have zf9 := HO9.out.frozenAt D
                    clear hb9)
                  have hmt : mostI zd (halfI q za) = t := by rw [HTT.out]; unfold mostI; rw [if_neg (by omega)]
                  have hst2 := Steps.step (join := mostI) (tr := halfI) q HST2.out hqE HIN.out
                  rw [← HSATD.out, hmt, HDD.out] at hst2
                  have hlk := lack_set u' D t (by rw [HUL.out]; exact hDn)
                  have ht1000 : t ≤ 1000 := by rw [← HTT.out]; exact halfI_le q HZA.out.2
                  have hlt' : lack (u'.set D t) < lack u' := by rw [HZD.out] at hlk; omega
                  have hput := HO9.out.put D 0 (.int .i64 t) t (by rw [HUL.out]; exact hDn) (by decide) rfl
                  rw [show D * intE.sz + 0 = D by show D * 1 + 0 = D; omega] at hput
                  refine ⟨⟨q + 1, u'.set D t, true, by omega, by go_num, rfl, hput, hst2, (bvia HBL.out HB9.out).setCell HG1.out _, fun h => (by cases h), fun _ => ?_⟩, by simp [intOf] <;> omega⟩
                  cases b with
                  | false => rw [(HF.out rfl).1] at hlt'; exact (HF.out rfl).1 ▸ hlt'
                  | true => have := HT.out rfl; omega
                · have HV := hid hv
                  obtain ⟨t, ht⟩ : ∃ t, halfI q za = t := ⟨_, rfl⟩
                  have HTT := hid ht
                  rw [ht] at hv
                  clear ht
                  go_wp2_with (
                    go_at_call 33
                    refine (half_calls q za wl (by omega) HZA.out).mono ?_
                    rintro e w9 ⟨rfl, hb9⟩
                    rw [HTT.out]
                    have HB9 := hid hb9
                    have HO9 := hid (show OwnE intE wo.heap.size 3 w9 _ u' from HOWN.out.ofBlock fun k hk => hb9.block k (HOWN.out.lt k hk).2)
                    have y9 := (hb9.cell (p := ⟨g, D, none⟩) hg2).trans y2
                    have zg9 : g < w9.heap.size := Nat.lt_of_lt_of_le hg2 hb9.size
                    clear hb9)
                  refine ⟨⟨q + 1, u', b, by omega, by go_num, rfl, HO9.out, HST2.out, bvia HBL.out HB9.out, fun h => ⟨(HF.out h).1, ?_⟩, HT.out⟩, by simp [intOf] <;> omega⟩
                  have hf := HF.out h
                  intro j hj hjn
                  rcases Nat.lt_succ_iff_lt_or_eq.1 hj with e | e
                  · exact hf.2 j e hjn
                  · subst e
                    unfold Sat
                    rw [← hf.1, ← HSATD.out, HDD.out, HZD.out, HTT.out]
                    unfold mostI
                    split <;> omega
              · have HNI := hid (show ∀ b, (b = false → u' = u ∧ ∀ j, j < q → insideB n (nth E j) = true → Sat E mostI halfI u j) → (b = false → u' = u ∧ ∀ j, j < q + 1 → insideB n (nth E j) = true → Sat E mostI halfI u j) from fun b h hb => ⟨(h hb).1, fun j hj hjn => by
                  rcases Nat.lt_succ_iff_lt_or_eq.1 hj with e | e
                  · exact (h hb).2 j e hjn
                  · subst e; exact absurd hjn hin⟩)
                have hfin : ∃ (q' : Nat) (u'' : List Int) (b' : Bool), q' ≤ E.length ∧ Value.int .i64 ((q : Int) + 1) = .int .i64 q' ∧ Value.bool b = .bool b' ∧ OwnE intE wo.heap.size 3 wl (.slice xa n xc) u'' ∧ Steps n E mostI halfI l u'' ∧ Below wo.heap.size wo wl ∧ (b' = false → u'' = u ∧ ∀ j, j < q' → insideB n (nth E j) = true → Sat E mostI halfI u j) ∧ (b' = true → lack u'' < lack u) := ⟨q + 1, u', b, by omega, by go_num, rfl, HOWN.out, HST2.out, HBL.out, HNI.out b HF.out, HT.out⟩
                have HFIN := hid hfin
                clear hfin
                rw [insideB_iff] at hin
                obtain ⟨f, hf⟩ : ∃ f, (nth E q).src = f := ⟨_, rfl⟩
                obtain ⟨g, hg⟩ : ∃ g, (nth E q).dst = g := ⟨_, rfl⟩
                rw [hf] at d0 hin
                rw [hg] at d1 hin
                have HIN := hid hin
                clear hf hg hin
                by_cases h1 : f < 0
                · go_wp2_with fail
                  exact ⟨HFIN.out, by simp [intOf] <;> omega⟩
                · by_cases h2 : g < 0
                  · go_wp2_with fail
                    exact ⟨HFIN.out, by simp [intOf] <;> omega⟩
                  · by_cases h3 : (n : Int) ≤ f
                    · go_wp2_with fail
                      exact ⟨HFIN.out, by simp [intOf] <;> omega⟩
                    · have h4 : (n : Int) ≤ g := by have := HIN.out; omega
                      go_wp2_with fail
                      exact ⟨HFIN.out, by simp [intOf] <;> omega⟩
            · have hqE2 : ¬ (q : Int) < E.length := by omega
              go_wp2_with fail
              go_roundg (2 * lack u + 1)
              case measure => have := HGK.out; simpa using this
              case rel =>
                refine ⟨u', b, rfl, HOWN.out, HST2.out, fun h => ?_, HBL.out, ?_⟩
                · have := HF.out h
                  rw [this.1]
                  exact fun j hj hjn => this.2 j (by omega) hjn
                · cases b with
                  | false => rw [(HF.out rfl).1]; simp
                  | true => have := HT.out rfl; simp; omega

theorem lsolves_calls (lo1 : Nat) (va : Value) (l : List Int) (lo2 : Nat) (ve : Value) (E : List Edg) (w : World) (ha : IntsAt lo1 w va l) (hE : EdgesAt lo2 w ve E) :
    Calls Try.prog 10 #[va, ve] w fun e w' => e = .returned (.bool true) ∧ Below w.heap.size w w' := by
  by_cases h : 8 < l.length ∨ 16 < E.length
  · exact lsolves_no lo1 va l lo2 ve E w ha hE h
  · exact lsolves_yes lo1 va l lo2 ve E w ha hE (by omega) (by omega)

end Go.Proofs.Ytnbffkcnhphdnaa
