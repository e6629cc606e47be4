/-
  The reference's live registers.
-/
import Derived.Test.YteiohnfmlabelaaGreatZValid
import Derived.Test.YteiohnfmlabelaaGreatZUsesV
import Derived.Test.YteiohnfmlabelaaGreatZAft14
import Derived.Test.YteiohnfmlabelaaGreatZLvDead
import Derived.Test.YteiohnfmlabelaaGreatZREqual
namespace Go.Proofs.YteiohnfmlabelaaGreat
set_option linter.unusedVariables false
set_option linter.unusedSimpArgs false
open Go.RowKit

/-- The number of elements of a row of rows, counted in memory. -/
def gcount (w : World) (g n : Nat) : Nat := ((List.range n).map fun i => match w.cell? ⟨g, i, none⟩ with
  | some (.slice _ m _) => m
  | _ => 0).sum
theorem GridAt.rowlen {g : Nat} {w : World} {ss : List Slc} {s : List (List Int)} (h : GridAt g w ss s) (i : Nat) (hi : i < s.length) : (nth ss i).n = (nth s i).length := SlE.len (h.row i hi)
theorem GridAt.count {g : Nat} {w : World} {ss : List Slc} {s : List (List Int)} (h : GridAt g w ss s) : gcount w g s.length = totalS s := by
  unfold gcount totalS
  congr 1
  refine List.ext_getElem (by simp) fun i h1 h2 => ?_
  have hil : i < s.length := by simpa using h1
  simp only [List.getElem_map, List.getElem_range]
  rw [h.cell i hil]
  show (nth ss i).n = _
  rw [h.rowlen i hil, nth_eq _ _ hil]
/-- What the reference adds to the registers that an instruction reads. -/
def restL (D O : List Int) : List Int := O.filter fun r => !D.contains r
theorem restL_in (D O : List Int) (j : Nat) (hj : j < O.length) (h : nth O j ∈ D) : restL D (O.take (j + 1)) = restL D (O.take j) := by
  unfold restL
  rw [List.take_add_one, List.getElem?_eq_getElem hj, ← nth_eq _ _ hj, List.filter_append]
  simp [h]
theorem restL_out (D O : List Int) (j : Nat) (hj : j < O.length) (h : nth O j ∉ D) : restL D (O.take (j + 1)) = restL D (O.take j) ++ [nth O j] := by
  unfold restL
  rw [List.take_add_one, List.getElem?_eq_getElem hj, ← nth_eq _ _ hj, List.filter_append]
  simp [h]
theorem beforeL_eq (p : Prg) (F : Nat) (s : List (List Int)) (K : Nat) : beforeL p F s K = setL (usesC p F K ++ restL (defsC p F K) (afterL p F s K)) := rfl

theorem inis_no {p : Prg} {fn : Int} (h : thereB p fn = false) : InIs p fn [] := .inl ⟨h, rfl⟩

set_option maxRecDepth 100000 in
set_option maxHeartbeats 4000000 in
theorem rin_no (lo : Nat) (vf vg vl : Value) (p : Prg) (fn : Int) (w : World) (hp : ProgAt lo w vf vg vl p) (ht : thereB p fn = false) :
    Calls Tryz.prog 30 #[.agg #[vf, vg, vl, .int .i64 p.main], .int .i64 fn] w fun e w' => e = .returned (.slice none 0 0) ∧ Below w.heap.size w w' := by
  have HP := hid hp
  obtain ⟨fa, fc, fb, fo, S, rfl, p1, _, _, _, _, _, k1, _, m1, n1⟩ := hp.funcs.open
  obtain ⟨ga, gc, _, _, rfl, _⟩ := hp.globs.open
  obtain ⟨la, lc, _, _, _, rfl, _⟩ := hp.lays.open
  clear hp p1 k1
  cases hv : validB p with
  | false =>
    have HV := hid hv
    clear hv ht
    go_enter Tryz.func30, Tryz.ntmps30
    have HB := hid (show Below w.heap.size w (w.alloc (.cells #[.slice fa p.funcs.length fc, .slice ga p.globals.length gc, .slice la p.layouts.length lc, .int .i64 p.main] 26)) from (Below.refl _ _).alloc (Nat.le_refl _) _)
    go_wp2_with (
      go_at_call 13
      refine (valid_calls lo _ _ _ p _ (HP.out.below HB.out)).mono ?_
      rw [HV.out]
      rintro e w1 ⟨rfl, hb1⟩)
    go_ret
    exact ⟨rfl, HB.out.trans (hb1.mono (by simp))⟩
  | true =>
    have HV := hid hv
    by_cases h0 : fn < 0
    · clear hv ht
      go_enter Tryz.func30, Tryz.ntmps30
      have HB := hid (show Below w.heap.size w (w.alloc (.cells #[.slice fa p.funcs.length fc, .slice ga p.globals.length gc, .slice la p.layouts.length lc, .int .i64 p.main] 26)) from (Below.refl _ _).alloc (Nat.le_refl _) _)
      go_wp2_with (
        go_at_call 13
        refine (valid_calls lo _ _ _ p _ (HP.out.below HB.out)).mono ?_
        rw [HV.out]
        rintro e w1 ⟨rfl, hb1⟩)
      go_ret
      exact ⟨rfl, HB.out.trans (hb1.mono (by simp))⟩
    · have h1 : (p.funcs.length : Int) ≤ fn := by
        unfold thereB at ht
        rw [hv, decide_eq_true (show 0 ≤ fn by omega)] at ht
        simp at ht
        exact ht
      clear hv ht
      go_enter Tryz.func30, Tryz.ntmps30
      have HB := hid (show Below w.heap.size w (w.alloc (.cells #[.slice fa p.funcs.length fc, .slice ga p.globals.length gc, .slice la p.layouts.length lc, .int .i64 p.main] 26)) from (Below.refl _ _).alloc (Nat.le_refl _) _)
      go_wp2_with (
        go_at_call 13
        refine (valid_calls lo _ _ _ p _ (HP.out.below HB.out)).mono ?_
        rw [HV.out]
        rintro e w1 ⟨rfl, hb1⟩
        have b0 : w1.cell? ⟨w.heap.size, 0, none⟩ = some (.slice fa p.funcs.length fc) := (hb1.cell (by simp)).trans (by simp)
        have b4 : w.heap.size < w1.heap.size := by have := hb1.size; simp at this; omega)
      go_ret
      exact ⟨rfl, HB.out.trans (hb1.mono (by simp))⟩

theorem passAt_same {p : Prg} {F : Nat} {s : List (List Int)} {K : Nat} (hK : K < s.length) (h : beforeL p F s K = nth s K) : passAt p F s K = s := by
  unfold passAt
  rw [h, nth_eq _ _ hK]
  exact List.set_getElem_self hK

set_option maxRecDepth 100000 in
set_option maxHeartbeats 16000000 in
theorem rin_yes (lo : Nat) (vf vg vl : Value) (p : Prg) (F : Nat) (w : World) (hp : ProgAt lo w vf vg vl p) (hv : validB p = true) (hF : F < p.funcs.length) :
    Calls Tryz.prog 30 #[.agg #[vf, vg, vl, .int .i64 p.main], .int .i64 F] w fun e w' => ∃ g n L, e = .returned (.slice (some ⟨g, 0, none⟩) n n) ∧ n = (nth p.funcs F).code.length ∧ IsLive p F n L ∧ LaysAt w.heap.size w' (.slice (some ⟨g, 0, none⟩) n n) L ∧ Below w.heap.size w w' := by
  have HP := hid hp
  have HV := hid hv
  have HFL := hid hF
  have hfok := fok_of_funcB (valid_func hv F hF)
  have hpos := hfok.pos
  have hle := hfok.le
  obtain ⟨fa, fc, fb, fo, S, rfl, p1, x0, x1, x2, x3, xi, k1, _, m1, n1⟩ := hp.funcs.open
  obtain ⟨ga, gc, _, _, rfl, hz2⟩ := hp.globs.open
  obtain ⟨la, lc, _, _, _, rfl, hz3⟩ := hp.lays.open
  have e1 := p1 (by omega)
  subst e1
  have z1 := k1 (by omega)
  have hF2 : (F : Int) < p.funcs.length := Int.ofNat_lt.2 hF
  have d3 := x3 F hF
  obtain ⟨n, hn⟩ : ∃ n, (nth p.funcs F).code.length = n := ⟨_, rfl⟩
  have HN := hid hn
  rw [hn] at hpos hle d3
  have D3 := hid d3
  have hge : ¬ p.funcs.length ≤ F := by omega
  have hge2 : ¬ (p.funcs.length : Int) ≤ F := by omega
  have hge3 : ¬ (F : Int) < 0 := by omega
  have hmk := run_make_row' (P := Tryz.prog) 24 36 (.slice none 0 0) 24 Tryz.underlying24 infoRow rfl .i64 .i64 n (by omega) (by omega)
  clear hp hv hfok hn hF p1 x0 x1 x2 x3 xi k1 hz2 hz3 d3
  go_enter Tryz.func30, Tryz.ntmps30
  have HB := hid (show Below w.heap.size w (w.alloc (.cells #[.slice (some ⟨fb, fo, none⟩) p.funcs.length fc, .slice ga p.globals.length gc, .slice la p.layouts.length lc, .int .i64 p.main] 26)) from (Below.refl _ _).alloc (Nat.le_refl _) _)
  go_wp2_with (
    go_at_call 13
    refine (valid_calls lo _ _ _ p _ (HP.out.below HB.out)).mono ?_
    rw [HV.out]
    rintro e w1 ⟨rfl, hb1⟩
    have b0 : w1.cell? ⟨w.heap.size, 0, none⟩ = some (.slice (some ⟨fb, fo, none⟩) p.funcs.length fc) := (hb1.cell (by simp)).trans (by simp)
    have b4 : w.heap.size < w1.heap.size := by have := hb1.size; simp at this; omega
    have b5 : fb < w1.heap.size := by omega
    have b6 : w1.cell? ⟨fb, fo + F * 4 + 3, none⟩ = some (.slice (S F).a n (S F).c) := ((HB.out.trans (hb1.mono (by simp))).cell z1).trans D3.out
    have RP := hid (show BoxAt w1 w.heap.size 26 [.slice (some ⟨fb, fo, none⟩) p.funcs.length fc, .slice ga p.globals.length gc, .slice la p.layouts.length lc, .int .i64 p.main] from (BoxAt.new w _ _ _ _ rfl rfl).below hb1)
    have HB1 := hid (HB.out.trans (hb1.mono (by simp)))
    clear hb1)
  generalize hW : World.alloc _ _ = W
  have hg : GridAt w1.heap.size W (List.replicate n ⟨none, 0, 0⟩) (List.replicate n []) := by
    rw [← hW]
    exact GridAt.start n (BoxAt.new _ _ _ _ _ rfl (made_list _ _))
  have HBW := hid (show Below w1.heap.size w1 W by rw [← hW]; exact (Below.refl _ _).alloc (Nat.le_refl _) _)
  have HG := hid hg
  clear hW hg b0 b5 b6 hmk
  go_wp2_with fail
  go_loopw [6] (fun mo wr => ∃ (s : List (List Int)) (ss : List Slc) (b : Bool), mo = .bool b ∧ (∃ k, s = iterL p F n k) ∧ (b = false → passL p F n s = s) ∧ GridAt w1.heap.size wr ss s ∧ Below w1.heap.size w1 wr) (fun mo wr => 2 * (64 * n - gcount wr w1.heap.size n) + chV mo)
  case atStart => exact ⟨_, _, true, rfl, ⟨0, rfl⟩, (fun h => by cases h), HG.out, HBW.out⟩
  case round =>
    obtain ⟨s0, ss0, b0, rfl, hit, hfix, hgr, hbl⟩ := hrel
    obtain ⟨wo, hwo⟩ : ∃ wo, wo = wr := ⟨_, rfl⟩
    subst hwo
    have HIT := hid hit
    have HS0 := hid (show Fine p F n s0 by obtain ⟨k, rfl⟩ := hit; exact Fine.iter HV.out HFL.out k)
    have HFIX := hid hfix
    have HGR := hid hgr
    have HBL := hid hbl
    have HM0 := hid (show gcount wo w1.heap.size n = totalS s0 by have := hgr.count; rw [HS0.out.len] at this; exact this)
    clear hit hfix hgr hbl
    cases b0 with
    | false =>
      go_wp2_with fail
      go_ret
      exact ⟨_, n, rfl, HN.out.symm, s0, ⟨HIT.out, HFIX.out (by simp)⟩, HGR.out.lays HB1.out.size HS0.out.len (by omega), HB1.out.trans (HBL.out.mono HB1.out.size)⟩
    | true =>
      go_wp2_with fail
      go_loopw [6, 7] (fun mo i wr => ∃ (s : List (List Int)) (ss : List Slc) (b : Bool) (d : Nat), mo = .bool b ∧ d ≤ n ∧ i = .int .i64 ((n : Int) - 1 - d) ∧ s = stepsL p F n s0 d ∧ (b = false → s = s0) ∧ (b = true → totalS s0 < totalS s) ∧ GridAt w1.heap.size wr ss s ∧ Below w1.heap.size w1 wr) (fun _ i _ => (intOf i + 1).toNat)
      case atStart => exact ⟨s0, ss0, false, 0, rfl, Nat.zero_le _, by simp, rfl, fun _ => rfl, (fun h => by cases h), HGR.out, HBL.out⟩
      case round =>
        obtain ⟨s, ss, b, d, rfl, hd, rfl, hs, hfalse, htrue, hgr, hbl⟩ := hrel
        obtain ⟨wi, hwi⟩ : ∃ wi, wi = wr := ⟨_, rfl⟩
        subst hwi
        have HSE := hid hs
        have HFS := hid (show Fine p F n s by rw [hs]; exact (Fine.steps HV.out HFL.out HS0.out d hd).1)
        have HFA := hid hfalse
        have HTR := hid htrue
        have HGI := hid hgr
        have HBI := hid hbl
        clear hs hfalse htrue hgr hbl
        by_cases hdn : d < n
        · obtain ⟨K, hK⟩ : ∃ K : Nat, K = n - 1 - d := ⟨_, rfl⟩
          have hKi : (n : Int) - 1 - d = (K : Int) := by omega
          have hKn : K < n := by omega
          have hKn2 : (K : Int) < n := by omega
          rw [hKi]
          have HK := hid hK
          have HKN := hid hKn
          clear hK hKi
          have hrp := RP.out.below HBI.out
          have c0 := hrp.cell 0 _ rfl
          have c1 := hrp.cell 1 _ rfl
          have c2 := hrp.cell 2 _ rfl
          have c3 := hrp.cell 3 _ rfl
          have c7 := hrp.lt
          have HPI := hid (HP.out.below (HB1.out.trans (HBI.out.mono HB1.out.size)))
          clear hrp
          go_wp2_with (first
            | (go_at_call 56
               refine (ruses_calls lo _ _ _ p F K _ HPI.out HV.out).mono ?_
               rintro e w5 ⟨v5, rfl, hi5, hb5⟩
               have HU := hid hi5
               have HB5 := hid hb5
               have c0 := (hb5.cell (p := ⟨w.heap.size, 0, none⟩) c7).trans c0
               have c1 := (hb5.cell (p := ⟨w.heap.size, 1, none⟩) c7).trans c1
               have c2 := (hb5.cell (p := ⟨w.heap.size, 2, none⟩) c7).trans c2
               have c3 := (hb5.cell (p := ⟨w.heap.size, 3, none⟩) c7).trans c3
               have c8 := Nat.lt_of_lt_of_le c7 hb5.size
               clear hi5 hb5)
            | (go_at_call 57
               refine (rdefs_calls lo _ _ _ p F K _ (HPI.out.below HB5.out) HV.out).mono ?_
               rintro e w6 ⟨v6, rfl, hi6, hb6⟩
               have HD := hid hi6
               have HB6 := hid hb6
               have c0 := (hb6.cell (p := ⟨w.heap.size, 0, none⟩) c8).trans c0
               have c1 := (hb6.cell (p := ⟨w.heap.size, 1, none⟩) c8).trans c1
               have c2 := (hb6.cell (p := ⟨w.heap.size, 2, none⟩) c8).trans c2
               have c3 := (hb6.cell (p := ⟨w.heap.size, 3, none⟩) c8).trans c3
               have c9 := Nat.lt_of_lt_of_le c8 hb6.size
               clear hi6 hb6)
            | (go_at_call 33
               refine (after_calls lo w1.heap.size _ _ _ _ p F K s _ (HPI.out.below (bvia HB5.out HB6.out)) HV.out HFL.out (by rw [HN.out]; exact HKN.out) ((HGI.out.below (bvia HB5.out HB6.out)).lays (Nat.le_refl _) HFS.out.len (by omega)) (by rw [HN.out]; exact HFS.out.len) HFS.out.reg).mono ?_
               rintro e w7 ⟨v7, rfl, hi7, hb7⟩
               have HA := hid hi7
               have HB7 := hid hb7
               clear hi7 hb7))
          have HB9 := hid (bvia HB5.out (bvia HB6.out HB7.out))
          have HU7 := hid ((HU.out.mono (show w1.heap.size + 1 ≤ wi.heap.size from HGI.out.lt)).below (bvia HB6.out HB7.out))
          have HD7 := hid (HD.out.below HB7.out)
          have HS7 := hid HB5.out.size
          obtain ⟨oa, oc, ob, oo, rfl, o1, o2, o3, _, o4, o5, o6⟩ := HA.out.open
          obtain ⟨O, hO⟩ : ∃ O, afterL p F s K = O := ⟨_, rfl⟩
          have HOE := hid hO
          have HOR := hid (show ∀ r ∈ O, 0 ≤ r ∧ r < 64 by rw [← hO]; exact after_reg HV.out HFL.out HFS.out.reg K)
          have HUR := hid (show ∀ r ∈ usesC p F K, 0 ≤ r ∧ r < 64 from fun r hr => by have h1 := uses_in HV.out F K HFL.out r hr; have := fun_regs HV.out F HFL.out; omega)
          rw [hO] at o1 o2 o3 o6
          have HOO := hid (And.intro o1 (And.intro o2 o3))
          rw [hO]
          obtain ⟨U, hU⟩ : ∃ U, usesC p F K = U := ⟨_, rfl⟩
          obtain ⟨D, hD⟩ : ∃ D, defsC p F K = D := ⟨_, rfl⟩
          rw [hU] at HU7 HUR
          rw [hD] at HD7
          have HSU := hid (show setL U = U from inc_ext _ _ (setL_inc U) (by rw [← hU]; exact uses_inc p F K) fun r => setL_mem U r)
          have HBE := hid (show beforeL p F s K = setL (U ++ restL D O) by rw [beforeL_eq, hU, hD, hO])
          clear hO hU hD o1 o2 o3 HU HD HA c0 c1 c2 c3 c7 c8 c9
          go_wp2_with fail
          go_loopw [8, 11] (fun v i wr => ∃ j : Nat, j ≤ O.length ∧ i = .int .i64 j ∧ IntsAt (w1.heap.size + 1) wr v (setL (U ++ restL D (O.take j))) ∧ Below w7.heap.size w7 wr) (fun _ i _ => O.length - (intOf i).toNat)
          case atStart => exact ⟨0, Nat.zero_le _, rfl, by rw [List.take_zero, show restL D [] = [] from rfl, List.append_nil, HSU.out]; exact HU7.out, Below.refl _ _⟩
          case round =>
            obtain ⟨j, hj, rfl, hi, hb8⟩ := hrel
            obtain ⟨wl, hwl⟩ : ∃ wl, wl = wr := ⟨_, rfl⟩
            subst hwl
            have HI := hid hi
            have HB8 := hid hb8
            have HGL := hid (HGI.out.below (bvia HB9.out hb8))
            have gl := HGL.out.lt
            clear hi hb8
            by_cases hjl : j < O.length
            · have hjl2 : (j : Int) < O.length := by omega
              obtain ⟨o1, o2, o3⟩ := HOO.out
              have e3 := o1 (by omega)
              subst e3
              have b1 : ob < wl.heap.size := by have := o3 (by omega); have := HB8.out.size; omega
              have g0 := (HB8.out.cell (o3 (by omega))).trans (o2 j hjl)
              obtain ⟨y, hy⟩ : ∃ y, nth O j = y := ⟨_, rfl⟩
              rw [hy] at g0
              by_cases hm : y ∈ D
              · have HM := hid (show decide (y ∈ D) = true from decide_eq_true hm)
                have HSY := hid (show restL D (O.take (j + 1)) = restL D (O.take j) from restL_in D O j hjl (by rw [hy]; exact hm))
                clear o1 o2 o3 hy hm
                go_wp2_with (
                  go_at_call 32
                  refine (rhas_calls _ _ _ y _ (HD7.out.below HB8.out)).mono ?_
                  rw [HM.out]
                  rintro e w9 ⟨rfl, hb9⟩
                  have HB10 := hid hb9
                  clear hb9)
                go_roundw
                case rel => exact ⟨j + 1, by omega, by go_num, by rw [HSY.out]; exact HI.out.below HB10.out, bvia HB8.out HB10.out⟩
                case measure => simp [intOf] <;> omega
              · have HM := hid (show decide (y ∈ D) = false from decide_eq_false hm)
                have HSY := hid (show setL (U ++ restL D (O.take (j + 1))) = withL (setL (U ++ restL D (O.take j))) y by
                  rw [restL_out D O j hjl (by rw [hy]; exact hm), ← setL_snoc, hy, List.append_assoc])
                have HLN := hid (show (setL (U ++ restL D (O.take j))).length ≤ 64 from setL_64 fun r hr => by
                  rcases List.mem_append.1 hr with h | h
                  · exact HUR.out r h
                  · exact HOR.out r (List.mem_of_mem_take (List.mem_filter.1 h).1))
                clear o1 o2 o3 hy hm
                go_wp2_with (first
                  | (go_at_call 32
                     refine (rhas_calls _ _ _ y _ (HD7.out.below HB8.out)).mono ?_
                     rw [HM.out]
                     rintro e w9 ⟨rfl, hb9⟩
                     have HB10 := hid hb9
                     have g0 := (hb9.cell (p := ⟨ob, oo + j, none⟩) b1).trans g0
                     have b2 : ob < w9.heap.size := Nat.lt_of_lt_of_le b1 hb9.size
                     clear hb9)
                  | (go_at_call 58
                     refine (with_calls (w1.heap.size + 1) _ _ y _ (HI.out.below HB10.out) (by have := HB10.out.size; omega) (by have := HLN.out; omega)).mono ?_
                     rintro e w10 ⟨v10, rfl, hi10, hb10, _⟩
                     have HI10 := hid hi10
                     have HB11 := hid hb10
                     clear hi10 hb10))
                go_roundw
                case rel => exact ⟨j + 1, by omega, by go_num, by rw [HSY.out]; exact HI10.out, bvia HB8.out (bvia HB10.out HB11.out)⟩
                case measure => simp [intOf] <;> omega
            · have HJ := hid (show j = O.length by omega)
              obtain ⟨a8, n8, c8, rfl⟩ := HI.out.slc
              have HI9 := hid (show IntsAt (w1.heap.size + 1) wl (.slice a8 n8 c8) (beforeL p F s K) by
                have := HI.out
                rw [HJ.out, List.take_length, ← HBE.out] at this
                exact this)
              have hrow := HGL.out.row K (by rw [HFS.out.len]; exact HKN.out)
              have HROW := hid hrow
              have g0 : wl.cell? ⟨w1.heap.size, K, none⟩ = some (.slice (nth ss K).a (nth ss K).n (nth ss K).c) := HGL.out.cell K (by rw [HFS.out.len]; exact HKN.out)
              have f0 := HGL.out.box.frozen K
              clear hrow HI
              by_cases he : beforeL p F s K = nth s K
              · have HE := hid (show intsEq (beforeL p F s K) (nth s K) = true from decide_eq_true he)
                have HSA := hid (passAt_same (by rw [HFS.out.len]; exact HKN.out) he)
                clear he
                go_wp2_with (
                  go_at_call 18
                  refine (ints_calls _ _ _ _ _ _ _ HI9.out HROW.out).mono ?_
                  rw [HE.out]
                  rintro e w9 ⟨rfl, hb9⟩
                  have HB10 := hid hb9
                  clear hb9)
                go_roundw
                case rel => exact ⟨s, ss, b, d + 1, rfl, by omega, by have := HK.out; congr 1; omega, by rw [stepsL, ← HSE.out, ← HK.out]; exact HSA.out.symm, HFA.out, HTR.out, HGL.out.below HB10.out, HBI.out.trans ((bvia HB9.out (bvia HB8.out HB10.out)).mono HBI.out.size)⟩
                case measure => simp [intOf] <;> omega
              · have HE := hid (show intsEq (beforeL p F s K) (nth s K) = false from decide_eq_false he)
                have HLT := hid (show totalS s0 < totalS (passAt p F s K) by
                  rcases HFS.out.step_total HV.out HFL.out K HKN.out with ⟨h1, _⟩ | ⟨_, h2⟩
                  · exact absurd h1.symm he
                  · cases b with
                    | true => have := HTR.out (by simp); omega
                    | false => have := HFA.out (by simp); rw [this] at h2 ⊢; exact h2)
                clear he
                go_wp2_with (
                  go_at_call 18
                  refine (ints_calls _ _ _ _ _ _ _ HI9.out HROW.out).mono ?_
                  rw [HE.out]
                  rintro e w9 ⟨rfl, hb9⟩
                  have HB10 := hid hb9
                  have g0 := (hb9.cell (p := ⟨w1.heap.size, K, none⟩) gl).trans g0
                  have gl9 := Nat.lt_of_lt_of_le gl hb9.size
                  have f0 := (HGL.out.below hb9).box.frozen K
                  clear hb9)
                have hgn := (HGL.out.below HB10.out).put K ⟨a8, n8, c8⟩ (beforeL p F s K) (by rw [HFS.out.len]; exact HKN.out) (HI9.out.below HB10.out)
                have hbn := (HBI.out.trans ((bvia HB9.out (bvia HB8.out HB10.out)).mono HBI.out.size)).setCell (show w1.heap.size ≤ (⟨w1.heap.size, K, none⟩ : Addr).block from Nat.le_refl _) (.slice a8 n8 c8)
                go_roundw
                case rel => exact ⟨passAt p F s K, _, true, d + 1, rfl, by omega, by have := HK.out; congr 1; omega, by rw [stepsL, ← HSE.out, ← HK.out], (fun h => by cases h), fun _ => HLT.out, hgn, hbn⟩
                case measure => simp [intOf] <;> omega
        · have hdn2 : d = n := by omega
          have HDN := hid hdn2
          have hti : ¬ (0 : Int) ≤ (n : Int) - 1 - d := by omega
          clear hdn2
          go_wp2_with fail
          have hcnt : gcount wi w1.heap.size n = totalS s := by have := HGI.out.count; rw [HFS.out.len] at this; exact this
          go_roundw
          case rel =>
            refine ⟨s, ss, b, rfl, ?_, fun h => ?_, HGI.out, HBI.out⟩
            · obtain ⟨k, hk⟩ := HIT.out
              exact ⟨k + 1, by rw [HSE.out, HDN.out, iterL, ← hk]; rfl⟩
            · have h4 := HSE.out
              rw [HDN.out] at h4
              have h5 := HFA.out h
              rw [h5] at h4 ⊢
              exact h4.symm
          case measure =>
            have h0 := HM0.out
            have h5 := HS0.out.total
            have h7 := HFS.out.total
            cases b with
            | true => have := HTR.out rfl; simp only [chV]; omega
            | false => have h1 := HFA.out rfl; rw [h1] at hcnt; simp only [chV]; omega

/-- The reference's In, too. -/
theorem rin_calls (lo : Nat) (vf vg vl : Value) (p : Prg) (fn : Int) (w : World) (hp : ProgAt lo w vf vg vl p) :
    Calls Tryz.prog 30 #[.agg #[vf, vg, vl, .int .i64 p.main], .int .i64 fn] w fun e w' => ∃ v' L, e = .returned v' ∧ InIs p fn L ∧ LaysAt w.heap.size w' v' L ∧ Below w.heap.size w w' := by
  cases ht : thereB p fn with
  | false =>
    refine (rin_no lo vf vg vl p fn w hp ht).mono ?_
    rintro e w' ⟨rfl, hb⟩
    exact ⟨_, [], rfl, .inl ⟨ht, rfl⟩, ⟨[], rfl, SlE.nil _ _ _, fun i hi => by simp at hi⟩, hb⟩
  | true =>
    obtain ⟨h0, h1, hv⟩ := there_get ht
    obtain ⟨F, rfl⟩ := Int.eq_ofNat_of_zero_le h0
    refine (rin_yes lo vf vg vl p F w hp hv (by omega)).mono ?_
    rintro e w' ⟨g, n, L, rfl, hn, hL, hl, hb⟩
    exact ⟨_, L, rfl, .inr ⟨ht, by rw [Int.toNat_natCast, ← hn]; exact hL⟩, hl, hb⟩
theorem InIs.unique {p : Prg} {fn : Int} {L L' : List (List Int)} (h : InIs p fn L) (h' : InIs p fn L') : L = L' := by
  rcases h with ⟨h1, rfl⟩ | ⟨h1, h2⟩ <;> rcases h' with ⟨h3, rfl⟩ | ⟨h3, h4⟩
  · rfl
  · rw [h1] at h3; cases h3
  · rw [h1] at h3; cases h3
  · exact h2.unique h4

end Go.Proofs.YteiohnfmlabelaaGreat
