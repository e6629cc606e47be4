/-
  The law's search for a path to a use of a register.
-/
import Derived.Test.YtlgedpiabooloaaZUsesV
import Derived.Test.YtlgedpiabooloaaZAft14
import Derived.Test.YtlgedpiabooloaaZPath
namespace Go.Proofs.Ytlgedpiabooloaa
set_option linter.unusedVariables false
set_option linter.unusedSimpArgs false
open Go.RowKit

open Classical in
noncomputable def readsB (p : Prg) (F i : Nat) (reg : Int) : Bool := decide (∃ j, LPath p F reg i j ∧ reg ∈ usesC p F j)
theorem readsB_iff (p : Prg) (F i : Nat) (reg : Int) : readsB p F i reg = true ↔ ∃ j, LPath p F reg i j ∧ reg ∈ usesC p F j := by unfold readsB; simp
def LSound (p : Prg) (F i : Nat) (reg : Int) (n : Nat) (s : List Bool) : Prop := ∀ j, j < n → nth s j = true → LPath p F reg i j
def LClosedAt (p : Prg) (F : Nat) (reg : Int) (s : List Bool) (j : Nat) : Prop := nth s j = true → reg ∉ usesC p F j ∧ (reg ∉ defsC p F j → ∀ x ∈ nextL (nth p.funcs F).code j, nth s x.toNat = true)
theorem reads_false {p : Prg} {F n i : Nat} {reg : Int} {s : List Bool} (hv : validB p = true) (hF : F < p.funcs.length) (hn : (nth p.funcs F).code.length = n) (hi : i < n) (h0 : nth s i = true) (hc : ∀ j, j < n → LClosedAt p F reg s j) : readsB p F i reg = false := by
  cases h : readsB p F i reg with
  | false => rfl
  | true =>
    exfalso
    obtain ⟨j, hp, hu⟩ := (readsB_iff p F i reg).1 h
    have key : ∀ j, LPath p F reg i j → nth s j = true := by
      intro j hp
      induction hp with
      | refl => exact h0
      | @step j t h1 h2 h3 ih => exact (hc j (path_lt hv hF hn h1 hi) ih).2 h2 t h3
    exact (hc j (path_lt hv hF hn hp hi) (key j hp)).1 hu
theorem lsound_set {p : Prg} {F n i : Nat} {reg : Int} {s : List Bool} (h : LSound p F i reg n s) (hl : s.length = n) (y : Nat) (hp : LPath p F reg i y) : LSound p F i reg n (s.set y true) := by
  intro j hj hs
  rw [nth_set _ _ _ _ (by omega)] at hs
  split at hs
  · rename_i e; rw [e]; exact hp
  · exact h j hj hs

set_option maxRecDepth 100000 in
set_option maxHeartbeats 10000000 in
theorem reads_calls (lo : Nat) (vf vg vl : Value) (p : Prg) (F K : Nat) (reg : Int) (w : World) (hp : ProgAt lo w vf vg vl p) (hv : validB p = true) (hF : F < p.funcs.length) (hK : K < (nth p.funcs F).code.length) :
    Calls Try.prog 17 #[.agg #[vf, vg, vl, .int .i64 p.main], .int .i64 F, .int .i64 K, .int .i64 reg] w fun e w' => e = .returned (.bool (readsB p F K reg)) ∧ Below w.heap.size w w' := by
  have HP := hid hp
  have HV := hid hv
  have HFL := hid hF
  have hfok := fok_of_funcB (valid_func hv F hF)
  have HNX := hid hfok.jok.nx
  have hpos := hfok.pos
  have hle := hfok.le
  obtain ⟨fa, fc, fb, fo, S, rfl, p1, x0, x1, x2, x3, xi, k1, _, m1, n1⟩ := hp.funcs.open
  obtain ⟨ga, gc, _, _, rfl, hz2⟩ := hp.globs.open
  obtain ⟨la, lc, _, _, _, rfl, hz3⟩ := hp.lays.open
  have e1 := p1 (by omega)
  subst e1
  have z1 := k1 (by omega)
  have hF2 : (F : Int) < p.funcs.length := Int.ofNat_lt.2 hF
  have hK2 : (K : Int) < (nth p.funcs F).code.length := Int.ofNat_lt.2 hK
  have d0 := x0 F hF
  have d1 := x1 F hF
  have d2 := x2 F hF
  have d3 := x3 F hF
  have hcode := xi F hF
  obtain ⟨n, hn⟩ : ∃ n, (nth p.funcs F).code.length = n := ⟨_, rfl⟩
  have HN := hid hn
  have HC0 := hid (show CodeAt lo w (.slice (S F).a n (S F).c) (nth p.funcs F).code by rw [← hn]; exact hcode)
  rw [hn] at d3 hK hK2 hpos hle HNX
  obtain ⟨fname, hfn⟩ : ∃ q, (nth p.funcs F).name = q := ⟨_, rfl⟩
  obtain ⟨fpar, hfp⟩ : ∃ q, (nth p.funcs F).params = q := ⟨_, rfl⟩
  obtain ⟨freg, hfr⟩ : ∃ q, (nth p.funcs F).regs = q := ⟨_, rfl⟩
  rw [hfn] at d0
  rw [hfp] at d1
  rw [hfr] at d2
  obtain ⟨sa, hsa⟩ : ∃ q, (S F).a = q := ⟨_, rfl⟩
  obtain ⟨sc, hsc⟩ : ∃ q, (S F).c = q := ⟨_, rfl⟩
  rw [hsa, hsc] at d3 HC0
  have hmk := run_make_row' (P := Try.prog) 43 4 (.bool false) 1 Try.underlying43 infoB rfl .i64 .i64 n (by omega) (by omega)
  have hmK : (madeCells #[Value.bool false] n)[K]? = some (.bool false) := by rw [← Array.getElem?_toList, toList_madeCells_one]; simp [hK]
  clear hp hv hF hfok hn hfn hfp hfr hsa hsc hcode p1 x0 x1 x2 x3 xi k1 hz2 hz3
  go_enter Try.func17, Try.ntmps17
  go_wp2_with fail
  generalize hW1 : World.alloc (World.alloc _ _) _ = W1
  have hrow : RowB W1 (w.heap.size + 1) ((List.replicate n false).set K true) := by
    rw [← hW1]
    have := RowB.new (w.alloc (.cells #[.slice (some ⟨fb, fo, none⟩) p.funcs.length fc, .slice ga p.globals.length gc, .slice la p.layouts.length lc, .int .i64 p.main] 26)) ((madeCells #[Value.bool false] n).setIfInBounds K (Value.bool true)) ((List.replicate n false).set K true) (by simp [toList_madeCells_one, List.map_set])
    simpa using this
  have hB : Below w.heap.size w W1 := by
    rw [← hW1]
    exact ((Below.refl _ _).alloc (Nat.le_refl _) _).alloc (by simp) _
  have hA0 : W1.cell? ⟨w.heap.size, 0, none⟩ = some (.slice (some ⟨fb, fo, none⟩) p.funcs.length fc) := by rw [← hW1]; simp
  have hA1 : W1.cell? ⟨w.heap.size, 1, none⟩ = some (.slice ga p.globals.length gc) := by rw [← hW1]; simp
  have hA2 : W1.cell? ⟨w.heap.size, 2, none⟩ = some (.slice la p.layouts.length lc) := by rw [← hW1]; simp
  have hA3 : W1.cell? ⟨w.heap.size, 3, none⟩ = some (.int .i64 p.main) := by rw [← hW1]; simp
  have hs1 : W1.heap.size = w.heap.size + 2 := by rw [← hW1]; simp
  have HB := hid hB
  clear hW1 hmk hmK hB
  go_loopw [10] (fun mo wr => ∃ (s : List Bool) (b : Bool), mo = .bool b ∧ s.length = n ∧ RowB wr (w.heap.size + 1) s ∧ nth s K = true ∧ LSound p F K reg n s ∧ (b = false → ∀ i, i < n → LClosedAt p F reg s i) ∧ Below (w.heap.size + 1) W1 wr) (fun mo wr => 2 * fcount wr (w.heap.size + 1) n + boolV mo)
  case atStart =>
    refine ⟨_, true, rfl, by simp, hrow, by rw [nth_set _ _ _ _ (by simp; omega), if_pos rfl], fun j hjl h => ?_, fun h => by simp at h, Below.refl _ _⟩
    rw [nth_set _ _ _ _ (by simpa using hjl)] at h
    split at h
    · rename_i e; rw [e]; exact .refl K
    · rw [nth_replicate _ _ _ hjl] at h; cases h
  case round =>
    obtain ⟨s0, b0, rfl, hl0, hr0, h00, hso0, hcl0, hbl0⟩ := hrel
    have hcnt : fcount wr (w.heap.size + 1) n = falses s0 := fcount_eq hr0 hl0
    rw [hcnt]
    have HR0 := hid hr0
    have HSO0 := hid hso0
    have HBL0 := hid hbl0
    have H00 := hid h00
    have HL0 := hid hl0
    clear hr0 hso0 hbl0 hrow hcnt h00 hl0
    cases b0 with
    | false =>
      have HRF := hid (reads_false HV.out HFL.out HN.out hK H00.out (hcl0 rfl))
      clear hcl0
      go_wp2_with fail
      go_ret
      exact ⟨by rw [HRF.out]; rfl, HB.out.trans (HBL0.out.mono (by omega))⟩
    | true =>
      clear hcl0
      go_wp2_with fail
      go_loopw [10, 11] (fun mo i wr => ∃ (s : List Bool) (b : Bool) (k : Nat), mo = .bool b ∧ i = .int .i64 k ∧ k ≤ n ∧ s.length = n ∧ RowB wr (w.heap.size + 1) s ∧ nth s K = true ∧ LSound p F K reg n s ∧ (b = false → s = s0 ∧ ∀ i, i < k → LClosedAt p F reg s i) ∧ (b = true → falses s < falses s0) ∧ Below (w.heap.size + 1) W1 wr) (fun _ i _ => n - (intOf i).toNat)
      case atStart => exact ⟨s0, false, 0, rfl, rfl, Nat.zero_le _, HL0.out, HR0.out, H00.out, HSO0.out, fun _ => ⟨rfl, fun i hi => by omega⟩, fun h => by simp at h, HBL0.out⟩
      case round =>
        obtain ⟨s, b, k, rfl, rfl, hk, hls, hr, hs0, hso, hcl, hlt, hbl⟩ := hrel
        obtain ⟨wo, hwo⟩ : ∃ wo, wo = wr := ⟨_, rfl⟩
        subst hwo
        have m0 := (hbl.cell (p := ⟨w.heap.size, 0, none⟩) (by simp)).trans hA0
        have m1 := (hbl.cell (p := ⟨w.heap.size, 1, none⟩) (by simp)).trans hA1
        have m2 := (hbl.cell (p := ⟨w.heap.size, 2, none⟩) (by simp)).trans hA2
        have m3 := (hbl.cell (p := ⟨w.heap.size, 3, none⟩) (by simp)).trans hA3
        have r1 : w.heap.size + 1 < wo.heap.size := hr.lt
        have r0 : w.heap.size < wo.heap.size := by omega
        have HR := hid hr
        have HSO := hid hso
        have HCL := hid hcl
        have HLT := hid hlt
        have HBL := hid hbl
        have HS0 := hid hs0
        have HLS := hid hls
        clear hr hso hcl hlt hbl HR0 HSO0 HBL0 hs0 hls
        by_cases hkl : k < n
        · have hkl2 : (k : Int) < n := Int.ofNat_lt.2 hkl
          have c0 := HR.out.cell (i := k) (by rw [HLS.out]; omega)
          have HBW := hid (HB.out.trans (HBL.out.mono (by omega)))
          cases hsk : nth s k with
          | false =>
            rw [hsk] at c0
            have HSK := hid hsk
            clear hsk
            go_wp2_with fail
            go_roundw
            case rel =>
              refine ⟨s, b, k + 1, rfl, by go_num, by omega, HLS.out, HR.out, HS0.out, HSO.out, fun h => ⟨(HCL.out h).1, fun i hi => ?_⟩, HLT.out, HBL.out⟩
              rcases Nat.lt_succ_iff_lt_or_eq.1 hi with e | e
              · exact (HCL.out h).2 i e
              · subst e; intro e2; rw [HSK.out] at e2; cases e2
            case measure => simp [intOf] <;> omega
          | true =>
            rw [hsk] at c0
            have HSK := hid hsk
            clear hsk
            have hpath := hid (HSO.out k hkl HSK.out)
            cases hU : decide (reg ∈ usesC p F k) with
            | true =>
              have HU := hid hU
              have HRT := hid (show readsB p F K reg = true from (readsB_iff p F K reg).2 ⟨k, hpath.out, of_decide_eq_true hU⟩)
              clear hU
              go_wp2_with (first
                | (go_at_call 18
                   refine (ruses_calls lo _ _ _ p F k _ (HP.out.below HBW.out) HV.out).mono ?_
                   rintro e w3 ⟨v3, rfl, hi3, hb3⟩
                   have HB3 := hid (bvia HBW.out hb3)
                   have HI3 := hid hi3
                   clear hi3 hb3)
                | (go_at_call 16
                   refine (has_calls _ _ (usesC p F k) reg _ HI3.out).mono ?_
                   rw [HU.out]
                   rintro e w4 ⟨rfl, hb4⟩
                   have HB4 := hid (bvia HB3.out hb4)
                   clear hb4))
              go_ret
              exact ⟨by rw [HRT.out]; rfl, HB4.out⟩
            | false =>
              have HU := hid hU
              clear hU
              obtain ⟨N, hNe⟩ : ∃ N, nextL (nth p.funcs F).code k = N := ⟨_, rfl⟩
              have hNx := hid (show ∀ x ∈ N, 0 ≤ x ∧ x < n by rw [← hNe]; exact HNX.out k hkl)
              have HNE := hid hNe
              clear hNe
              go_wp2_with (first
                | (go_at_call 18
                   refine (ruses_calls lo _ _ _ p F k _ (HP.out.below HBW.out) HV.out).mono ?_
                   rintro e w3 ⟨v3, rfl, hi3, hb3⟩
                   have HB3 := hid hb3
                   have HI3 := hid hi3
                   clear hi3 hb3)
                | (go_at_call 16
                   refine (has_calls _ _ (usesC p F k) reg _ HI3.out).mono ?_
                   rw [HU.out]
                   rintro e w4 ⟨rfl, hb4⟩
                   have HB4 := hid (bvia HB3.out hb4)
                   have HBW4 := hid (bvia HBW.out HB4.out)
                   have q0 := (HB4.out.cell (p := ⟨w.heap.size, 0, none⟩) r0).trans m0
                   have q1 := (HB4.out.cell (p := ⟨w.heap.size, 1, none⟩) r0).trans m1
                   have q2 := (HB4.out.cell (p := ⟨w.heap.size, 2, none⟩) r0).trans m2
                   have q3 := (HB4.out.cell (p := ⟨w.heap.size, 3, none⟩) r0).trans m3
                   have k0 := (HBW4.out.cell (p := ⟨fb, _, none⟩) z1).trans d0
                   have k1 := (HBW4.out.cell (p := ⟨fb, _, none⟩) z1).trans d1
                   have k2 := (HBW4.out.cell (p := ⟨fb, _, none⟩) z1).trans d2
                   have k3 := (HBW4.out.cell (p := ⟨fb, _, none⟩) z1).trans d3
                   have r4 : w.heap.size + 1 < w4.heap.size := Nat.lt_of_lt_of_le r1 HB4.out.size
                   have r4' : w.heap.size < w4.heap.size := by omega
                   have r5 : fb < w4.heap.size := by omega
                   clear hb4)
                | (go_at_call 19
                   refine (rnext_calls lo fname fpar freg _ (nth p.funcs F).code k _ (HC0.out.below HBW4.out)).mono ?_
                   rw [HNE.out]
                   rintro e w5 ⟨v', rfl, hN1, hN2⟩
                   obtain ⟨a62, c62, b62, o62, rfl, p62, d62, bl62, lo62, lc62, cm62, nl62⟩ := hN1.open
                   have HQ := hid (And.intro p62 (And.intro d62 (And.intro bl62 lo62)))
                   have HB5 := hid (bvia HB4.out hN2)
                   clear p62 d62 bl62 lo62 hN1 hN2 q0 q1 q2 q3 k0 k1 k2 k3))
              have HR5 := hid (HR.out.below HB5.out)
              have HBL5 := hid (HBL.out.trans (HB5.out.mono (by omega)))
              have r6 : wo.heap.size ≤ w5.heap.size := HB5.out.size
              have r7 : w4.heap.size ≤ w5.heap.size ∨ True := .inr trivial
              go_loopw [10, 13] (fun mo i wr => ∃ (s : List Bool) (b : Bool) (q : Nat), mo = .bool b ∧ i = .int .i64 q ∧ q ≤ N.length ∧ s.length = n ∧ RowB wr (w.heap.size + 1) s ∧ nth s K = true ∧ LSound p F K reg n s ∧ (b = false → s = s0 ∧ (∀ i, i < k → LClosedAt p F reg s i) ∧ (∀ j, j < q → nth s (nth N j).toNat = true)) ∧ (b = true → falses s < falses s0) ∧ Below (w.heap.size + 1) W1 wr ∧ Keep (w.heap.size + 2) w5 wr ∧ w5.heap.size ≤ wr.heap.size) (fun _ i _ => N.length - (intOf i).toNat)
              case atStart => exact ⟨s, b, 0, rfl, rfl, Nat.zero_le _, HLS.out, HR5.out, HS0.out, HSO.out, fun h => ⟨(HCL.out h).1, (HCL.out h).2, fun j hj => by omega⟩, HLT.out, HBL5.out, Keep.refl _ _, Nat.le_refl _⟩
              case round =>
                clear HR HSO HCL HLT HBL HR5 HBL5 HS0 HLS
                obtain ⟨s, b, q, rfl, rfl, hq, hls, hr, hs0, hso, hcl, hlt, hbl, hkp, hsz⟩ := hrel
                obtain ⟨wi, hwi⟩ : ∃ wi, wi = wr := ⟨_, rfl⟩
                subst hwi
                have r2 : w.heap.size + 1 < wi.heap.size := hr.lt
                have r20 : w.heap.size < wi.heap.size := by omega
                have m0 := (hbl.cell (p := ⟨w.heap.size, 0, none⟩) (by simp)).trans hA0
                have m1 := (hbl.cell (p := ⟨w.heap.size, 1, none⟩) (by simp)).trans hA1
                have m2 := (hbl.cell (p := ⟨w.heap.size, 2, none⟩) (by simp)).trans hA2
                have m3 := (hbl.cell (p := ⟨w.heap.size, 3, none⟩) (by simp)).trans hA3
                have HR := hid hr
                have HSO := hid hso
                have HCL := hid hcl
                have HLT := hid hlt
                have HBL := hid hbl
                have HKP := hid hkp
                have HS0 := hid hs0
                have HLS := hid hls
                have HBI := hid (HB.out.trans (hbl.mono (by omega)))
                clear hr hso hcl hlt hbl hkp hs0 hls
                by_cases hqN : q < N.length
                · have hqN2 : (q : Int) < N.length := Int.ofNat_lt.2 hqN
                  obtain ⟨p62, d62, bl62, lo62⟩ := HQ.out
                  have ea := p62 (by omega)
                  subst ea
                  have lb := lo62 (by omega)
                  have bb := bl62 (by omega)
                  obtain ⟨y, hy⟩ : ∃ y : Nat, nth N q = y := ⟨(nth N q).toNat, by have := hNx.out _ (nth_mem N q hqN); omega⟩
                  have hyl : y < n := by have := hNx.out _ (nth_mem N q hqN); omega
                  have hyi : (y : Int) < n := Int.ofNat_lt.2 hyl
                  have HY := hid hy
                  have hd1 : wi.cell? ⟨b62, o62 + q, none⟩ = some (.int .i64 (y : Nat)) := by
                    rw [← hy]
                    have e := HKP.out b62 (by omega) (by omega)
                    have := d62 q hqN
                    simp only [World.cell?] at this ⊢
                    rw [e]; exact this
                  have hbi : b62 < wi.heap.size := by omega
                  have HD1 := hid hd1
                  clear hy p62 d62 bl62 lo62 hd1
                  cases hD : decide (reg ∈ defsC p F k) with
                  | true =>
                    have HD := hid hD
                    clear hD
                    go_wp2_with (first
                      | (go_at_call 20
                         refine (rdefs_calls lo _ _ _ p F k _ (HP.out.below HBI.out) HV.out).mono ?_
                         rintro e w6 ⟨v6, rfl, hi6, hb6⟩
                         have HB6 := hid hb6
                         have HI6 := hid hi6
                         clear hi6 hb6)
                      | (go_at_call 16
                         refine (has_calls _ _ (defsC p F k) reg _ HI6.out).mono ?_
                         rw [HD.out]
                         rintro e w7 ⟨rfl, hb7⟩
                         have HB7 := hid (bvia HB6.out hb7)
                         clear hb7))
                    go_roundw
                    case rel =>
                      refine ⟨s, b, k + 1, rfl, by go_num, by omega, HLS.out, HR.out.below HB7.out, HS0.out, HSO.out, fun h => ⟨(HCL.out h).1, fun i hi => ?_⟩, HLT.out, HBL.out.trans (HB7.out.mono (by omega))⟩
                      rcases Nat.lt_succ_iff_lt_or_eq.1 hi with e | e
                      · exact (HCL.out h).2.1 i e
                      · subst e
                        exact fun _ => ⟨of_decide_eq_false HU.out, fun h => absurd (of_decide_eq_true HD.out) h⟩
                    case measure => simp [intOf] <;> omega
                  | false =>
                    have HD := hid hD
                    clear hD
                    have hpy := hid (show LPath p F reg K y by
                      have := LPath.step hpath.out (of_decide_eq_false HD.out) (by rw [HNE.out]; exact nth_mem N q hqN)
                      rw [HY.out, Int.toNat_natCast] at this
                      exact this)
                    have hadv := hid (show ∀ s' : List Bool, (∀ j, j < n → nth s j = true → nth s' j = true) → nth s' y = true → (∀ j, j < q → nth s (nth N j).toNat = true) → ∀ j, j < q + 1 → nth s' (nth N j).toNat = true by
                      intro s' h1 h2 h3 j hj
                      rcases Nat.lt_succ_iff_lt_or_eq.1 hj with e | e
                      · have := hNx.out _ (nth_mem N j (by omega))
                        exact h1 _ (by omega) (h3 j e)
                      · subst e; rw [HY.out, Int.toNat_natCast]; exact h2)
                    cases hsy : nth s y with
                    | true =>
                      have HSY := hid hsy
                      clear hsy
                      go_wp2_with (first
                        | (go_at_call 20
                           refine (rdefs_calls lo _ _ _ p F k _ (HP.out.below HBI.out) HV.out).mono ?_
                           rintro e w6 ⟨v6, rfl, hi6, hb6⟩
                           have HB6 := hid hb6
                           have HI6 := hid hi6
                           clear hi6 hb6)
                        | (go_at_call 16
                           refine (has_calls _ _ (defsC p F k) reg _ HI6.out).mono ?_
                           rw [HD.out]
                           rintro e w7 ⟨rfl, hb7⟩
                           have HB7 := hid (bvia HB6.out hb7)
                           have c1 : w7.cell? ⟨b62, o62 + q, none⟩ = some (.int .i64 (y : Nat)) := (HB7.out.cell (p := ⟨b62, _, none⟩) hbi).trans HD1.out
                           have c2 : w7.cell? ⟨w.heap.size + 1, y, none⟩ = some (.bool true) := by
                             have := (HR.out.below HB7.out).cell (i := y) (by rw [HLS.out]; omega)
                             rw [HSY.out] at this
                             exact this
                           have r8 : b62 < w7.heap.size := Nat.lt_of_lt_of_le hbi HB7.out.size
                           have r9 : w.heap.size + 1 < w7.heap.size := Nat.lt_of_lt_of_le r2 HB7.out.size
                           clear hb7))
                      go_roundw
                      case rel =>
                        exact ⟨s, b, q + 1, rfl, by go_num, by omega, HLS.out, HR.out.below HB7.out, HS0.out, HSO.out, fun h => ⟨(HCL.out h).1, (HCL.out h).2.1, hadv.out s (fun _ _ h => h) HSY.out (HCL.out h).2.2⟩, HLT.out, HBL.out.trans (HB7.out.mono (by omega)), fun i hi hlt => ((HB7.out.block i (by omega)).trans (HKP.out i hi hlt)), by have := HB7.out.size; omega⟩
                      case measure => simp [intOf] <;> omega
                    | false =>
                      have HSY := hid hsy
                      have hfs := falses_set s y (by rw [HLS.out]; omega) hsy
                      clear hsy
                      go_wp2_with (first
                        | (go_at_call 20
                           refine (rdefs_calls lo _ _ _ p F k _ (HP.out.below HBI.out) HV.out).mono ?_
                           rintro e w6 ⟨v6, rfl, hi6, hb6⟩
                           have HB6 := hid hb6
                           have HI6 := hid hi6
                           clear hi6 hb6)
                        | (go_at_call 16
                           refine (has_calls _ _ (defsC p F k) reg _ HI6.out).mono ?_
                           rw [HD.out]
                           rintro e w7 ⟨rfl, hb7⟩
                           have HB7 := hid (bvia HB6.out hb7)
                           have c1 : w7.cell? ⟨b62, o62 + q, none⟩ = some (.int .i64 (y : Nat)) := (HB7.out.cell (p := ⟨b62, _, none⟩) hbi).trans HD1.out
                           have c2 : w7.cell? ⟨w.heap.size + 1, y, none⟩ = some (.bool false) := by
                             have := (HR.out.below HB7.out).cell (i := y) (by rw [HLS.out]; omega)
                             rw [HSY.out] at this
                             exact this
                           have c3 := (HR.out.below HB7.out).frozen y
                           have r8 : b62 < w7.heap.size := Nat.lt_of_lt_of_le hbi HB7.out.size
                           have r9 : w.heap.size + 1 < w7.heap.size := Nat.lt_of_lt_of_le r2 HB7.out.size
                           clear hb7))
                      refine ⟨⟨s.set y true, true, q + 1, rfl, by go_num, by omega, by rw [List.length_set]; exact HLS.out, (HR.out.below HB7.out).set y true, ?_, lsound_set HSO.out HLS.out y hpy.out, fun h => by simp at h, fun _ => ?_, (HBL.out.trans (HB7.out.mono (by omega))).setCell (Nat.le_refl _) _, fun i hi hlt => (Keep.store w7 _ _ (Nat.lt_succ_self _) i hi (by have := HB7.out.size; omega)).trans ((HB7.out.block i (by omega)).trans (HKP.out i hi hlt)), by have := HB7.out.size; simp; omega⟩, by simp [intOf]; omega⟩
                      · rw [nth_set _ _ _ _ (by rw [HLS.out]; omega)]; split
                        · rfl
                        · exact HS0.out
                      · cases b with
                        | true => have := HLT.out rfl; omega
                        | false => rw [← (HCL.out rfl).1]; omega
                · have hqe := hid (show q = N.length by omega)
                  go_wp2_with fail
                  go_roundw
                  case rel =>
                    refine ⟨s, b, k + 1, rfl, by go_num, by omega, HLS.out, HR.out, HS0.out, HSO.out, fun h => ⟨(HCL.out h).1, fun i hi => ?_⟩, HLT.out, HBL.out⟩
                    rcases Nat.lt_succ_iff_lt_or_eq.1 hi with e | e
                    · exact (HCL.out h).2.1 i e
                    · subst e
                      refine fun _ => ⟨of_decide_eq_false HU.out, fun _ x hx => ?_⟩
                      rw [HNE.out] at hx
                      obtain ⟨j, hj, rfl⟩ := List.mem_iff_getElem.1 hx
                      rw [← nth_eq _ _ hj]
                      exact (HCL.out h).2.2 j (by have := hqe.out; omega)
                  case measure => simp [intOf] <;> omega
        · have HK := hid (show k = n by omega)
          have hfc := fcount_eq HR.out HLS.out
          have HFC := hid hfc
          clear hfc
          go_wp2_with fail
          refine ⟨⟨s, b, rfl, HLS.out, HR.out, HS0.out, HSO.out, fun h i hi => (HCL.out h).2 i (by have := HK.out; omega), HBL.out⟩, ?_⟩
          rw [HFC.out]
          cases b with
          | false => rw [(HCL.out rfl).1]; simp [boolV]
          | true => have := HLT.out rfl; simp [boolV]; omega

end Go.Proofs.Ytlgedpiabooloaa
