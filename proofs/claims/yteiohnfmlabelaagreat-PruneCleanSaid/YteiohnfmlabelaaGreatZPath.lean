/-
  Parts of the proof.
-/
import Derived.Test.YteiohnfmlabelaaGreatZRNext
import Derived.Test.YteiohnfmlabelaaGreatZLeadG
import Derived.Test.YteiohnfmlabelaaGreatZBnd
namespace Go.Proofs.YteiohnfmlabelaaGreat
set_option linter.unusedVariables false
set_option linter.unusedSimpArgs false
open Go.RowKit

/-- What a path from the first instruction reaches that does not pass through wo. -/
inductive Path (c : List Ins) (wo : Int) : Nat → Prop
  | start : wo ≠ 0 → 0 < c.length → Path c wo 0
  | step (i j : Nat) : Path c wo i → (j : Int) ∈ nextL c i → (j : Int) ≠ wo → Path c wo j
theorem nextL_lt (c : List Ins) (i : Nat) (x : Int) (h : x ∈ nextL c i) : i < c.length := by
  unfold nextL at h
  split at h
  · omega
  · cases h
theorem Path.lt {c : List Ins} {wo : Int} {j : Nat} (hj : Jok c) (h : Path c wo j) : j < c.length := by
  cases h with
  | start _ h => exact h
  | step i _ hp hx _ => have := hj.nx i (nextL_lt c i _ hx) _ hx; omega
theorem Path.ne {c : List Ins} {wo : Int} {j : Nat} (h : Path c wo j) : (j : Int) ≠ wo := by
  cases h with
  | start h _ => exact fun e => h e.symm
  | step i _ hp hx h => exact h

open Classical in
/-- Which instructions are reached. -/
noncomputable def reachB (c : List Ins) (wo : Int) : List Bool := (List.range c.length).map fun j => decide (Path c wo j)
theorem reachB_len (c : List Ins) (wo : Int) : (reachB c wo).length = c.length := by simp [reachB]
open Classical in
theorem reachB_at (c : List Ins) (wo : Int) (j : Nat) (h : j < c.length) : nth (reachB c wo) j = decide (Path c wo j) := by
  unfold reachB
  rw [nth_eq _ _ (by simpa using h)]; simp
theorem reachB_ext (c : List Ins) (wo : Int) (l : List Bool) (hl : l.length = c.length) (h : ∀ j, j < c.length → (nth l j = true ↔ Path c wo j)) : l = reachB c wo := by
  refine List.ext_getElem (by rw [hl, reachB_len]) fun j h1 h2 => ?_
  have hj : j < c.length := by omega
  rw [← nth_eq _ _ h1, ← nth_eq _ _ h2, reachB_at c wo j hj]
  have := h j hj
  by_cases hp : Path c wo j
  · rw [this.2 hp]; simp [hp]
  · have h3 : nth l j ≠ true := fun e => hp (this.1 e)
    simp [hp]; simpa using h3

/-- How many are false. -/
def falses (l : List Bool) : Nat := (l.filter fun b => !b).length
theorem falses_set (l : List Bool) (j : Nat) (hj : j < l.length) (h : nth l j = false) : falses (l.set j true) + 1 = falses l := by
  induction l generalizing j with
  | nil => cases hj
  | cons b l ih =>
    cases j with
    | zero =>
      have hb : b = false := h
      subst hb
      simp [falses]
    | succ j =>
      have := ih j (by simpa using hj) h
      unfold falses at this ⊢
      cases b <;> simp at this ⊢ <;> omega

/-- Closed at i: all that may follow is reached. -/
def ClosedAt (c : List Ins) (wo : Int) (l : List Bool) (i : Nat) : Prop := nth l i = true → ∀ x ∈ nextL c i, x ≠ wo → nth l x.toNat = true
def Sound (c : List Ins) (wo : Int) (l : List Bool) : Prop := ∀ j, j < c.length → nth l j = true → Path c wo j
theorem closed_all (c : List Ins) (wo : Int) (l : List Bool) (hl : l.length = c.length) (h0 : wo ≠ 0 → nth l 0 = true) (hs : Sound c wo l) (hc : ∀ i, i < c.length → ClosedAt c wo l i) (hj : Jok c) : l = reachB c wo := by
  refine reachB_ext c wo l hl fun j hjl => ⟨hs j hjl, fun hp => ?_⟩
  induction hp with
  | start h _ => exact h0 h
  | step i j hp hx hne ih =>
    have hi := hp.lt hj
    have := hc i hi (ih hi) _ hx hne
    rwa [Int.toNat_natCast] at this
theorem sound_set (c : List Ins) (wo : Int) (l : List Bool) (hs : Sound c wo l) (hl : l.length = c.length) (y : Nat) (hp : Path c wo y) : Sound c wo (l.set y true) := by
  intro j hj h
  rw [nth_set _ _ _ _ (by omega)] at h
  split at h
  · rename_i e; rw [e]; exact hp
  · exact hs j hj h

/-- The false cells of a row, counted in memory. -/
def fcount (w : World) (b n : Nat) : Nat := falses ((List.range n).map fun j => match w.cell? ⟨b, j, none⟩ with | some (.bool x) => x | _ => true)
theorem fcount_eq {w : World} {b n : Nat} {l : List Bool} (h : RowB w b l) (hn : l.length = n) : fcount w b n = falses l := by
  unfold fcount
  congr 1
  refine List.ext_getElem (by simp [hn]) fun j h1 h2 => ?_
  simp only [List.getElem_map, List.getElem_range, h.cell h2, nth_eq _ _ h2]
def boolV : Value → Nat
  | .bool true => 1
  | _ => 0
theorem fcount_drewN (w : World) (b n m : Nat) : fcount (w.drewN m) b n = fcount w b n := rfl

end Go.Proofs.YteiohnfmlabelaaGreat

namespace Go.Proofs.YteiohnfmlabelaaGreat
set_option linter.unusedVariables false
set_option linter.unusedSimpArgs false
open Go.RowKit

set_option maxRecDepth 100000 in
set_option maxHeartbeats 10000000 in
theorem from_calls (lo : Nat) (vc : Value) (nm : ByteArray) (pa re wo : Int) (l : List Ins) (w : World) (hc : CodeAt lo w vc l) (hj : Jok l) :
    Calls Tryz.prog 28 #[.agg #[.string nm, .int .i64 pa, .int .i64 re, vc], .int .i64 wo] w fun e w' => ∃ g n, e = .returned (.slice (some ⟨g, 0, none⟩) n n) ∧ n = l.length ∧ w.heap.size ≤ g ∧ RowB w' g (reachB l wo) ∧ Below w.heap.size w w' := by
  have HC0 := hc
  obtain ⟨ca, cc, cb, co, rfl, cp, _, _, _, _, _, cbl, _, _, _, cn⟩ := hc.open
  have hpos := hj.pos
  have hle := hj.le
  have e1 := cp (by omega)
  subst e1
  have hbl' := cbl (by omega)
  clear cp cbl cn
  have hmk := run_make_row' (P := Tryz.prog) 34 4 (.bool false) 1 Tryz.underlying34 infoB rfl .i64 .i64 l.length (by omega) (by omega)
  have hlz : ((l.length : Int) == 0) = false := beq_eq_false_iff_ne.2 (by omega)
  have hlz' : ¬ (l.length : Int) = 0 := by omega
  have hlp : (0 : Int) < l.length := by omega
  have hm0 : (madeCells #[Value.bool false] l.length)[0]? = some (.bool false) := by simp [madeCells, hpos]
  go_enter Tryz.func28, Tryz.ntmps28
  by_cases hw0 : wo = 0
  · subst hw0
    go_wp2_with fail
    go_ret
    refine ⟨w.heap.size + 1, l.length, rfl, rfl, by omega, ?_, ((Below.refl _ _).alloc (Nat.le_refl _) _).alloc (by simp) _⟩
    have h := RowB.made (w.alloc (.cells #[.string nm, .int .i64 pa, .int .i64 re, .slice (some ⟨cb, co, none⟩) l.length cc] 33)) l.length
    have e : List.replicate l.length false = reachB l 0 := by
      refine closed_all l 0 _ (by simp) (fun h => (h rfl).elim) (fun j hj h => by rw [nth_replicate _ _ _ hj] at h; cases h) (fun i hi h => by rw [nth_replicate _ _ _ hi] at h; cases h) hj
    rw [e] at h
    simpa using h
  · have hw0' : (wo == 0) = false := beq_eq_false_iff_ne.2 hw0
    have HW0 := hid hw0
    clear hw0
    go_wp2_with fail
    generalize hW1 : World.alloc (World.alloc _ _) _ = W1
    have hrow : RowB W1 (w.heap.size + 1) ((List.replicate l.length false).set 0 true) := by
      rw [← hW1]
      have := RowB.new (w.alloc (.cells #[.string nm, .int .i64 pa, .int .i64 re, .slice (some ⟨cb, co, none⟩) l.length cc] 33)) ((madeCells #[Value.bool false] l.length).setIfInBounds 0 (Value.bool true)) ((List.replicate l.length false).set 0 true) (by simp [toList_madeCells_one, List.map_set])
      simpa using this
    have hB : Below w.heap.size w W1 := by
      rw [← hW1]
      exact ((Below.refl _ _).alloc (Nat.le_refl _) _).alloc (by simp) _
    have hA0 : W1.cell? ⟨w.heap.size, 0, none⟩ = some (.string nm) := by rw [← hW1]; simp
    have hA1 : W1.cell? ⟨w.heap.size, 1, none⟩ = some (.int .i64 pa) := by rw [← hW1]; simp
    have hA2 : W1.cell? ⟨w.heap.size, 2, none⟩ = some (.int .i64 re) := by rw [← hW1]; simp
    have hA3 : W1.cell? ⟨w.heap.size, 3, none⟩ = some (.slice (some ⟨cb, co, none⟩) l.length cc) := by rw [← hW1]; simp
    have hs1 : W1.heap.size = w.heap.size + 2 := by rw [← hW1]; simp
    have HB := hid hB
    clear hW1 hmk hm0 hlz hlz' hlp hB
    go_loopw [6] (fun mo wr => ∃ (s : List Bool) (b : Bool), mo = .bool b ∧ s.length = l.length ∧ RowB wr (w.heap.size + 1) s ∧ nth s 0 = true ∧ Sound l wo s ∧ (b = false → ∀ i, i < l.length → ClosedAt l wo s i) ∧ Below (w.heap.size + 1) W1 wr) (fun mo wr => 2 * fcount wr (w.heap.size + 1) l.length + boolV mo)
    case atStart =>
      refine ⟨_, true, rfl, by simp, hrow, by rw [nth_set _ _ _ _ (by simp; omega), if_pos rfl], fun j hjl h => ?_, fun h => by simp at h, Below.refl _ _⟩
      rw [nth_set _ _ _ _ (by simpa using hjl)] at h
      split at h
      · rename_i e; rw [e]; exact .start HW0.out hpos
      · rw [nth_replicate _ _ _ hjl] at h; cases h
    case round =>
      obtain ⟨s0, b0, rfl, hl0, hr0, h00, hso0, hcl0, hbl0⟩ := hrel
      have hcnt : fcount wr (w.heap.size + 1) l.length = falses s0 := fcount_eq hr0 hl0
      rw [hcnt]
      have HR0 := hid hr0
      have HSO0 := hid hso0
      have HBL0 := hid hbl0
      clear hr0 hso0 hbl0 hrow hcnt
      cases b0 with
      | false =>
        have HCL0 := hid (hcl0 rfl)
        clear hcl0
        go_wp2_with fail
        go_ret
        refine ⟨w.heap.size + 1, l.length, rfl, rfl, by omega, ?_, HB.out.trans (HBL0.out.mono (by omega))⟩
        rw [← closed_all l wo s0 hl0 (fun _ => h00) HSO0.out HCL0.out hj]
        exact HR0.out
      | true =>
        clear hcl0
        go_wp2_with fail
        go_loopw [6, 7] (fun mo i wr => ∃ (s : List Bool) (b : Bool) (k : Nat), mo = .bool b ∧ i = .int .i64 k ∧ k ≤ l.length ∧ s.length = l.length ∧ RowB wr (w.heap.size + 1) s ∧ nth s 0 = true ∧ Sound l wo s ∧ (b = false → s = s0 ∧ ∀ i, i < k → ClosedAt l wo s i) ∧ (b = true → falses s < falses s0) ∧ Below (w.heap.size + 1) W1 wr) (fun _ i _ => l.length - (intOf i).toNat)
        case atStart => exact ⟨s0, false, 0, rfl, rfl, Nat.zero_le _, hl0, HR0.out, h00, HSO0.out, fun _ => ⟨rfl, fun i hi => by omega⟩, fun h => by simp at h, HBL0.out⟩
        case round =>
          obtain ⟨s, b, k, rfl, rfl, hk, hls, hr, hs0, hso, hcl, hlt, hbl⟩ := hrel
          have m0 := (hbl.cell (p := ⟨w.heap.size, 0, none⟩) (by simp)).trans hA0
          have m1 := (hbl.cell (p := ⟨w.heap.size, 1, none⟩) (by simp)).trans hA1
          have m2 := (hbl.cell (p := ⟨w.heap.size, 2, none⟩) (by simp)).trans hA2
          have m3 := (hbl.cell (p := ⟨w.heap.size, 3, none⟩) (by simp)).trans hA3
          have r1 : w.heap.size + 1 < wr.heap.size := hr.lt
          have r0 : w.heap.size < wr.heap.size := by omega
          have HR := hid hr
          have HSO := hid hso
          have HCL := hid hcl
          have HLT := hid hlt
          have HBL := hid hbl
          clear hr hso hcl hlt hbl HR0 HSO0 HBL0
          by_cases hkl : k < l.length
          · go_wp2_with fail
            have HBW := hid (HB.out.trans (HBL.out.mono (by omega)))
            refine (rnext_calls lo nm pa re _ l _ wr (HC0.below HBW.out)).mono ?_
            rintro e wn ⟨v, rfl, hN1, hN2⟩
            generalize hN : nextL l k = N at *
            have hNx : ∀ x ∈ N, 0 ≤ x ∧ x < l.length := by rw [← hN]; exact hj.nx _ hkl
            obtain ⟨a62, c62, b62, o62, rfl, p62, d62, bl62, lo62, lc62, cm62, nl62⟩ := hN1.open
            have HRn := hid (HR.out.below hN2)
            have HBLn := hid (HBL.out.trans (hN2.mono (by omega)))
            have hsn : wr.heap.size ≤ wn.heap.size := hN2.size
            clear hN2 m0 m1 m2 m3
            go_wp2_with fail
            go_loopw [6, 9] (fun mo i wr => ∃ (s : List Bool) (b : Bool) (q : Nat), mo = .bool b ∧ i = .int .i64 q ∧ q ≤ N.length ∧ s.length = l.length ∧ RowB wr (w.heap.size + 1) s ∧ nth s 0 = true ∧ Sound l wo s ∧ (b = false → s = s0 ∧ (∀ i, i < k → ClosedAt l wo s i) ∧ (nth s k = true → ∀ j, j < q → nth N j ≠ wo → nth s (nth N j).toNat = true)) ∧ (b = true → falses s < falses s0) ∧ Below (w.heap.size + 1) W1 wr ∧ Keep (w.heap.size + 2) wn wr ∧ wn.heap.size ≤ wr.heap.size) (fun _ i _ => N.length - (intOf i).toNat)
            case atStart => exact ⟨s, b, 0, rfl, rfl, Nat.zero_le _, hls, HRn.out, hs0, HSO.out, fun h => ⟨(HCL.out h).1, (HCL.out h).2, fun _ j hj => by omega⟩, HLT.out, HBLn.out, Keep.refl _ _, Nat.le_refl _⟩
            case round =>
              clear HR HSO HCL HLT HBL HRn HBLn hs0 hls
              obtain ⟨s, b, q, rfl, rfl, hq, hls, hr, hs0, hso, hcl, hlt, hbl, hkp, hsz⟩ := hrel
              have c0 := hr.cell (i := k) (by omega)
              have r2 : w.heap.size + 1 < wr.heap.size := hr.lt
              have hkn : (k : Int) < l.length := by omega
              have HR := hid hr
              have HSO := hid hso
              have HCL := hid hcl
              have HLT := hid hlt
              have HBL := hid hbl
              have HK := hid hkp
              clear hr hso hcl hlt hbl hkp
              cases hsk : nth s k with
              | false =>
                rw [hsk] at c0
                have HSK := hid hsk
                clear hsk
                go_wp2_with fail
                refine ⟨⟨s, b, k + 1, rfl, by go_num, by omega, hls, HR.out, hs0, HSO.out, fun h => ⟨(HCL.out h).1, fun i hi => ?_⟩, HLT.out, HBL.out⟩, by simp [intOf]; omega⟩
                rcases Nat.lt_succ_iff_lt_or_eq.1 hi with e | e
                · exact (HCL.out h).2.1 i e
                · subst e; intro e2; rw [HSK.out] at e2; cases e2
              | true =>
                rw [hsk] at c0
                have HSK := hid hsk
                clear hsk
                by_cases hqN : q < N.length
                · have ea := p62 (by omega)
                  subst ea
                  obtain ⟨y, hy⟩ : ∃ y : Nat, nth N q = y := ⟨(nth N q).toNat, by have := hNx _ (nth_mem N q hqN); omega⟩
                  have hyl : y < l.length := by have := hNx _ (nth_mem N q hqN); omega
                  have hyi : (y : Int) < l.length := by omega
                  have d1 : wr.cell? ⟨b62, o62 + q, none⟩ = some (.int .i64 (y : Nat)) := by
                    rw [← hy]
                    have e := HK.out b62 (by have := lo62 (by omega); omega) (bl62 (by omega))
                    have := d62 q hqN
                    simp only [World.cell?] at this ⊢
                    rw [e]; exact this
                  have c1 := HR.out.cell (i := y) (by omega)
                  have z1 := HR.out.frozen y
                  have hqi : (q : Int) < N.length := by omega
                  have hadv : ∀ s' : List Bool, (∀ j, j < l.length → nth s j = true → nth s' j = true) → ((y : Int) ≠ wo → nth s' y = true) → (∀ j, j < q → nth N j ≠ wo → nth s (nth N j).toNat = true) → ∀ j, j < q + 1 → nth N j ≠ wo → nth s' (nth N j).toNat = true := by
                    intro s' h1 h2 h3 j hj hne
                    rcases Nat.lt_succ_iff_lt_or_eq.1 hj with e | e
                    · have := hNx _ (nth_mem N j (by omega))
                      exact h1 _ (by omega) (h3 j e hne)
                    · subst e; rw [hy] at hne ⊢; rw [Int.toNat_natCast]; exact h2 hne
                  have HADV := hid hadv
                  clear hadv hNx
                  by_cases hyw : (y : Int) = wo
                  · have t1 : ((y : Int) != wo) = false := by rw [hyw]; simp
                    have HYW := hid hyw
                    clear hyw
                    go_wp2_with fail
                    refine ⟨⟨s, b, q + 1, rfl, by go_num, by omega, hls, HR.out, hs0, HSO.out, fun h => ⟨(HCL.out h).1, (HCL.out h).2.1, fun hh => HADV.out s (fun _ _ h => h) (fun h => (h HYW.out).elim) ((HCL.out h).2.2 hh)⟩, HLT.out, HBL.out, HK.out, hsz⟩, by simp [intOf]; omega⟩
                  · have t1 : ((y : Int) != wo) = true := bne_iff_ne.2 hyw
                    have HYW := hid hyw
                    clear hyw
                    cases hsy : nth s y with
                    | true =>
                      rw [hsy] at c1
                      have HSY := hid hsy
                      clear hsy
                      go_wp2_with fail
                      refine ⟨⟨s, b, q + 1, rfl, by go_num, by omega, hls, HR.out, hs0, HSO.out, fun h => ⟨(HCL.out h).1, (HCL.out h).2.1, fun hh => HADV.out s (fun _ _ h => h) (fun h => HSY.out) ((HCL.out h).2.2 hh)⟩, HLT.out, HBL.out, HK.out, hsz⟩, by simp [intOf]; omega⟩
                    | false =>
                      rw [hsy] at c1
                      have HSY := hid hsy
                      clear hsy
                      have hpy : Path l wo y := .step k y (HSO.out k hkl HSK.out) (by rw [hN, ← hy]; exact nth_mem N q hqN) HYW.out
                      have HPY := hid hpy
                      have hfs := falses_set s y (by omega) HSY.out
                      clear hpy
                      go_wp2_with fail
                      refine ⟨⟨s.set y true, true, q + 1, rfl, by go_num, by omega, by rw [List.length_set]; exact hls, HR.out.set y true, ?_, sound_set l wo s HSO.out hls y HPY.out, fun h => by simp at h, fun _ => ?_, HBL.out.setCell (Nat.le_refl _) _, fun i hi hlt => (Keep.store wr _ _ (Nat.lt_succ_self _) i hi (by omega)).trans (HK.out i hi hlt), by simp; omega⟩, by simp [intOf]; omega⟩
                      · rw [nth_set _ _ _ _ (by omega)]; split
                        · rfl
                        · exact hs0
                      · cases b with
                        | true => have := HLT.out rfl; omega
                        | false => rw [← (HCL.out rfl).1]; omega
                · have hqe : q = N.length := by omega
                  go_wp2_with fail
                  refine ⟨⟨s, b, k + 1, rfl, by go_num, by omega, hls, HR.out, hs0, HSO.out, fun h => ⟨(HCL.out h).1, fun i hi => ?_⟩, HLT.out, HBL.out⟩, by simp [intOf]; omega⟩
                  rcases Nat.lt_succ_iff_lt_or_eq.1 hi with e | e
                  · exact (HCL.out h).2.1 i e
                  · subst e
                    intro e2 x hx hne
                    rw [hN] at hx
                    obtain ⟨j, hj, rfl⟩ := List.mem_iff_getElem.1 hx
                    rw [← nth_eq _ _ hj] at hne ⊢
                    exact (HCL.out h).2.2 e2 j (by omega) hne
          · have hkk : k = l.length := by omega
            subst hkk
            have hfc := fcount_eq HR.out hls
            go_wp2_with fail
            refine ⟨⟨s, b, rfl, hls, HR.out, hs0, HSO.out, fun h => (HCL.out h).2, HBL.out⟩, ?_⟩
            rw [hfc]
            cases b with
            | false => rw [(HCL.out rfl).1]; simp [boolV]
            | true => have := HLT.out rfl; simp [boolV]; omega

end Go.Proofs.YteiohnfmlabelaaGreat

namespace Go.Proofs.YteiohnfmlabelaaGreat
set_option linter.unusedVariables false
set_option linter.unusedSimpArgs false
open Go.RowKit

/-- Which instructions are reached, a case by its select. -/
noncomputable def reachL (c : List Ins) : List Bool := (List.range c.length).map fun i => nth (reachB c (-1)) (headN c i)
theorem reachL_len (c : List Ins) : (reachL c).length = c.length := by simp [reachL]
theorem reachL_at (c : List Ins) (i : Nat) (h : i < c.length) : nth (reachL c) i = nth (reachB c (-1)) (headN c i) := by
  unfold reachL
  rw [nth_eq _ _ (by simpa using h)]; simp

/-- A row of bools by its cells. -/
theorem RowB.of {w : World} {b n : Nat} {f : Nat → Bool} {l : List Bool} (h : w.rowIs b 4 n (fun i => .bool (f i))) (hl : l.length = n) (hf : ∀ i, i < n → f i = nth l i) : RowB w b l := by
  unfold RowB
  rw [hl]
  exact h.congr fun i hi => by rw [hf i hi]

set_option maxRecDepth 100000 in
set_option maxHeartbeats 10000000 in
theorem rreach_calls (lo : Nat) (vc : Value) (nm : ByteArray) (pa re : Int) (l : List Ins) (w : World) (hc : CodeAt lo w vc l) (hj : Jok l) :
    Calls Tryz.prog 14 #[.agg #[.string nm, .int .i64 pa, .int .i64 re, vc]] w fun e w' => ∃ g n, e = .returned (.slice (some ⟨g, 0, none⟩) n n) ∧ n = l.length ∧ w.heap.size ≤ g ∧ RowB w' g (reachL l) ∧ Below w.heap.size w w' := by
  have HC0 := hc
  obtain ⟨ca, cc, cb, co, rfl, cp, _, _, _, _, _, cbl, _, _, _, cn⟩ := hc.open
  have hpos := hj.pos
  have hle := hj.le
  have e1 := cp (by omega)
  subst e1
  have hbl' := cbl (by omega)
  clear cp cbl cn
  have hmk := run_make_row' (P := Tryz.prog) 34 4 (.bool false) 1 Tryz.underlying34 infoB rfl .i64 .i64 l.length (by omega) (by omega)
  go_enter Tryz.func14, Tryz.ntmps14
  go_wp2_with fail
  have hB0 : Below w.heap.size w (w.alloc (.cells #[.string nm, .int .i64 pa, .int .i64 re, .slice (some ⟨cb, co, none⟩) l.length cc] 33)) := (Below.refl _ _).alloc (Nat.le_refl _) _
  refine (from_calls lo _ nm pa re (-1) l _ (hc.below hB0) hj).mono ?_
  rintro e w1 ⟨g1, n1, rfl, rfl, hg1, hrow1, hb1⟩
  have n0 : w1.cell? ⟨w.heap.size, 0, none⟩ = some (.string nm) := (hb1.cell (by simp)).trans (by simp)
  have n1 : w1.cell? ⟨w.heap.size, 1, none⟩ = some (.int .i64 pa) := (hb1.cell (by simp)).trans (by simp)
  have n2 : w1.cell? ⟨w.heap.size, 2, none⟩ = some (.int .i64 re) := (hb1.cell (by simp)).trans (by simp)
  have n3 : w1.cell? ⟨w.heap.size, 3, none⟩ = some (.slice (some ⟨cb, co, none⟩) l.length cc) := (hb1.cell (by simp)).trans (by simp)
  have HROW1 := hid hrow1
  have HB1 := hid (hB0.trans (hb1.mono (by simp)))
  have s1 : w.heap.size < w1.heap.size := by have := hb1.size; simp at this; omega
  have s2 : g1 < w1.heap.size := hrow1.lt
  have hg1' : w.heap.size + 1 ≤ g1 := by simpa using hg1
  clear hrow1 hb1 hg1
  go_wp2_with fail
  generalize hW1 : World.alloc _ _ = W1
  have hout : W1.rowIs w1.heap.size 4 l.length (fun j => .bool (if j < 0 then nth (reachL l) j else false)) := by
    rw [← hW1]
    exact (World.rowIs_made w1 (.bool false) l.length 4).congr fun j hj => by simp
  have t1 : W1.heap.size = w1.heap.size + 1 := by rw [← hW1]; simp
  have t2 : Below w1.heap.size w1 W1 := by rw [← hW1]; exact (Below.refl _ _).alloc (Nat.le_refl _) _
  clear hW1 hmk
  go_loopw [5] (fun i wr => ∃ k : Nat, k ≤ l.length ∧ i = .int .i64 k ∧ wr.rowIs w1.heap.size 4 l.length (fun j => .bool (if j < k then nth (reachL l) j else false)) ∧ Below w1.heap.size w1 wr) (fun i _ => l.length - (intOf i).toNat)
  case atStart => exact ⟨0, Nat.zero_le _, rfl, hout, t2⟩
  case round =>
    obtain ⟨k, hk, rfl, hr, hbl⟩ := hrel
    have m0 := (hbl.cell (p := ⟨w.heap.size, 0, none⟩) s1).trans n0
    have m1 := (hbl.cell (p := ⟨w.heap.size, 1, none⟩) s1).trans n1
    have m2 := (hbl.cell (p := ⟨w.heap.size, 2, none⟩) s1).trans n2
    have m3 := (hbl.cell (p := ⟨w.heap.size, 3, none⟩) s1).trans n3
    have r1 : w1.heap.size < wr.heap.size := hr.lt
    have HR := hid hr
    have HBL := hid hbl
    have HBW := hid (HB1.out.trans (hbl.mono (by omega)))
    clear hr hbl hout
    by_cases hkl : k < l.length
    · go_wp2_with fail
      refine (rhead_calls lo _ nm pa re l k wr (HC0.below HBW.out) hkl).mono ?_
      rintro e wn ⟨rfl, hbn⟩
      have hhl := headN_le l k
      have hrow2 := HROW1.out.below ((HBL.out).trans (hbn.mono (by omega)))
      have c0 := hrow2.cell (i := headN l k) (by rw [reachB_len]; omega)
      have hrn := HR.out.of_block (hbn.block _ r1)
      have c1 := hrn.cell (i := k) hkl
      have z1 := hrn.frozen k
      have hsn := hbn.size
      have r2 : w1.heap.size < wn.heap.size := by omega
      have hh1 : (headN l k : Int) < l.length := by omega
      have hh2 : headN l k < l.length := by omega
      have hk1 : (k : Int) < l.length := by omega
      have HRN := hid hrn
      have HBN := hid (HBL.out.trans (hbn.mono (by omega)))
      have hat := reachL_at l k hkl
      have HAT := hid hat
      clear hrow2 hrn hbn hat
      go_wp2_with fail
      refine ⟨⟨k + 1, by omega, by go_num, ?_, HBN.out.setCell (Nat.le_refl _) _⟩, by simp [intOf]; omega⟩
      refine (HRN.out.set k _).congr fun j hj => ?_
      by_cases e : j = k
      · subst e; rw [if_pos rfl, if_pos (by omega), HAT.out]
      · have e2 : (j < k + 1) ↔ j < k := by omega
        simp only [if_neg e, e2]
    · go_wp2_with fail
      go_ret
      exact ⟨w1.heap.size, l.length, rfl, rfl, by omega, RowB.of HR.out (reachL_len l) (fun i hi => by rw [if_pos (by omega)]), HBW.out⟩

end Go.Proofs.YteiohnfmlabelaaGreat
