/-
  A block begins with given values.
-/
import Derived.Test.YtealeofgfgbheaaProg
import Derived.Deep.QuietTactic
import Derived.BigQuiet
import Derived.Laws.EntriesVeiled
import Derived.Test.YtealeofgfgbheaaZAppend
import Derived.Test.YtealeofgfgbheaaZRegion
import Derived.Test.YtealeofgfgbheaaZEqC
namespace Go.Proofs.Ytealeofgfgbheaa
set_option linter.unusedVariables false
set_option linter.unusedSimpArgs false
open Go.RowKit

theorem cellNewR (w : World) (cs : Array Value) (t : TypeId) (b k : Nat) {u : Value} (hb : b = w.heap.size) (h : cs[k]? = some u) : (w.alloc (.cells cs t)).cell? ⟨b, k, none⟩ = some u := by
  subst hb
  rw [World.cell?_alloc_new]; exact h
/-- The block b begins with the values vs. -/
def RowAt (w : World) (b : Nat) (vs : List Value) : Prop := b < w.heap.size ∧ ∀ (k : Nat) (u : Value), vs[k]? = some u → w.cell? ⟨b, k, none⟩ = some u
theorem RowAt.below {w w' : World} {b : Nat} {vs : List Value} (h : RowAt w b vs) (hb : Below w.heap.size w w') : RowAt w' b vs :=
  ⟨Nat.lt_of_lt_of_le h.1 hb.size, fun k u hu => (hb.cell (p := ⟨b, k, none⟩) h.1).trans (h.2 k u hu)⟩
theorem RowAt.new (w : World) (cs : Array Value) (t : TypeId) (b : Nat) (vs : List Value) (hb : b = w.heap.size) (hv : cs.toList = vs) : RowAt (w.alloc (.cells cs t)) b vs := by
  subst hb hv
  exact ⟨by simp, fun k u hu => cellNewR w cs t _ k rfl (by simpa using hu)⟩

end Go.Proofs.Ytealeofgfgbheaa

namespace Go.Proofs.Ytealeofgfgbheaa
set_option linter.unusedVariables false
set_option linter.unusedSimpArgs false
open Go.RowKit

/-- Two lists of ints agree up to k. -/
def agreeTo (l r : List Int) (k : Nat) : Prop := ∀ i, i < k → nth l i = nth r i
def intsEq (l r : List Int) : Bool := decide (l = r)
theorem agree_eq (l r : List Int) (h : l.length = r.length) (hk : agreeTo l r l.length) : l = r := by
  apply List.ext_getElem h
  intro i h1 h2
  have := hk i h1
  rwa [nth_eq _ _ h1, nth_eq _ _ h2] at this

set_option maxHeartbeats 400000 in
theorem ints_calls (lo1 lo2 : Nat) (va vb : Value) (l r : List Int) (w : World) (ha : IntsAt lo1 w va l) (hb : IntsAt lo2 w vb r) :
    Calls Try.prog 23 #[va, vb] w fun e w' => e = .returned (.bool (intsEq l r)) ∧ Below w.heap.size w w' := by
  obtain ⟨a1, c1, b1, o1, rfl, p1, q1, k1, _, _, m1, n1⟩ := ha.open
  obtain ⟨a2, c2, b2, o2, rfl, p2, q2, k2, _, _, m2, n2⟩ := hb.open
  by_cases hl : l.length = r.length
  · have HL := hid hl
    have hne : ((l.length : Int) != (r.length : Int)) = false := by simp [hl]
    clear hl
    go_enter Try.func23, Try.ntmps23
    go_wp2
    go_loopw [5] (fun i wr => ∃ k : Nat, k ≤ l.length ∧ i = .int .i64 k ∧ agreeTo l r k ∧ Below w.heap.size w wr) (fun i _ => l.length - (intOf i).toNat)
    case atStart => exact ⟨0, Nat.zero_le _, rfl, fun i hi => by omega, Below.refl _ _⟩
    case round =>
      obtain ⟨k, hk, rfl, hag, hbl⟩ := hrel
      obtain ⟨hc, hf⟩ := bcell hbl
      by_cases hlt : k < l.length
      · have hr : k < r.length := by have := HL.out; omega
        have e1 := p1 (by omega)
        have e2 := p2 (by omega)
        subst e1 e2
        have d1 := q1 k hlt
        have d2 := q2 k hr
        have d3 := k1 (by omega)
        have d4 := k2 (by omega)
        by_cases hx : nth l k = nth r k
        · have hx' : (nth l k != nth r k) = false := by simp [hx]
          have HX := hid hx
          have HA := hid hag
          clear hx hag p1 p2 q1 q2 k1 k2
          go_wp2
          go_quiet (fail)
          go_wp2
          go_roundw
          case rel =>
            refine ⟨k + 1, by omega, by go_num, ?_, ?_⟩
            · intro i hi
              rcases Nat.lt_or_ge i k with h | h
              · exact HA.out i h
              · obtain rfl : i = k := by omega
                exact HX.out
            · exact below_drewN hbl _
          case measure => simp [intOf]; omega
        · have hx' : (nth l k != nth r k) = true := by simp [hx]
          have HX := hid hx
          clear hx hag p1 p2 q1 q2 k1 k2
          go_wp2
          go_quiet (fail)
          go_wp2
          go_ret
          refine ⟨ret_bool ?_, below_drewN hbl _⟩
          simp only [intsEq]
          symm
          rw [decide_eq_false_iff_not]
          intro h
          exact HX.out (by rw [h])
      · have HA := hid hag
        clear hag
        go_wp2
        go_ret
        refine ⟨ret_bool ?_, hbl⟩
        obtain rfl : k = l.length := by omega
        simp only [intsEq]
        symm
        rw [decide_eq_true_iff]
        exact agree_eq l r HL.out HA.out
  · have hne : ((l.length : Int) != (r.length : Int)) = true := by simp; omega
    have HL := hid hl
    clear hl
    go_enter Try.func23, Try.ntmps23
    go_wp2
    go_ret
    refine ⟨ret_bool ?_, Below.refl _ _⟩
    simp only [intsEq]
    symm
    rw [decide_eq_false_iff_not]
    intro h
    exact HL.out (by rw [h])

end Go.Proofs.Ytealeofgfgbheaa

/-
  Equality of programs, as the document's answer checks it.
-/
namespace Go.Proofs.Ytealeofgfgbheaa
set_option linter.unusedVariables false
set_option linter.unusedSimpArgs false
open Go.RowKit

theorem neqb {x y : Int} (h : x = y) : (x != y) = false := by simp [h]
theorem neqb' {x y : Int} (h : ¬ x = y) : (x != y) = true := by simp [h]

set_option maxRecDepth 100000 in
set_option maxHeartbeats 4000000 in
theorem reqFun_calls (lo1 lo2 : Nat) (vc vd : Value) (f g : Fun) (w : World) (hc : CodeAt lo1 w vc f.code) (hd : CodeAt lo2 w vd g.code) :
    Calls Try.prog 40 #[.agg #[.string f.name, .int .i64 f.params, .int .i64 f.regs, vc], .agg #[.string g.name, .int .i64 g.params, .int .i64 g.regs, vd]] w fun e w' => e = .returned (.bool (eqC f g)) ∧ Below w.heap.size w w' := by
  obtain ⟨a1, c1, b1, o1, rfl, p1, x0, x1, x2, x3, x4, k1, _, _, m1, n1⟩ := hc.open
  obtain ⟨a2, c2, b2, o2, rfl, p2, y0, y1, y2, y3, y4, k2, _, _, m2, n2⟩ := hd.open
  cases h1 : (f.name.toList == g.name.toList) with
  | false =>
    have g1 : (f.name.toList != g.name.toList) = true := by simp [bne, h1]
    have HR := hid (show eqC f g = false from eqC_false fun he => by rw [he] at h1; simp at h1)
    clear hc hd p1 p2 x0 x1 x2 x3 x4 y0 y1 y2 y3 y4 k1 k2
    go_enter Try.func40, Try.ntmps40
    go_wp2_with fail
    go_ret
    exact ⟨ret_bool HR.out.symm, ((Below.refl _ _).alloc (Nat.le_refl _) _).alloc (by simp) _⟩
  | true =>
    have g1 : (f.name.toList != g.name.toList) = false := by simp [bne, h1]
    have HN := hid (bytes_eq.1 h1)
    by_cases h2 : f.params = g.params
    · have g2 := neqb h2
      have HP := hid h2
      clear h2
      by_cases h3 : f.regs = g.regs
      · have g3 := neqb h3
        have HG := hid h3
        clear h3
        by_cases h4 : f.code.length = g.code.length
        · have g4 : ((f.code.length : Int) != (g.code.length : Int)) = false := by simp [h4]
          have HL := hid h4
          have HXX := hid (And.intro p1 (And.intro x0 (And.intro x1 (And.intro x2 (And.intro x3 (And.intro x4 k1))))))
          have HY := hid (And.intro p2 (And.intro y0 (And.intro y1 (And.intro y2 (And.intro y3 (And.intro y4 k2))))))
          clear h4 hc hd p1 p2 x0 x1 x2 x3 x4 y0 y1 y2 y3 y4 k1 k2
          go_enter Try.func40, Try.ntmps40
          go_wp2_with fail
          generalize hW : World.alloc _ _ = W
          have hbW : Below w.heap.size w W := by rw [← hW]; exact ((Below.refl _ _).alloc (Nat.le_refl _) _).alloc (by simp) _
          have R1 := hid (show RowAt W w.heap.size [.string f.name, .int .i64 f.params, .int .i64 f.regs, .slice a1 f.code.length c1] by
            rw [← hW]
            exact (RowAt.new w _ _ _ _ rfl rfl).below ((Below.refl _ _).alloc (Nat.le_refl _) _))
          have R2 := hid (show RowAt W (w.heap.size + 1) [.string g.name, .int .i64 g.params, .int .i64 g.regs, .slice a2 g.code.length c2] by
            rw [← hW]
            exact RowAt.new _ _ _ _ _ (by simp) rfl)
          have HBW := hid hbW
          clear hW hbW
          go_loopw [5] (fun i wr => ∃ k : Nat, k ≤ f.code.length ∧ i = .int .i64 k ∧ (∀ j, j < k → nth f.code j = nth g.code j) ∧ Below w.heap.size w wr ∧ Below W.heap.size W wr) (fun i _ => f.code.length - (intOf i).toNat)
          case atStart => exact ⟨0, Nat.zero_le _, rfl, fun j hj => by omega, HBW.out, Below.refl _ _⟩
          case round =>
            obtain ⟨k, hk, rfl, hag, hbl, hbl2⟩ := hrel
            have R1b := R1.out.below hbl2
            have R2b := R2.out.below hbl2
            have r3 := R1b.2 3 _ rfl
            have q3 := R2b.2 3 _ rfl
            have s5 := R1b.1
            have s6 := R2b.1
            have HB1 := hid hbl
            have HB2 := hid hbl2
            clear R1b R2b
            have HA := hid hag
            clear hag
            by_cases hlt : k < f.code.length
            · have hr : k < g.code.length := by have := HL.out; omega
              obtain ⟨p1, x0, x1, x2, x3, x4, k1⟩ := HXX.out
              obtain ⟨p2, y0, y1, y2, y3, y4, k2⟩ := HY.out
              have e1 := p1 (by omega)
              have e2 := p2 (by omega)
              subst e1 e2
              have s1 := k1 (by omega)
              have s2 := k2 (by omega)
              have d0 := (hbl.cell (p := ⟨b1, _, none⟩) s1).trans (x0 k hlt)
              have d1 := (hbl.cell (p := ⟨b1, _, none⟩) s1).trans (x1 k hlt)
              have d2 := (hbl.cell (p := ⟨b1, _, none⟩) s1).trans (x2 k hlt)
              have d3 := (hbl.cell (p := ⟨b1, _, none⟩) s1).trans (x3 k hlt)
              have d4 := (hbl.cell (p := ⟨b1, _, none⟩) s1).trans (x4 k hlt)
              have f0 := (hbl.cell (p := ⟨b2, _, none⟩) s2).trans (y0 k hr)
              have f1 := (hbl.cell (p := ⟨b2, _, none⟩) s2).trans (y1 k hr)
              have f2 := (hbl.cell (p := ⟨b2, _, none⟩) s2).trans (y2 k hr)
              have f3 := (hbl.cell (p := ⟨b2, _, none⟩) s2).trans (y3 k hr)
              have f4 := (hbl.cell (p := ⟨b2, _, none⟩) s2).trans (y4 k hr)
              have hz := hbl.size
              have s3 : b1 < wr.heap.size := by omega
              have s4 : b2 < wr.heap.size := by omega
              have hlt2 : (k : Int) < f.code.length := by omega
              have hr2 : (k : Int) < g.code.length := by omega
              obtain ⟨u, hu⟩ : ∃ u, nth f.code k = u := ⟨_, rfl⟩
              obtain ⟨v, hv⟩ : ∃ v, nth g.code k = v := ⟨_, rfl⟩
              have HU := hid hu
              have HV := hid hv
              rw [hu] at d0 d1 d2 d3 d4
              rw [hv] at f0 f1 f2 f3 f4
              clear p1 p2 x0 x1 x2 x3 x4 y0 y1 y2 y3 y4 k1 k2 hu hv hz hbl hbl2
              have hneq := neqIns u v
              unfold insV at hneq
              have hgd := insGuard
              cases hx : eqC u v with
              | true =>
                rw [hx] at hneq
                have HX := hid hx
                clear hx
                go_wp2_with fail
                go_quiet (fail)
                go_wp2_with fail
                go_roundw
                case rel =>
                  refine ⟨k + 1, by omega, by go_num, fun j hj => ?_, below_drewN HB1.out _, below_drewN HB2.out _⟩
                  rcases Nat.lt_or_ge j k with h5 | h5
                  · exact HA.out j h5
                  · rw [show j = k by omega, HU.out, HV.out]
                    have h9 := HX.out
                    simpa [eqC] using h9
                case measure => simp [intOf]; omega
              | false =>
                rw [hx] at hneq
                have HX := hid hx
                clear hx
                go_wp2_with fail
                go_quiet (fail)
                go_wp2_with fail
                go_ret
                refine ⟨ret_bool (eqC_false fun he => ?_).symm, below_drewN HB1.out _⟩
                have h9 := HX.out
                rw [← HU.out, ← HV.out, he] at h9
                simp [eqC] at h9
            · clear hbl hbl2
              go_wp2_with fail
              go_ret
              exact ⟨ret_bool (eqC_true (fun_ext' HN.out HP.out HG.out (eq_of_nth HL.out fun j hj => HA.out j (by omega)))).symm, HB1.out⟩
        · have g4 : ((f.code.length : Int) != (g.code.length : Int)) = true := by simp; omega
          have HR := hid (show eqC f g = false from eqC_false fun he => h4 (by rw [he]))
          clear h4 hc hd p1 p2 x0 x1 x2 x3 x4 y0 y1 y2 y3 y4 k1 k2
          go_enter Try.func40, Try.ntmps40
          go_wp2_with fail
          go_ret
          exact ⟨ret_bool HR.out.symm, ((Below.refl _ _).alloc (Nat.le_refl _) _).alloc (by simp) _⟩
      · have g3 := neqb' h3
        have HR := hid (show eqC f g = false from eqC_false fun he => h3 (by rw [he]))
        clear h3 hc hd p1 p2 x0 x1 x2 x3 x4 y0 y1 y2 y3 y4 k1 k2
        go_enter Try.func40, Try.ntmps40
        go_wp2_with fail
        go_ret
        exact ⟨ret_bool HR.out.symm, ((Below.refl _ _).alloc (Nat.le_refl _) _).alloc (by simp) _⟩
    · have g2 := neqb' h2
      have HR := hid (show eqC f g = false from eqC_false fun he => h2 (by rw [he]))
      clear h2 hc hd p1 p2 x0 x1 x2 x3 x4 y0 y1 y2 y3 y4 k1 k2
      go_enter Try.func40, Try.ntmps40
      go_wp2_with fail
      go_ret
      exact ⟨ret_bool HR.out.symm, ((Below.refl _ _).alloc (Nat.le_refl _) _).alloc (by simp) _⟩

end Go.Proofs.Ytealeofgfgbheaa
