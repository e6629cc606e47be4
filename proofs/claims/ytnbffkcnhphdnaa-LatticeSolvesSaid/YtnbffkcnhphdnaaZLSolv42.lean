/-
  The law LatticeSolves, walked.
-/
import Derived.IntWalk
import Derived.Test.YtnbffkcnhphdnaaZSame42
import Derived.Test.YtnbffkcnhphdnaaZOwn42
import Derived.Test.YtnbffkcnhphdnaaZSolI42
import Derived.Test.YtnbffkcnhphdnaaZSolP42
namespace Go.Proofs.Ytnbffkcnhphdnaa
set_option linter.unusedVariables false
set_option linter.unusedSimpArgs false
open Go.RowKit

theorem most_calls (a b : Int) (w : World) : Calls Try.prog 35 #[.int .i64 a, .int .i64 b] w fun e w' => e = .returned (.int .i64 (mostI a b)) ∧ Below w.heap.size w w' := by
  by_cases h : b < a
  · have H := hid (show mostI a b = a from if_pos h)
    go_enter Try.func35, Try.ntmps35
    go_wp2_with fail
    go_ret
    exact ⟨ret_int H.out.symm, Below.refl _ _⟩
  · have H := hid (show mostI a b = b from if_neg h)
    go_enter Try.func35, Try.ntmps35
    go_wp2_with fail
    go_ret
    exact ⟨ret_int H.out.symm, Below.refl _ _⟩
theorem same_calls (a b : Int) (w : World) : Calls Try.prog 36 #[.int .i64 a, .int .i64 b] w fun e w' => e = .returned (.bool (decide (a = b))) ∧ Below w.heap.size w w' := by
  go_enter Try.func36, Try.ntmps36
  go_wp2_with fail
  go_ret
  exact ⟨ret_bool (by by_cases h : a = b <;> simp [h]), Below.refl _ _⟩
theorem half_calls (i : Nat) (x : Int) (w : World) (hi : i ≤ 16) (hx : OkN x) : Calls Try.prog 33 #[.int .i64 (i : Nat), .int .i64 x] w fun e w' => e = .returned (.int .i64 (halfI i x)) ∧ Below w.heap.size w w' := by
  have hb := halfI_bnd i hx
  have hx0 := hx
  unfold OkN at hx0
  have HB := hid hb
  have h1 : IntKind.i64.wrap (x.tmod 2) = x.tmod 2 := by
    generalize x.tmod 2 = a at *
    exact IntWalk.i64_in _ (by omega)
  have h2 : IntKind.i64.wrap ((i : Int) % 3) = (i : Int) % 3 := by
    generalize (i : Int) % 3 = a at *
    exact IntWalk.i64_in _ (by omega)
  have h3 : IntKind.i64.wrap (x - x.tmod 2) = x - x.tmod 2 := by
    generalize x.tmod 2 = a at *
    exact IntWalk.i64_in _ (by omega)
  have h4 : IntKind.i64.wrap (x - x.tmod 2 - (i : Int) % 3) = x - x.tmod 2 - (i : Int) % 3 := by
    generalize x.tmod 2 = a at *
    generalize (i : Int) % 3 = b at *
    exact IntWalk.i64_in _ (by omega)
  have h5 : wrap64 (x - x.tmod 2 - (i : Int) % 3) = x - x.tmod 2 - (i : Int) % 3 := by
    generalize x.tmod 2 = a at *
    generalize (i : Int) % 3 = b at *
    exact IntWalk.wrap64_in _ (by omega)
  clear hb hx0
  go_enter Try.func33, Try.ntmps33
  go_wp2_with fail
  go_ret
  exact ⟨ret_int rfl, Below.refl _ _⟩

set_option maxRecDepth 100000 in
set_option maxHeartbeats 4000000 in
theorem soli_zero (J T Q : FuncId) (lo lo2 : Nat) (ve vs : Value) (E : List Edg) (join : Int → Int → Int) (tr : Nat → Int → Int) (w : World) (hE : EdgesAt lo w ve E) (hS : IntsAt lo2 w vs []) (hEl : E.length ≤ 1000) :
    Calls Try.prog 51 #[ve, vs, .func (.func J) #[] #[], .func (.func Q) #[] #[], .func (.func T) #[] #[]] w fun e w' => ∃ v V, e = .returned v ∧ IntsAt 0 w' v V ∧ Steps 0 E join tr [] V ∧ ClosedV 0 E join tr V ∧ Below w.heap.size w w' := by
  obtain ⟨ea, ec, eb', eo, K, G, rfl, p1, x0, x1, x2, x3, xk, xg, k1, _, _, m1, n1⟩ := hE.open
  have HEO := hid (And.intro p1 (And.intro x0 (And.intro x1 (And.intro x2 (And.intro x3 k1)))))
  obtain ⟨sa, sc, sb, so, rfl, _, _, _, _, _, m2, n2⟩ := hS.open
  have HS := hid (show IntsAt lo2 w (.slice sa 0 sc) [] from hS)
  have hmk : ∀ u : World, (Instr.makeSlice 23 (.int .i64 0) (.int .i64 0)).run Try.prog u = _ := run_make_row' (P := Try.prog) 23 34 (.slice none 0 0) 24 Try.underlying23 infoRow42 rfl .i64 .i64 0 (by omega) (by omega)
  have hmm := @run_makeMap Try.prog
  clear hE hS p1 x0 x1 x2 x3 xk xg k1
  go_enter Try.func51, Try.ntmps51
  go_wp2_with (
    go_at_call 46
    refine (clone_calls lo2 _ [] w HS.out (by simp)).mono ?_
    rintro e w1 ⟨vv, rfl, hv, hb1⟩
    have HV := hid (show IntsAt 0 w1 vv [] from hv.sl (Nat.zero_le _) (by simp))
    have HB1 := hid hb1
    clear hv hb1)
  generalize hW : World.alloc (World.alloc _ _) _ = W3
  have hbW : Below w1.heap.size w1 W3 := by rw [← hW]; exact ((Below.refl _ _).alloc (Nat.le_refl _) _).alloc (by simp) _
  have HBW := hid (bvia HB1.out hbW)
  have HVW := hid (HV.out.below hbW)
  clear hW hbW hmk hmm HV
  go_loopw [33] (fun i wr => ∃ k : Nat, k ≤ E.length ∧ i = .int .i64 k ∧ Below W3.heap.size W3 wr) (fun i _ => E.length - (intOf i).toNat)
  case atStart => exact ⟨0, Nat.zero_le _, rfl, Below.refl _ _⟩
  case round =>
    obtain ⟨k, hk, rfl, hbl⟩ := hrel
    obtain ⟨wo, hwo⟩ : ∃ wo, wo = wr := ⟨_, rfl⟩
    subst hwo
    have HBL := hid hbl
    have HB := hid (bvia HBW.out hbl)
    have hsz := hbl.size
    clear hbl
    by_cases hlt : k < E.length
    · have hlt2 : (k : Int) < E.length := Int.ofNat_lt.2 hlt
      obtain ⟨p1, x0, x1, x2, x3, k1⟩ := HEO.out
      have e1 := p1 (by omega)
      subst e1
      have zE := k1 (by omega)
      have d0 := (HB.out.cell (p := ⟨eb', _, none⟩) zE).trans (x0 k hlt)
      have d1 := (HB.out.cell (p := ⟨eb', _, none⟩) zE).trans (x1 k hlt)
      have d2 := (HB.out.cell (p := ⟨eb', _, none⟩) zE).trans (x2 k hlt)
      have d3 := (HB.out.cell (p := ⟨eb', _, none⟩) zE).trans (x3 k hlt)
      have zE2 : eb' < wo.heap.size := by have := HB.out.size; omega
      obtain ⟨ed, hed⟩ : ∃ ed, nth E k = ed := ⟨_, rfl⟩
      rw [hed] at d0 d1 d2 d3
      clear hed p1 x0 x1 x2 x3 k1
      by_cases h1 : 0 ≤ ed.src
      · have h2 : ¬ ed.src < 0 := by omega
        go_wp2_with fail
        exact ⟨⟨k + 1, by omega, by go_num, HBL.out.alloc hsz _⟩, by simp [intOf] <;> omega⟩
      · go_wp2_with fail
        exact ⟨⟨k + 1, by omega, by go_num, HBL.out.alloc hsz _⟩, by simp [intOf] <;> omega⟩
    · go_wp2_with fail
      go_loopw [15, 72] (fun lv i wr => lv = .slice none 0 0 ∧ i = .int .i64 0 ∧ wr = wo) (fun _ _ _ => 0)
      case atStart => exact ⟨rfl, rfl, rfl⟩
      case round =>
        obtain ⟨rfl, rfl, hwr⟩ := hrel
        obtain ⟨wi, hwi⟩ : ∃ wi, wi = wr := ⟨_, rfl⟩
        subst hwi
        have HBI := hid (show Below w.heap.size w wi by rw [hwr]; exact HB.out)
        have HVI := hid (show IntsAt 0 wi vv [] by rw [hwr]; exact HVW.out.below HBL.out)
        clear hwr
        go_wp2_with fail
        go_loopw [15] (fun lv wr => lv = .slice none 0 0 ∧ wr = wi) (fun _ _ => 0)
        case atStart => exact ⟨rfl, rfl⟩
        case round =>
          obtain ⟨rfl, hwr⟩ := hrel
          obtain ⟨wj, hwj⟩ : ∃ wj, wj = wr := ⟨_, rfl⟩
          subst hwj
          have HBJ := hid (show Below w.heap.size w wj by rw [hwr]; exact HBI.out)
          have HVJ := hid (show IntsAt 0 wj vv [] by rw [hwr]; exact HVI.out)
          clear hwr
          go_wp2_with fail
          go_ret
          refine ⟨_, [], rfl, HVJ.out, .refl _, fun i hi hin => ?_, HBJ.out⟩
          have hb := (insideB_iff 0 _).1 hin
          omega

/-- solve from numbers within the law's range. -/
theorem Solve_calls (lo lo2 : Nat) (ve vs : Value) (E : List Edg) (s0 : List Int) (w : World) (hE : EdgesAt lo w ve E) (hS : IntsAt lo2 w vs s0) (hEl : E.length ≤ 16) (hn : s0.length ≤ 8) (hr : ∀ i, i < s0.length → OkN (nth s0 i)) :
    Calls Try.prog 34 #[ve, vs, .func (.func 35) #[] #[], .func (.func 36) #[] #[], .func (.func 33) #[] #[]] w fun e w' => ∃ v V, e = .returned v ∧ IntsAt 0 w' v V ∧ Steps s0.length E mostI halfI s0 V ∧ ClosedV s0.length E mostI halfI V ∧ Below w.heap.size w w' := by
  have HE := hid hE
  have HS := hid hS
  have HR := hid hr
  clear hE hS hr
  go_enter Try.func34, Try.ntmps34
  go_wp2_with (
    go_at_call 51
    refine (show Calls Try.prog 51 #[ve, vs, .func (.func 35) #[] #[], .func (.func 36) #[] #[], .func (.func 33) #[] #[]] w fun e w' => ∃ v V, e = .returned v ∧ IntsAt 0 w' v V ∧ Steps s0.length E mostI halfI s0 V ∧ ClosedV s0.length E mostI halfI V ∧ Below w.heap.size w w' from ?_).mono ?_
    · cases s0 with
      | nil => exact soli_zero _ _ _ lo lo2 ve vs E mostI halfI w HE.out HS.out (by omega)
      | cons a s =>
        refine soli_calls _ _ _ lo lo2 (a :: s).length ve vs E mostI halfI OkN (a :: s) lack w (fun args w => by go_simp) (fun args w => by go_simp) (fun args w => by go_simp) HE.out HS.out (alg_most rfl HR.out) (fun u hu => (steps_rng rfl HR.out hu).2) (by simp) (by omega) (by omega) (by have := lack_le (a :: s) HR.out; omega) (fun a b w' => most_calls a b w') (fun a b w' => same_calls a b w') (fun i x w' hi hx => half_calls i x w' (by omega) hx)
    rintro e w1 ⟨v1, V, rfl, h1, h2, h3, hb1⟩
    have H1 := hid h1
    have H2 := hid h2
    have H3 := hid h3
    have HB1 := hid hb1
    clear h1 h2 h3 hb1)
  go_ret
  exact ⟨_, V, rfl, H1.out, H2.out, H3.out, HB1.out⟩

end Go.Proofs.Ytnbffkcnhphdnaa
