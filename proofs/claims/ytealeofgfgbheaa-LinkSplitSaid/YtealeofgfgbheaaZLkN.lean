/-
  link.renumber walked, over any function value that is a function of its operands.
-/
import Derived.Test.YtealeofgfgbheaaZPrClone
import Derived.Test.YtealeofgfgbheaaZLkS
namespace Go.Proofs.Ytealeofgfgbheaa
set_option linter.unusedVariables false
set_option linter.unusedSimpArgs false
open Go.RowKit

def Num6 (op : Int) : Prop := op = 26 ∨ op = 28 ∨ op = 31 ∨ op = 24 ∨ op = 18 ∨ op = 21
instance (op : Int) : Decidable (Num6 op) := by unfold Num6; infer_instance
def reI (g : Int → Int → Int) (x : Ins) : Ins := if Num6 x.op then { x with b := g x.op x.b } else x
def zI (g : Int → Int → Int) (l : List Ins) (k : Nat) : List Ins := (l.take k).map (reI g) ++ l.drop k
theorem zI_len (g : Int → Int → Int) (l : List Ins) (k : Nat) (h : k ≤ l.length) : (zI g l k).length = l.length := by unfold zI; simp; omega
theorem zI_zero (g : Int → Int → Int) (l : List Ins) : zI g l 0 = l := by simp [zI]
theorem zI_end (g : Int → Int → Int) (l : List Ins) : zI g l l.length = l.map (reI g) := by simp [zI]
theorem zI_nth (g : Int → Int → Int) (l : List Ins) (k : Nat) (h : k < l.length) : nth (zI g l k) k = nth l k := by
  unfold zI nth
  rw [List.getD_eq_getElem?_getD, List.getD_eq_getElem?_getD, List.getElem?_append_right (by simp; omega)]
  simp [Nat.min_eq_left (Nat.le_of_lt h)]
theorem zI_set (g : Int → Int → Int) (l : List Ins) (k : Nat) (h : k < l.length) : (zI g l k).set k (reI g (nth l k)) = zI g l (k + 1) := by
  unfold zI
  have e : l.drop k = nth l k :: l.drop (k + 1) := by rw [nth_eq _ _ h, List.drop_eq_getElem_cons h]
  have e2 : l.take (k + 1) = l.take k ++ [nth l k] := by rw [nth_eq _ _ h, List.take_succ_eq_append_getElem h]
  have hl : ((l.take k).map (reI g)).length = k := by simp; omega
  rw [List.set_append_right _ _ (by omega), hl, Nat.sub_self, e, e2]
  simp
theorem zI_same (g : Int → Int → Int) (l : List Ins) (k : Nat) (h : k < l.length) (hc : reI g (nth l k) = nth l k) : zI g l (k + 1) = zI g l k := by
  rw [← zI_set g l k h, hc, ← zI_nth g l k h]
  rw [nth_eq _ _ (by rw [zI_len g l k (by omega)]; exact h)]
  exact List.set_getElem_self _

set_option maxRecDepth 100000 in
set_option maxHeartbeats 8000000 in
theorem renumber_calls (lo : Nat) (v : Value) (l : List Ins) (w : World) (T : FuncId) (cap : Array Value) (g : Int → Int → Int) (h : SlE insE lo w v l) (hn : l.length ≤ 1000000) (hTf : ∀ args w, (callFunc T args).run Try.prog w = .ok (.enter T args) w)
    (hcall : ∀ x ∈ l, Num6 x.op → ∀ w', Below w.heap.size w w' → Calls Try.prog T (#[.int .i64 x.op, .int .i64 x.b] ++ cap) w' fun e w'' => e = .returned (.int .i64 (g x.op x.b)) ∧ Below w'.heap.size w' w'') :
    Calls Try.prog 55 #[v, .func (.func T) #[] cap] w fun e w' => ∃ v', e = .returned v' ∧ OwnE insE w.heap.size 43 w' v' (l.map (reI g)) ∧ Below w.heap.size w w' := by
  have H := hid h
  have HCALL := hid hcall
  clear h hcall
  go_enter Try.func55, Try.ntmps55
  go_wp2_with fail
  refine (clnIns_calls lo v l w H.out hn).mono ?_
  rintro e w1 ⟨v1, rfl, ho1, hb1⟩
  obtain ⟨oa, oc, rfl⟩ := ho1.anySlice
  have HO1 := hid ho1
  have HB1 := hid hb1
  clear ho1 hb1
  go_wp2_with fail
  go_loopw [12] (fun iv wr => ∃ k : Nat, k ≤ l.length ∧ iv = .int .i64 k ∧ OwnE insE w.heap.size 43 wr (.slice oa l.length oc) (zI g l k) ∧ Below w.heap.size w wr) (fun iv _ => l.length - (intOf iv).toNat)
  case atStart => exact ⟨0, Nat.zero_le _, rfl, by rw [zI_zero]; exact HO1.out, HB1.out⟩
  case round =>
  clear HO1 HB1
  obtain ⟨k, hk, rfl, ho, hb⟩ := hrel
  obtain ⟨wo, hwo⟩ : ∃ wo, wo = wr := ⟨_, rfl⟩
  subst hwo
  have HO := hid ho
  have HB := hid hb
  clear ho hb
  by_cases hlt : k < l.length
  · have hlt2 : (k : Int) < l.length := Int.ofNat_lt.2 hlt
    have hki : ¬ ((k : Int) < 0) := by omega
    obtain ⟨cg, ccap, hce, hcg1, hcg2⟩ := HO.out.open (by rw [zI_len g l k hk]; omega)
    obtain ⟨rfl, -, rfl⟩ := Value.slice.inj hce
    obtain ⟨x, hx⟩ : ∃ x, nth l k = x := ⟨_, rfl⟩
    have y0 := HO.out.cellAt k 0 (by rw [zI_len g l k hk]; exact hlt) (by decide)
    have y1 := HO.out.cellAt k 1 (by rw [zI_len g l k hk]; exact hlt) (by decide)
    have y2 := HO.out.cellAt k 2 (by rw [zI_len g l k hk]; exact hlt) (by decide)
    have y3 := HO.out.cellAt k 3 (by rw [zI_len g l k hk]; exact hlt) (by decide)
    have y4 := HO.out.cellAt k 4 (by rw [zI_len g l k hk]; exact hlt) (by decide)
    rw [zI_nth g l k hlt, hx] at y0 y1 y2 y3 y4
    have y0' : wo.cell? ⟨cg, k * 5, none⟩ = some (.int .i64 x.op) := y0
    have y1' : wo.cell? ⟨cg, k * 5 + 1, none⟩ = some (.int .i64 x.a) := y1
    have y2' : wo.cell? ⟨cg, k * 5 + 2, none⟩ = some (.int .i64 x.b) := y2
    have y3' : wo.cell? ⟨cg, k * 5 + 3, none⟩ = some (.int .i64 x.c) := y3
    have y4' : wo.cell? ⟨cg, k * 5 + 4, none⟩ = some (.int .i64 x.pos) := y4
    have HX := hid hx
    have HM := hid (show x ∈ l by rw [← hx]; exact nth_mem l k hlt)
    clear hce y0 y1 y2 y3 y4 hx
    by_cases hop : Num6 x.op
    · have HOP := hid hop
      have hwo : w.heap.size ≤ wo.heap.size := HB.out.size
      rcases hop with h0 | h0 | h0 | h0 | h0 | h0
      · have e26 : (x.op == 26) = true := by simp [h0]
        clear h0
        go_wp2_with fail
        refine (HCALL.out x HM.out HOP.out _ (HB.out.alloc hwo _)).mono ?_
        rintro e w3 ⟨rfl, hb3⟩
        have hal : Below wo.heap.size wo (wo.alloc (.cells #[.int .i64 x.op, .int .i64 x.a, .int .i64 x.b, .int .i64 x.c, .int .i64 x.pos] 43)) := (Below.refl _ _).alloc (Nat.le_refl _) _
        have hb4 := hal.trans (hb3.mono hal.size)
        have hO3 := HO.out.fresh (Only.below hb4 none)
        have z2 := (hb4.cell (p := ⟨cg, k * 5 + 2, none⟩) hcg2).trans y2'
        have z7 := hO3.frozenAt (k * 5 + 2)
        have gl3 : cg < w3.heap.size := Nat.lt_of_lt_of_le hcg2 hb4.size
        have HO3 := hid hO3
        have HB4 := hid (HB.out.trans (hb4.mono hwo))
        clear hal hb4 hb3 hO3 y0' y1' y2' y3' y4'
        go_wp2_with fail
        have hput := HO3.out.put k 2 (.int .i64 (g x.op x.b)) (reI g x) (by rw [zI_len g l k hk]; exact hlt) (by decide) (by rw [zI_nth g l k hlt, HX.out]; unfold reI; rw [if_pos HOP.out]; rfl)
        rw [← HX.out, zI_set g l k hlt, HX.out] at hput
        have hbs : Below w.heap.size w (w3.setCell ⟨cg, k * 5 + 2, none⟩ (.int .i64 (g x.op x.b))) := HB4.out.setCell hcg1 _
        refine ⟨⟨k + 1, hlt, rfl, hput, hbs⟩, ?_⟩
        simp only [intOf]
        omega
      · have e26 : (x.op == 26) = false := by simp [h0]
        have e28 : (x.op == 28) = true := by simp [h0]
        clear h0
        go_wp2_with fail
        refine (HCALL.out x HM.out HOP.out _ (HB.out.alloc hwo _)).mono ?_
        rintro e w3 ⟨rfl, hb3⟩
        have hal : Below wo.heap.size wo (wo.alloc (.cells #[.int .i64 x.op, .int .i64 x.a, .int .i64 x.b, .int .i64 x.c, .int .i64 x.pos] 43)) := (Below.refl _ _).alloc (Nat.le_refl _) _
        have hb4 := hal.trans (hb3.mono hal.size)
        have hO3 := HO.out.fresh (Only.below hb4 none)
        have z2 := (hb4.cell (p := ⟨cg, k * 5 + 2, none⟩) hcg2).trans y2'
        have z7 := hO3.frozenAt (k * 5 + 2)
        have gl3 : cg < w3.heap.size := Nat.lt_of_lt_of_le hcg2 hb4.size
        have HO3 := hid hO3
        have HB4 := hid (HB.out.trans (hb4.mono hwo))
        clear hal hb4 hb3 hO3 y0' y1' y2' y3' y4'
        go_wp2_with fail
        have hput := HO3.out.put k 2 (.int .i64 (g x.op x.b)) (reI g x) (by rw [zI_len g l k hk]; exact hlt) (by decide) (by rw [zI_nth g l k hlt, HX.out]; unfold reI; rw [if_pos HOP.out]; rfl)
        rw [← HX.out, zI_set g l k hlt, HX.out] at hput
        have hbs : Below w.heap.size w (w3.setCell ⟨cg, k * 5 + 2, none⟩ (.int .i64 (g x.op x.b))) := HB4.out.setCell hcg1 _
        refine ⟨⟨k + 1, hlt, rfl, hput, hbs⟩, ?_⟩
        simp only [intOf]
        omega
      · have e26 : (x.op == 26) = false := by simp [h0]
        have e28 : (x.op == 28) = false := by simp [h0]
        have e31 : (x.op == 31) = true := by simp [h0]
        clear h0
        go_wp2_with fail
        refine (HCALL.out x HM.out HOP.out _ (HB.out.alloc hwo _)).mono ?_
        rintro e w3 ⟨rfl, hb3⟩
        have hal : Below wo.heap.size wo (wo.alloc (.cells #[.int .i64 x.op, .int .i64 x.a, .int .i64 x.b, .int .i64 x.c, .int .i64 x.pos] 43)) := (Below.refl _ _).alloc (Nat.le_refl _) _
        have hb4 := hal.trans (hb3.mono hal.size)
        have hO3 := HO.out.fresh (Only.below hb4 none)
        have z2 := (hb4.cell (p := ⟨cg, k * 5 + 2, none⟩) hcg2).trans y2'
        have z7 := hO3.frozenAt (k * 5 + 2)
        have gl3 : cg < w3.heap.size := Nat.lt_of_lt_of_le hcg2 hb4.size
        have HO3 := hid hO3
        have HB4 := hid (HB.out.trans (hb4.mono hwo))
        clear hal hb4 hb3 hO3 y0' y1' y2' y3' y4'
        go_wp2_with fail
        have hput := HO3.out.put k 2 (.int .i64 (g x.op x.b)) (reI g x) (by rw [zI_len g l k hk]; exact hlt) (by decide) (by rw [zI_nth g l k hlt, HX.out]; unfold reI; rw [if_pos HOP.out]; rfl)
        rw [← HX.out, zI_set g l k hlt, HX.out] at hput
        have hbs : Below w.heap.size w (w3.setCell ⟨cg, k * 5 + 2, none⟩ (.int .i64 (g x.op x.b))) := HB4.out.setCell hcg1 _
        refine ⟨⟨k + 1, hlt, rfl, hput, hbs⟩, ?_⟩
        simp only [intOf]
        omega
      · have e26 : (x.op == 26) = false := by simp [h0]
        have e28 : (x.op == 28) = false := by simp [h0]
        have e31 : (x.op == 31) = false := by simp [h0]
        have e24 : (x.op == 24) = true := by simp [h0]
        clear h0
        go_wp2_with fail
        refine (HCALL.out x HM.out HOP.out _ (HB.out.alloc hwo _)).mono ?_
        rintro e w3 ⟨rfl, hb3⟩
        have hal : Below wo.heap.size wo (wo.alloc (.cells #[.int .i64 x.op, .int .i64 x.a, .int .i64 x.b, .int .i64 x.c, .int .i64 x.pos] 43)) := (Below.refl _ _).alloc (Nat.le_refl _) _
        have hb4 := hal.trans (hb3.mono hal.size)
        have hO3 := HO.out.fresh (Only.below hb4 none)
        have z2 := (hb4.cell (p := ⟨cg, k * 5 + 2, none⟩) hcg2).trans y2'
        have z7 := hO3.frozenAt (k * 5 + 2)
        have gl3 : cg < w3.heap.size := Nat.lt_of_lt_of_le hcg2 hb4.size
        have HO3 := hid hO3
        have HB4 := hid (HB.out.trans (hb4.mono hwo))
        clear hal hb4 hb3 hO3 y0' y1' y2' y3' y4'
        go_wp2_with fail
        have hput := HO3.out.put k 2 (.int .i64 (g x.op x.b)) (reI g x) (by rw [zI_len g l k hk]; exact hlt) (by decide) (by rw [zI_nth g l k hlt, HX.out]; unfold reI; rw [if_pos HOP.out]; rfl)
        rw [← HX.out, zI_set g l k hlt, HX.out] at hput
        have hbs : Below w.heap.size w (w3.setCell ⟨cg, k * 5 + 2, none⟩ (.int .i64 (g x.op x.b))) := HB4.out.setCell hcg1 _
        refine ⟨⟨k + 1, hlt, rfl, hput, hbs⟩, ?_⟩
        simp only [intOf]
        omega
      · have e26 : (x.op == 26) = false := by simp [h0]
        have e28 : (x.op == 28) = false := by simp [h0]
        have e31 : (x.op == 31) = false := by simp [h0]
        have e24 : (x.op == 24) = false := by simp [h0]
        have e18 : (x.op == 18) = true := by simp [h0]
        clear h0
        go_wp2_with fail
        refine (HCALL.out x HM.out HOP.out _ (HB.out.alloc hwo _)).mono ?_
        rintro e w3 ⟨rfl, hb3⟩
        have hal : Below wo.heap.size wo (wo.alloc (.cells #[.int .i64 x.op, .int .i64 x.a, .int .i64 x.b, .int .i64 x.c, .int .i64 x.pos] 43)) := (Below.refl _ _).alloc (Nat.le_refl _) _
        have hb4 := hal.trans (hb3.mono hal.size)
        have hO3 := HO.out.fresh (Only.below hb4 none)
        have z2 := (hb4.cell (p := ⟨cg, k * 5 + 2, none⟩) hcg2).trans y2'
        have z7 := hO3.frozenAt (k * 5 + 2)
        have gl3 : cg < w3.heap.size := Nat.lt_of_lt_of_le hcg2 hb4.size
        have HO3 := hid hO3
        have HB4 := hid (HB.out.trans (hb4.mono hwo))
        clear hal hb4 hb3 hO3 y0' y1' y2' y3' y4'
        go_wp2_with fail
        have hput := HO3.out.put k 2 (.int .i64 (g x.op x.b)) (reI g x) (by rw [zI_len g l k hk]; exact hlt) (by decide) (by rw [zI_nth g l k hlt, HX.out]; unfold reI; rw [if_pos HOP.out]; rfl)
        rw [← HX.out, zI_set g l k hlt, HX.out] at hput
        have hbs : Below w.heap.size w (w3.setCell ⟨cg, k * 5 + 2, none⟩ (.int .i64 (g x.op x.b))) := HB4.out.setCell hcg1 _
        refine ⟨⟨k + 1, hlt, rfl, hput, hbs⟩, ?_⟩
        simp only [intOf]
        omega
      · have e26 : (x.op == 26) = false := by simp [h0]
        have e28 : (x.op == 28) = false := by simp [h0]
        have e31 : (x.op == 31) = false := by simp [h0]
        have e24 : (x.op == 24) = false := by simp [h0]
        have e18 : (x.op == 18) = false := by simp [h0]
        have e21 : (x.op == 21) = true := by simp [h0]
        clear h0
        go_wp2_with fail
        refine (HCALL.out x HM.out HOP.out _ (HB.out.alloc hwo _)).mono ?_
        rintro e w3 ⟨rfl, hb3⟩
        have hal : Below wo.heap.size wo (wo.alloc (.cells #[.int .i64 x.op, .int .i64 x.a, .int .i64 x.b, .int .i64 x.c, .int .i64 x.pos] 43)) := (Below.refl _ _).alloc (Nat.le_refl _) _
        have hb4 := hal.trans (hb3.mono hal.size)
        have hO3 := HO.out.fresh (Only.below hb4 none)
        have z2 := (hb4.cell (p := ⟨cg, k * 5 + 2, none⟩) hcg2).trans y2'
        have z7 := hO3.frozenAt (k * 5 + 2)
        have gl3 : cg < w3.heap.size := Nat.lt_of_lt_of_le hcg2 hb4.size
        have HO3 := hid hO3
        have HB4 := hid (HB.out.trans (hb4.mono hwo))
        clear hal hb4 hb3 hO3 y0' y1' y2' y3' y4'
        go_wp2_with fail
        have hput := HO3.out.put k 2 (.int .i64 (g x.op x.b)) (reI g x) (by rw [zI_len g l k hk]; exact hlt) (by decide) (by rw [zI_nth g l k hlt, HX.out]; unfold reI; rw [if_pos HOP.out]; rfl)
        rw [← HX.out, zI_set g l k hlt, HX.out] at hput
        have hbs : Below w.heap.size w (w3.setCell ⟨cg, k * 5 + 2, none⟩ (.int .i64 (g x.op x.b))) := HB4.out.setCell hcg1 _
        refine ⟨⟨k + 1, hlt, rfl, hput, hbs⟩, ?_⟩
        simp only [intOf]
        omega
    · have HNP := hid (zI_same g l k hlt (by rw [HX.out]; unfold reI; rw [if_neg hop]))
      unfold Num6 at hop
      have e26 : (x.op == 26) = false := beq_eq_false_iff_ne.2 (fun e => hop (.inl e))
      have e28 : (x.op == 28) = false := beq_eq_false_iff_ne.2 (fun e => hop (.inr (.inl e)))
      have e31 : (x.op == 31) = false := beq_eq_false_iff_ne.2 (fun e => hop (.inr (.inr (.inl e))))
      have e24 : (x.op == 24) = false := beq_eq_false_iff_ne.2 (fun e => hop (.inr (.inr (.inr (.inl e)))))
      have e18 : (x.op == 18) = false := beq_eq_false_iff_ne.2 (fun e => hop (.inr (.inr (.inr (.inr (.inl e))))))
      have e21 : (x.op == 21) = false := beq_eq_false_iff_ne.2 (fun e => hop (.inr (.inr (.inr (.inr (.inr e))))))
      have hal : Below wo.heap.size wo (wo.alloc (.cells #[.int .i64 x.op, .int .i64 x.a, .int .i64 x.b, .int .i64 x.c, .int .i64 x.pos] 43)) := (Below.refl _ _).alloc (Nat.le_refl _) _
      have HAL := hid hal
      clear hop hal
      go_wp2_with fail
      refine ⟨⟨k + 1, hlt, rfl, by rw [HNP.out]; exact HO.out.alloc _, HB.out.trans (HAL.out.mono HB.out.size)⟩, ?_⟩
      simp only [intOf]
      omega
  · have hke : k = l.length := by omega
    subst hke
    have HE := hid HO.out
    rw [zI_end] at HE
    go_wp2_with fail
    go_ret
    exact ⟨_, rfl, HE.out, HB.out⟩

end Go.Proofs.Ytealeofgfgbheaa
