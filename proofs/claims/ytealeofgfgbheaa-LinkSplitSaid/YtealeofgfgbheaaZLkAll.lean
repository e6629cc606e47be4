/-
  Rows of programs.
-/
import Derived.Test.YtealeofgfgbheaaZLkT
namespace Go.Proofs.Ytealeofgfgbheaa
set_option linter.unusedVariables false
set_option linter.unusedSimpArgs false
open Go.RowKit

abbrev PV := Slc × Slc × Slc × Int
def prgE : Enc PV := ⟨4, fun x => [x.1.val, x.2.1.val, x.2.2.1.val, .int .i64 x.2.2.2], fun _ => rfl, by simp [Value.oneCell', Slc.val], by decide⟩
theorem infoPrg12 : (Try.prog.info? 26).map (fun i => (i.zero, i.size, i.bytes)) = some (some (.agg #[.slice none 0 0, .slice none 0 0, .slice none 0 0, .int .i64 0]), 4, 80) := by kernel_rfl
/-- A row of programs, all in rows of the call's own. -/
structure ProgsQ (base : Nat) (w : World) (v : Value) (L : List Prg) (T : List PV) : Prop where
  len : T.length = L.length
  row : OwnE prgE base 26 w v T
  main : ∀ j, j < L.length → (nth T j).2.2.2 = (nth L j).main
  each : ∀ j, j < L.length → PartQ base w (nth T j).1.val (nth T j).2.1.val (nth T j).2.2.1.val (nth L j)
/-- The same to be read. -/
structure ProgsAt (lo : Nat) (w : World) (v : Value) (L : List Prg) (T : List PV) : Prop where
  len : T.length = L.length
  row : SlE prgE lo w v T
  main : ∀ j, j < L.length → (nth T j).2.2.2 = (nth L j).main
  each : ∀ j, j < L.length → ProgAt lo w (nth T j).1.val (nth T j).2.1.val (nth T j).2.2.1.val (nth L j)
theorem ProgsQ.at {base lo : Nat} {w : World} {v : Value} {L : List Prg} {T : List PV} (h : ProgsQ base w v L T) (hl : lo ≤ base) (hn : L.length ≤ 1000) (hw : ∀ P ∈ L, PrgWf P) : ProgsAt lo w v L T :=
  ⟨h.len, h.row.sl hl (by rw [h.len]; omega), h.main, fun j hj => (h.each j hj).at hl (hw _ (nth_mem L j hj))⟩
theorem ProgsAt.below {lo : Nat} {w w' : World} {v : Value} {L : List Prg} {T : List PV} (h : ProgsAt lo w v L T) (hb : Below w.heap.size w w') : ProgsAt lo w' v L T :=
  ⟨h.len, h.row.below hb, h.main, fun j hj => (h.each j hj).below hb⟩
theorem ProgsQ.fresh {base : Nat} {w w' : World} {v : Value} {L : List Prg} {T : List PV} (h : ProgsQ base w v L T) (ho : Only none w w') : ProgsQ base w' v L T :=
  ⟨h.len, h.row.fresh ho, h.main, fun j hj => (h.each j hj).fresh ho⟩
theorem ProgsQ.mono {base base' : Nat} {w : World} {v : Value} {L : List Prg} {T : List PV} (h : ProgsQ base w v L T) (hb : base' ≤ base) : ProgsQ base' w v L T := ⟨h.len, h.row.mono hb, h.main, fun j hj => (h.each j hj).mono hb⟩
theorem ProgsQ.nil (base : Nat) (w : World) : ProgsQ base w (.slice none 0 0) [] [] := ⟨rfl, OwnE.nil _ _ _ _, fun j hj => by simp at hj, fun j hj => by simp at hj⟩
theorem part_ne {base : Nat} {w : World} {v : Value} {T : List PV} (h : OwnE prgE base 26 w v T) : ∀ {α : Type} {E : Enc α} {e : TypeId} {u : Value} {c : List α}, (e = 41 ∨ e = 43 ∨ e = 60 ∨ e = 45 ∨ e = 3) → OwnE E base e w u c → ∀ k, u.ownBlock = some k → some k ≠ v.ownBlock := by
  intro α E e u c he hc
  rcases he with rfl | rfl | rfl | rfl | rfl <;> exact hc.neRow h (by decide)
theorem ProgsQ.snoc {base : Nat} {w w' : World} {v v' : Value} {L : List Prg} {T : List PV} {P : Prg} {x : PV} (h : ProgsQ base w v L T) (hg : w.grownBy w' v.ownBlock) (hrow : OwnE prgE base 26 w' v' (T ++ [x])) (hm : x.2.2.2 = P.main) (hP : PartQ base w x.1.val x.2.1.val x.2.2.1.val P) : ProgsQ base w' v' (L ++ [P]) (T ++ [x]) := by
  have hO : Only v.ownBlock w w' := Only.grown hg
  have ks : ∀ {uf ug ul : Value} {Q : Prg}, PartQ base w uf ug ul Q → PartQ base w' uf ug ul Q := fun hq => hq.only hO (part_ne h.row)
  refine ⟨by simp [h.len], hrow, fun j hj => ?_, fun j hj => ?_⟩
  · rw [List.length_append, List.length_singleton] at hj
    rcases Nat.lt_or_ge j L.length with h1 | h1
    · rw [nth_snoc_lt _ _ _ (by rw [h.len]; exact h1), nth_snoc_lt _ _ _ h1]; exact h.main j h1
    · rw [nth_snoc_eq _ _ _ (by rw [h.len]; omega), nth_snoc_eq _ _ _ (by omega)]; exact hm
  · rw [List.length_append, List.length_singleton] at hj
    rcases Nat.lt_or_ge j L.length with h1 | h1
    · rw [nth_snoc_lt _ _ _ (by rw [h.len]; exact h1), nth_snoc_lt _ _ _ h1]; exact ks (h.each j h1)
    · rw [nth_snoc_eq _ _ _ (by rw [h.len]; omega), nth_snoc_eq _ _ _ (by omega)]; exact ks hP
theorem PartQ.slices {base : Nat} {w : World} {uf ug ul : Value} {P : Prg} (h : PartQ base w uf ug ul P) : ∃ a b c : Slc, uf = a.val ∧ ug = b.val ∧ ul = c.val := by
  obtain ⟨ss, h1, h2, h3⟩ := h.funcs
  obtain ⟨rs, h4⟩ := h.lays
  obtain ⟨a1, c1, e1⟩ := h2.anySlice
  obtain ⟨a2, c2, e2⟩ := h.globs.anySlice
  obtain ⟨a3, c3, e3⟩ := h4.row.anySlice
  exact ⟨⟨a1, _, c1⟩, ⟨a2, _, c2⟩, ⟨a3, _, c3⟩, e1, e2, e3⟩

end Go.Proofs.Ytealeofgfgbheaa

/-
  link.all over a function value, without and with a bound receiver.
-/
namespace Go.Proofs.Ytealeofgfgbheaa
set_option linter.unusedVariables false
set_option linter.unusedSimpArgs false
open Go.RowKit

theorem SlE.open4 {α : Type} [Inhabited α] {E : Enc α} {lo : Nat} {w : World} {v : Value} {l : List α} (h : SlE E lo w v l) :
    ∃ a c b o, v = .slice a l.length c ∧ (0 < l.length → a = some ⟨b, o, none⟩) ∧ (∀ i k, i < l.length → k < E.sz → w.cell? ⟨b, o + i * E.sz + k, none⟩ = some (nth (E.enc (nth l i)) k)) ∧ (0 < l.length → b < w.heap.size) := by
  obtain ⟨a, c, b, o, rfl, hnil, hp, hc, -⟩ := h
  exact ⟨a, c, b, o, rfl, fun h0 => (hp h0).1, hc, fun h0 => World.block_lt_of_cell? _ _ (hc 0 0 h0 E.pos)⟩

set_option maxRecDepth 100000 in
set_option maxHeartbeats 4000000 in
theorem all0_calls (lo : Nat) (w0 w : World) (v : Value) (L : List Prg) (T : List PV) (F : FuncId) (I : Nat → World → Prop) (bs : Nat → Bool) (h : ProgsAt lo w0 v L T) (hn : L.length ≤ 1000)
    (hF : ∀ args w, (callFunc F args).run Try.prog w = .ok (.enter F args) w)
    (hlow : ∀ k w', I k w' → Below w0.heap.size w0 w') (hst : ∀ k w' w'', I k w' → Below w'.heap.size w' w'' → I k w'') (h0 : I 0 w)
    (hcall : ∀ k uf ug ul w', k < L.length → I k w' → ProgAt lo w0 uf ug ul (nth L k) → Calls Try.prog F #[.agg #[uf, ug, ul, .int .i64 (nth L k).main]] w' fun e w'' => e = .returned (.bool (bs k)) ∧ I (k + 1) w'') :
    Calls Try.prog 29 #[v, .func (.func F) #[] #[]] w fun e w' => ∃ b k, e = .returned (.bool b) ∧ I k w' ∧ k ≤ L.length ∧ (b = true → k = L.length ∧ ∀ j, j < L.length → bs j = true) ∧ (b = false → ∃ j, j < L.length ∧ bs j = false) := by
  have H := hid h
  have HLOW := hid hlow
  have HST := hid hst
  have HCALL := hid hcall
  have hln := h.len
  have hrw := h.row.open4
  obtain ⟨a, c, b, o, rfl, hp, hcell, hbl⟩ := hrw
  rw [hln] at hp hcell hbl ⊢
  have HCELL := hid (And.intro hp (And.intro hcell hbl))
  clear h hlow hst hcall hp hcell hbl
  go_enter Try.func29, Try.ntmps29
  go_wp2_with fail
  go_loopw [9] (fun iv wr => ∃ k : Nat, k ≤ L.length ∧ iv = .int .i64 k ∧ I k wr ∧ ∀ j, j < k → bs j = true) (fun iv _ => L.length - (intOf iv).toNat)
  case atStart => exact ⟨0, Nat.zero_le _, rfl, h0, fun j hj => by omega⟩
  case round =>
  clear h0
  obtain ⟨k, hk, rfl, hi, hbs⟩ := hrel
  obtain ⟨wo, hwo⟩ : ∃ wo, wo = wr := ⟨_, rfl⟩
  subst hwo
  have HI := hid hi
  have HBS := hid hbs
  clear hi hbs
  by_cases hlt : k < L.length
  · have hlt2 : (k : Int) < L.length := Int.ofNat_lt.2 hlt
    have hki : ¬ ((k : Int) < 0) := by omega
    obtain ⟨hp, hcell, hbl⟩ := HCELL.out
    obtain rfl := hp (by omega)
    have hbw := HLOW.out _ _ HI.out
    have gl := hbl (by omega)
    have y0 := (hbw.cell (p := ⟨b, _, none⟩) gl).trans (hcell k 0 hlt (by decide))
    have y1 := (hbw.cell (p := ⟨b, _, none⟩) gl).trans (hcell k 1 hlt (by decide))
    have y2 := (hbw.cell (p := ⟨b, _, none⟩) gl).trans (hcell k 2 hlt (by decide))
    have y3 := (hbw.cell (p := ⟨b, _, none⟩) gl).trans (hcell k 3 hlt (by decide))
    obtain ⟨t, ht⟩ : ∃ t, nth T k = t := ⟨_, rfl⟩
    have hmn := H.out.main k hlt
    have hpr := H.out.each k hlt
    rw [ht] at y0 y1 y2 y3 hmn hpr
    obtain ⟨tf, tg, tl, tm⟩ := t
    simp only at hmn hpr
    subst hmn
    have z0 : wo.cell? ⟨b, o + k * 4, none⟩ = some (.slice tf.a tf.n tf.c) := y0
    have z1 : wo.cell? ⟨b, o + k * 4 + 1, none⟩ = some (.slice tg.a tg.n tg.c) := y1
    have z2 : wo.cell? ⟨b, o + k * 4 + 2, none⟩ = some (.slice tl.a tl.n tl.c) := y2
    have z3 : wo.cell? ⟨b, o + k * 4 + 3, none⟩ = some (.int .i64 (nth L k).main) := y3
    have gl2 : b < wo.heap.size := Nat.lt_of_lt_of_le gl hbw.size
    have HPR := hid hpr
    have hal : Below wo.heap.size wo (wo.alloc (.cells #[.slice tf.a tf.n tf.c, .slice tg.a tg.n tg.c, .slice tl.a tl.n tl.c, .int .i64 (nth L k).main] 26)) := (Below.refl _ _).alloc (Nat.le_refl _) _
    have HAL := hid hal
    have hff := hF
    clear hp hcell hbl hbw gl y0 y1 y2 y3 hpr hal
    go_wp2_with fail
    refine (HCALL.out k _ _ _ _ hlt (HST.out _ _ _ HI.out HAL.out) HPR.out).mono ?_
    rintro e w2 ⟨rfl, hi2⟩
    have HI2 := hid hi2
    clear hi2 z0 z1 z2 z3 gl2
    cases hb : bs k with
    | true =>
      have HB := hid hb
      clear hb
      go_wp2_with fail
      refine ⟨⟨k + 1, hlt, rfl, HI2.out, fun j hj => ?_⟩, ?_⟩
      · rcases Nat.lt_or_ge j k with h5 | h5
        · exact HBS.out j h5
        · rw [show j = k by omega]; exact HB.out
      · simp only [intOf]
        omega
    | false =>
      have HB := hid hb
      clear hb
      go_wp2_with fail
      go_ret
      exact ⟨false, k + 1, rfl, HI2.out, hlt, fun h => (by cases h), fun _ => ⟨k, hlt, HB.out⟩⟩
  · have hke : k = L.length := by omega
    subst hke
    go_wp2_with fail
    go_ret
    exact ⟨true, _, rfl, HI.out, Nat.le_refl _, fun _ => ⟨rfl, HBS.out⟩, fun h => (by cases h)⟩

set_option maxRecDepth 100000 in
set_option maxHeartbeats 4000000 in
theorem all1_calls (lo : Nat) (w0 w : World) (v : Value) (L : List Prg) (T : List PV) (F : FuncId) (kv : Value) (I : Nat → World → Prop) (bs : Nat → Bool) (h : ProgsAt lo w0 v L T) (hn : L.length ≤ 1000)
    (hF : ∀ args w, (callFunc F args).run Try.prog w = .ok (.enter F args) w)
    (hlow : ∀ k w', I k w' → Below w0.heap.size w0 w') (hst : ∀ k w' w'', I k w' → Below w'.heap.size w' w'' → I k w'') (h0 : I 0 w)
    (hcall : ∀ k uf ug ul w', k < L.length → I k w' → ProgAt lo w0 uf ug ul (nth L k) → Calls Try.prog F #[kv, .agg #[uf, ug, ul, .int .i64 (nth L k).main]] w' fun e w'' => e = .returned (.bool (bs k)) ∧ I (k + 1) w'') :
    Calls Try.prog 29 #[v, .func (.func F) #[kv] #[]] w fun e w' => ∃ b k, e = .returned (.bool b) ∧ I k w' ∧ k ≤ L.length ∧ (b = true → k = L.length ∧ ∀ j, j < L.length → bs j = true) ∧ (b = false → ∃ j, j < L.length ∧ bs j = false) := by
  have H := hid h
  have HLOW := hid hlow
  have HST := hid hst
  have HCALL := hid hcall
  have hln := h.len
  have hrw := h.row.open4
  obtain ⟨a, c, b, o, rfl, hp, hcell, hbl⟩ := hrw
  rw [hln] at hp hcell hbl ⊢
  have HCELL := hid (And.intro hp (And.intro hcell hbl))
  clear h hlow hst hcall hp hcell hbl
  go_enter Try.func29, Try.ntmps29
  go_wp2_with fail
  go_loopw [9] (fun iv wr => ∃ k : Nat, k ≤ L.length ∧ iv = .int .i64 k ∧ I k wr ∧ ∀ j, j < k → bs j = true) (fun iv _ => L.length - (intOf iv).toNat)
  case atStart => exact ⟨0, Nat.zero_le _, rfl, h0, fun j hj => by omega⟩
  case round =>
  clear h0
  obtain ⟨k, hk, rfl, hi, hbs⟩ := hrel
  obtain ⟨wo, hwo⟩ : ∃ wo, wo = wr := ⟨_, rfl⟩
  subst hwo
  have HI := hid hi
  have HBS := hid hbs
  clear hi hbs
  by_cases hlt : k < L.length
  · have hlt2 : (k : Int) < L.length := Int.ofNat_lt.2 hlt
    have hki : ¬ ((k : Int) < 0) := by omega
    obtain ⟨hp, hcell, hbl⟩ := HCELL.out
    obtain rfl := hp (by omega)
    have hbw := HLOW.out _ _ HI.out
    have gl := hbl (by omega)
    have y0 := (hbw.cell (p := ⟨b, _, none⟩) gl).trans (hcell k 0 hlt (by decide))
    have y1 := (hbw.cell (p := ⟨b, _, none⟩) gl).trans (hcell k 1 hlt (by decide))
    have y2 := (hbw.cell (p := ⟨b, _, none⟩) gl).trans (hcell k 2 hlt (by decide))
    have y3 := (hbw.cell (p := ⟨b, _, none⟩) gl).trans (hcell k 3 hlt (by decide))
    obtain ⟨t, ht⟩ : ∃ t, nth T k = t := ⟨_, rfl⟩
    have hmn := H.out.main k hlt
    have hpr := H.out.each k hlt
    rw [ht] at y0 y1 y2 y3 hmn hpr
    obtain ⟨tf, tg, tl, tm⟩ := t
    simp only at hmn hpr
    subst hmn
    have z0 : wo.cell? ⟨b, o + k * 4, none⟩ = some (.slice tf.a tf.n tf.c) := y0
    have z1 : wo.cell? ⟨b, o + k * 4 + 1, none⟩ = some (.slice tg.a tg.n tg.c) := y1
    have z2 : wo.cell? ⟨b, o + k * 4 + 2, none⟩ = some (.slice tl.a tl.n tl.c) := y2
    have z3 : wo.cell? ⟨b, o + k * 4 + 3, none⟩ = some (.int .i64 (nth L k).main) := y3
    have gl2 : b < wo.heap.size := Nat.lt_of_lt_of_le gl hbw.size
    have HPR := hid hpr
    have hal : Below wo.heap.size wo (wo.alloc (.cells #[.slice tf.a tf.n tf.c, .slice tg.a tg.n tg.c, .slice tl.a tl.n tl.c, .int .i64 (nth L k).main] 26)) := (Below.refl _ _).alloc (Nat.le_refl _) _
    have HAL := hid hal
    have hff := hF
    clear hp hcell hbl hbw gl y0 y1 y2 y3 hpr hal
    go_wp2_with fail
    refine (HCALL.out k _ _ _ _ hlt (HST.out _ _ _ HI.out HAL.out) HPR.out).mono ?_
    rintro e w2 ⟨rfl, hi2⟩
    have HI2 := hid hi2
    clear hi2 z0 z1 z2 z3 gl2
    cases hb : bs k with
    | true =>
      have HB := hid hb
      clear hb
      go_wp2_with fail
      refine ⟨⟨k + 1, hlt, rfl, HI2.out, fun j hj => ?_⟩, ?_⟩
      · rcases Nat.lt_or_ge j k with h5 | h5
        · exact HBS.out j h5
        · rw [show j = k by omega]; exact HB.out
      · simp only [intOf]
        omega
    | false =>
      have HB := hid hb
      clear hb
      go_wp2_with fail
      go_ret
      exact ⟨false, k + 1, rfl, HI2.out, hlt, fun h => (by cases h), fun _ => ⟨k, hlt, HB.out⟩⟩
  · have hke : k = L.length := by omega
    subst hke
    go_wp2_with fail
    go_ret
    exact ⟨true, _, rfl, HI.out, Nat.le_refl _, fun _ => ⟨rfl, HBS.out⟩, fun h => (by cases h)⟩

end Go.Proofs.Ytealeofgfgbheaa
