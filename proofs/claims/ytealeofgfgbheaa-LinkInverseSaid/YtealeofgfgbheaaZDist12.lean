/-
  Literals and appends in a chain, over any frame.
-/
import Derived.Test.YtealeofgfgbheaaZAppend
import Derived.Test.YtealeofgfgbheaaZChain
import Derived.Test.YtealeofgfgbheaaZPtR
import Derived.Test.YtealeofgfgbheaaZREqual
namespace Go.Proofs.Ytealeofgfgbheaa
set_option linter.unusedVariables false
set_option linter.unusedSimpArgs false
open Go.RowKit
namespace Plan
set_option linter.unusedVariables false
set_option linter.unusedSimpArgs false
variable {R : Plan} {P : Program} {Q : Exit → Act → World → Prop} {G : World → Prop} {i : Nat} {o : Oper} {l : List Oper} {a : Act} {w : World}

theorem chain_appendG {α : Type} [Inhabited α] (E : Enc α) (s x : Operand) (t : TypeId) (base lo : Nat) (e : TypeId) (z : Value) (bytes : Nat) (L r : List α)
    (hk : R.kinds i = .new) (hw : Region.wanted o (yielded R.ops a.tmps) = true) (hd : dstIn o a = true)
    (ho : o.op = .call { callee := .builtin .append, args := #[s, x], argTypes := #[t, t] })
    (ht : P.underlying t = some (.slice e)) (hinfo : (P.info? e).map (fun i => (i.zero, i.size, i.bytes)) = some (some z, E.sz, bytes)) (hz : z.cells.size = E.sz)
    (hown : OwnE E base e w (a.eval s) L) (hsrc : SlE E lo w (a.eval x) r) (hb : (L.length + r.length) * bytes ≤ 140737488355328) (hm : L.length + r.length ≤ maxLen) (hbase : base ≤ w.heap.size)
    (hG : ∀ w', w.grownBy w' (a.eval s).ownBlock → G w')
    (h : ∀ b m w', OwnE E base e w' (.slice b (L ++ r).length m) (L ++ r) → w.grownBy w' (a.eval s).ownBlock → R.RunsG P Q G (i + 1) l (a.put o.dst (.slice b (L ++ r).length m)) w') : R.RunsG P Q G i (o :: l) a w :=
  chain_mem hk hw hd fun K hK => by
    obtain ⟨v', w', e1, e2, e3, e4⟩ := run_append_E (P := P) E w base lo t o.type e z bytes ht hinfo hz _ L hown _ r hsrc hb hm hbase
    obtain ⟨b, m, rfl⟩ := anySlice_of e2
    unfold Oper.wp
    simp only [execOp, ho, resolve, invoke, builtin, Sem.run_bind, Sem.run_pure, Result.andThen_ok, List.map_toArray, List.map_cons, List.map_nil, e1]
    exact hK _ w' (hG w' e3) (h b m w' e2 e3)
theorem chain_litG {α : Type} (E : Enc α) (base : Nat) (e : TypeId) (L : List α) (cs : Array Value) (n : Nat)
    (hk : R.kinds i = .new) (hw : Region.wanted o (yielded R.ops a.tmps) = true) (hd : dstIn o a = true)
    (hrun : (execOp a.eval o).run P w = .ok (.value (.slice (some ⟨w.heap.size, 0, none⟩) n n)) (w.alloc (.cells cs e))) (hn : n = L.length) (hc : cs.toList = L.flatMap E.enc) (hs : L.length ≤ 1000)
    (hbase : base ≤ w.heap.size) (hG : G (w.alloc (.cells cs e)))
    (h : OwnE E base e (w.alloc (.cells cs e)) (.slice (some ⟨w.heap.size, 0, none⟩) n n) L → R.RunsG P Q G (i + 1) l (a.put o.dst (.slice (some ⟨w.heap.size, 0, none⟩) n n)) (w.alloc (.cells cs e))) : R.RunsG P Q G i (o :: l) a w :=
  chain_run _ _ hk hw hd hrun hG (h (OwnE.lit E w base e L cs _ n rfl hbase hn hc hs))

end Plan
end Go.Proofs.Ytealeofgfgbheaa

/-
  What LinkInverse compares, in plain words.
-/
namespace Go.Proofs.Ytealeofgfgbheaa
set_option linter.unusedVariables false
set_option linter.unusedSimpArgs false
open Go.RowKit

theorem back_nth (p : Prg) {i : Nat} (hi : i < p.funcs.length) : nth (backP p).funcs i = { nth p.funcs i with code := (nth p.funcs i).code.map (reY p) } := by
  unfold backP
  dsimp only
  have h1 : i < (List.range p.funcs.length).length := by rw [List.length_range]; exact hi
  rw [nth_map _ _ _ h1, nth_eq (List.range p.funcs.length) _ h1, List.getElem_range]
theorem back_len (p : Prg) : (backP p).funcs.length = p.funcs.length := by unfold backP; simp
theorem lay_range {p : Prg} (hv : validB p = true) {i : Nat} (hi : i < p.funcs.length) {x : Ins} (hx : x ∈ (nth p.funcs i).code) (h21 : x.op = 21) : 0 ≤ x.b ∧ x.b < p.layouts.length := by
  have hok := fok_of_funcB (valid_func hv i hi)
  obtain ⟨n, hn, he⟩ := List.getElem_of_mem hx
  have hins := hok.ins n hn
  rw [nth_eq _ _ hn, he] at hins
  simp only [instrB, Bool.and_eq_true] at hins
  have h1 := hins.2.2.2.1
  rw [h21, show roleN 21 1 = 108 from rfl] at h1
  simp [operandB] at h1
  omega
theorem reY_lay {p : Prg} {x : Ins} (h21 : x.op = 21) (h0 : 0 ≤ x.b) (h1 : x.b < p.layouts.length) : ∃ j : Nat, reY p x = { x with b := (j : Int) } ∧ j < (onceY p).length ∧ nth (onceY p) j = nth p.layouts x.b.toNat := by
  have hb : x.b.toNat < p.layouts.length := by omega
  obtain ⟨j, h2, h3, h4⟩ := fnd_some (onceY p) (nth p.layouts x.b.toNat) (onceY_mem p _ (nth_mem _ _ hb))
  refine ⟨j, ?_, h2, ?_⟩
  · unfold reY
    rw [if_pos h21, h3]
    rfl
  · unfold nth at h4 ⊢
    rw [List.getD_eq_getElem?_getD, h4]
    rfl
theorem reY_same {p : Prg} {x : Ins} (h21 : ¬ x.op = 21) : reY p x = x := by unfold reY; rw [if_neg h21]
/-- Layouts that were found distinct. -/
def DistTo (l : List (List Int)) (i : Nat) : Prop := ∀ a, a < i → ∀ b, b < a → nth l a ≠ nth l b
theorem dist_nodup {l : List (List Int)} (h : DistTo l l.length) : l.Nodup := by
  rw [List.nodup_iff_pairwise_ne, List.pairwise_iff_getElem]
  intro i j hi hj hij e
  have := h j hj i hij
  rw [nth_eq _ _ hi, nth_eq _ _ hj] at this
  exact this e.symm
end Go.Proofs.Ytealeofgfgbheaa

/-
  law12.distinct: what its answer yes means.
-/
namespace Go.Proofs.Ytealeofgfgbheaa
set_option linter.unusedVariables false
set_option linter.unusedSimpArgs false
open Go.RowKit

noncomputable def planDi7 : Plan := mkPlan (regionOf Try.f22 7) [(10, .new)] []

set_option maxRecDepth 100000 in
set_option maxHeartbeats 8000000 in
theorem distinct_calls (lo : Nat) (vf vg vl : Value) (p : Prg) (w : World) (hp : ProgAt lo w vf vg vl p) :
    Calls Try.prog 22 #[.agg #[vf, vg, vl, .int .i64 p.main]] w fun e w' => (∃ b : Bool, e = .returned (.bool b) ∧ (b = true → p.layouts.Nodup)) ∧ Below w.heap.size w w' := by
  obtain ⟨fa, fc, _, _, _, rfl, -⟩ := hp.funcs.open
  obtain ⟨ga, gc, _, _, rfl, -⟩ := hp.globs.open
  obtain ⟨la, lc, lb, lo', LS, rfl, lp, l0, li, lbl, -, -, hlen⟩ := hp.lays.open
  have HL := hid (And.intro lp (And.intro l0 (And.intro li lbl)))
  clear hp lp l0 li lbl
  go_enter Try.func22, Try.ntmps22
  go_wp2_with fail
  generalize hW : World.alloc _ _ = W
  have HBX := hid (show BoxAt W w.heap.size 26 [.slice fa p.funcs.length fc, .slice ga p.globals.length gc, .slice la p.layouts.length lc, .int .i64 p.main] by rw [← hW]; exact BoxAt.new _ _ _ _ _ rfl rfl)
  have HBW := hid (show Below w.heap.size w W by rw [← hW]; exact (Below.refl _ _).alloc (Nat.le_refl _) _)
  clear hW
  go_loopw [3] (fun iv wr => ∃ i : Nat, i ≤ p.layouts.length ∧ iv = .int .i64 i ∧ DistTo p.layouts i ∧ Below W.heap.size W wr) (fun iv _ => p.layouts.length - (intOf iv).toNat)
  case atStart => exact ⟨0, Nat.zero_le _, rfl, fun a ha => by omega, Below.refl _ _⟩
  case round =>
  obtain ⟨i, hi, rfl, hd, hb⟩ := hrel
  obtain ⟨wo, hwo⟩ : ∃ wo, wo = wr := ⟨_, rfl⟩
  subst hwo
  have HD := hid hd
  have HB := hid hb
  have hbx := HBX.out.below hb
  have c2 := hbx.cell 2 _ rfl
  have s1 := hbx.lt
  clear hd hb hbx
  by_cases hlt : i < p.layouts.length
  · have hlt2 : (i : Int) < p.layouts.length := Int.ofNat_lt.2 hlt
    go_wp2_with fail
    clear c2 s1
    go_loopw [4] (fun kv wr => ∃ k : Nat, k ≤ i ∧ kv = .int .i64 k ∧ (∀ b, b < k → nth p.layouts i ≠ nth p.layouts b) ∧ Below W.heap.size W wr) (fun kv _ => i - (intOf kv).toNat)
    case atStart => exact ⟨0, Nat.zero_le _, rfl, fun b hb => by omega, HB.out⟩
    case round =>
    clear HB
    obtain ⟨k, hk, rfl, hn, hb⟩ := hrel
    obtain ⟨wl, hwl⟩ : ∃ wl, wl = wr := ⟨_, rfl⟩
    subst hwl
    have HN := hid hn
    have HB := hid hb
    have hbx := HBX.out.below hb
    have c2 := hbx.cell 2 _ rfl
    have s1 := hbx.lt
    clear hn hb hbx
    by_cases hki : k < i
    · have hki2 : (k : Int) < i := Int.ofNat_lt.2 hki
      have hkl : k < p.layouts.length := by omega
      have hkl2 : (k : Int) < p.layouts.length := Int.ofNat_lt.2 hkl
      have hi3 : ¬ ((i : Int) < 0) := by omega
      have hk3 : ¬ ((k : Int) < 0) := by omega
      obtain ⟨lp, l0, li, lbl⟩ := HL.out
      obtain rfl := lp (by omega)
      have hbw := bvia HBW.out HB.out
      have gl := lbl (by omega)
      have y0 := (hbw.cell (p := ⟨lb, _, none⟩) gl).trans (l0 i hlt)
      have y1 := (hbw.cell (p := ⟨lb, _, none⟩) gl).trans (l0 k hkl)
      have gz := Nat.lt_of_lt_of_le gl hbw.size
      have HI := hid ((li i hlt).below hbw)
      have HK := hid ((li k hkl).below hbw)
      clear lp l0 li lbl hbw gl
      go_wp2_with fail
      obtain ⟨eb, heb⟩ : ∃ eb, intsEq (nth p.layouts i) (nth p.layouts k) = eb := ⟨_, rfl⟩
      have HEB := hid heb
      clear heb
      refine Plan.wp_chain planDi7 wl.heap.size (by kernel_rfl) rfl (by kernel_rfl) (by kernel_rfl) ?_
      repeat (first | (apply Plan.chain_skip rfl rfl; simp only [Act.put, List.setIfInBounds_toArray, List.set_cons_zero, List.set_cons_succ]) | (apply Plan.chain_det rfl rfl; (· intro w' hb; obtain ⟨hcl, hfz⟩ := bcellB hb; go_simp; rfl); simp only [Act.put, List.setIfInBounds_toArray, List.set_cons_zero, List.set_cons_succ]))
      refine Plan.chain_call 23 #[.slice (LS i).a (nth p.layouts i).length (LS i).c, .slice (LS k).a (nth p.layouts k).length (LS k).c] (fun v w' => v = .bool eb ∧ Below wl.heap.size wl w') rfl rfl rfl (by go_simp) ?_ (fun v w' h => h.2) (fun va w2 h => ?_)
      · refine (ints_calls _ _ _ _ _ _ wl.drew (HI.out.below (Below.refl _ _).drew) (HK.out.below (Below.refl _ _).drew)).mono ?_
        rintro e w' ⟨rfl, hb⟩
        rw [HEB.out]
        exact ⟨_, rfl, rfl, (Below.refl _ _).drew.trans hb⟩
      obtain ⟨rfl, hb2⟩ := h
      simp only [Act.put, List.setIfInBounds_toArray, List.set_cons_zero, List.set_cons_succ]
      refine Plan.chain_nil ?_
      have HB2 := hid (bvia HB.out hb2)
      clear hb2
      cases eb with
      | true =>
        go_wp2_with fail
        go_ret
        exact ⟨⟨false, rfl, fun h => by cases h⟩, bvia HBW.out HB2.out⟩
      | false =>
        go_wp2_with fail
        refine ⟨⟨k + 1, hki, by go_num, fun b hb' => ?_, HB2.out⟩, ?_⟩
        · rcases Nat.lt_or_ge b k with h5 | h5
          · exact HN.out b h5
          · obtain rfl : b = k := by omega
            intro e
            have h6 := HEB.out
            rw [e] at h6
            simp [intsEq] at h6
        · simp only [intOf]
          omega
    · have hke : k = i := by omega
      subst hke
      go_wp2_with fail
      refine ⟨⟨k + 1, hlt, by go_num, fun a ha b hb' => ?_, HB.out⟩, ?_⟩
      · rcases Nat.lt_or_ge a k with h5 | h5
        · exact HD.out a h5 b hb'
        · obtain rfl : a = k := by omega
          exact HN.out b hb'
      · simp only [intOf]
        omega
  · have hke : i = p.layouts.length := by omega
    subst hke
    go_wp2_with fail
    go_ret
    exact ⟨⟨true, rfl, fun _ => dist_nodup HD.out⟩, bvia HBW.out HB.out⟩

end Go.Proofs.Ytealeofgfgbheaa
