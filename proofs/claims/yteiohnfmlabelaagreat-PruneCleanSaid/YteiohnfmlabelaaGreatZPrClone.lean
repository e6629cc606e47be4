/-
  Short forms for worlds that follow one another.
-/
import Derived.Test.YteiohnfmlabelaaGreatProg
import Derived.Lib.SliceRun
import Derived.Deep.OwnRows
import Derived.Test.YteiohnfmlabelaaGreatZAppend
import Derived.Test.YteiohnfmlabelaaGreatZOwnP
import Derived.Test.YteiohnfmlabelaaGreatZPrC
namespace Go.Proofs.YteiohnfmlabelaaGreat
set_option linter.unusedVariables false
set_option linter.unusedSimpArgs false
open Go.RowKit

theorem bvia {w W w' : World} (h : Below w.heap.size w W) (h' : Below W.heap.size W w') : Below w.heap.size w w' := h.trans (h'.mono h.size)
theorem bdraw {w w' : World} (h : Below w.heap.size w w') (n : Nat) : Below w.heap.size w (w'.drewN n) := h.trans ⟨rfl, rfl, rfl, Nat.le_refl _, fun _ _ => rfl⟩
theorem bone {w w' : World} (h : Below w.heap.size w w') (o : Obj) : Below w.heap.size w (w'.alloc o) := h.alloc h.size o
theorem bstore {w w' : World} (h : Below w.heap.size w w') (b k : Nat) (u : Value) (hb : w.heap.size ≤ b) : Below w.heap.size w (w'.setCell ⟨b, k, none⟩ u) := h.setCell hb u

end Go.Proofs.YteiohnfmlabelaaGreat

/-
  slices.Clone, walked.
-/
namespace Go.Proofs.YteiohnfmlabelaaGreat
set_option linter.unusedVariables false
set_option linter.unusedSimpArgs false
open Go.RowKit

theorem clnIns_info : (Tryz.prog.info? 39).map (fun i => (i.zero, i.size, i.bytes)) = some (some (.agg #[.int .i64 0, .int .i64 0, .int .i64 0, .int .i64 0, .int .i64 0]), insE.sz, 40) := by kernel_rfl
set_option maxRecDepth 100000 in
set_option maxHeartbeats 2000000 in
theorem clnIns_calls (lo : Nat) (v : Value) (l : List Ins) (w : World) (h : SlE insE lo w v l) (hn : l.length ≤ 1000000) :
    Calls Tryz.prog 40 #[v] w fun e w' => ∃ v', e = .returned v' ∧ OwnE insE w.heap.size 39 w' v' l ∧ Below w.heap.size w w' := by
  have qT : ∀ (w : World) (a : Option Addr) (n c n' c' : Nat), (binOp .eql 31 (.slice a n c) (.slice none n' c')).run Tryz.prog w = .ok (.bool a.isNone) w := fun w a n c n' c' => Lib.run_eql_slice_nil w _ _ a n c n' c' Tryz.underlying31
  have H := hid h
  obtain ⟨a, c, b, o, rfl, hnil, _⟩ := h
  cases a with
  | none =>
    obtain rfl := hnil rfl
    have hl : l = [] := by
      obtain ⟨a', c', b', o', he, _, hp, _⟩ := H.out
      obtain ⟨rfl, _, _⟩ := Value.slice.inj he
      rcases Nat.eq_zero_or_pos l.length with h | h
      · exact List.eq_nil_of_length_eq_zero h
      · have := (hp h).1; cases this
    subst hl
    go_enter Tryz.func40, Tryz.ntmps40
    go_wp2_with fail
    go_ret
    exact ⟨_, rfl, OwnE.nil _ _ _ _, Below.refl _ _⟩
  | some ad =>
    go_enter Tryz.func40, Tryz.ntmps40
    go_wp2_with (
      at_builtin
      go_loud (refine wpList_append_E insE (o := ⟨some 7, _, _, _, _, _⟩) rfl (.tmp 5) (.tmp 6) 31 rfl w.heap.size lo 39 _ 40 Tryz.underlying31 clnIns_info rfl [] l (OwnE.lit insE w w.heap.size 39 [] #[] w.heap.size 0 rfl (Nat.le_refl _) rfl rfl (by simp)) (SlE.below H.out ((Below.refl _ _).alloc (Nat.le_refl _) _)) (by simp; omega) (by simp only [maxLen]; simp; omega) (by simp) ?_)
      intro v7 w7 ho7 hg7
      have HO7 := hid ho7
      have HB7 := hid (Below.grownE ((Below.refl w.heap.size w).alloc (Nat.le_refl _) _) (OwnE.lit insE w w.heap.size 39 [] #[] w.heap.size 0 rfl (Nat.le_refl _) rfl rfl (by simp)) hg7 (by simp) (Nat.le_refl _))
      clear ho7 hg7)
    go_ret
    exact ⟨_, rfl, HO7.out, HB7.out⟩

theorem clnFun_info : (Tryz.prog.info? 33).map (fun i => (i.zero, i.size, i.bytes)) = some (some (.agg #[.string ⟨#[]⟩, .int .i64 0, .int .i64 0, .slice none 0 0]), funE.sz, 56) := by kernel_rfl
set_option maxRecDepth 100000 in
set_option maxHeartbeats 2000000 in
theorem clnFun_calls (lo : Nat) (v : Value) (l : List (Fun × Slc)) (w : World) (h : SlE funE lo w v l) (hn : l.length ≤ 1000000) :
    Calls Tryz.prog 20 #[v] w fun e w' => ∃ v', e = .returned v' ∧ OwnE funE w.heap.size 33 w' v' l ∧ Below w.heap.size w w' := by
  have qT : ∀ (w : World) (a : Option Addr) (n c n' c' : Nat), (binOp .eql 22 (.slice a n c) (.slice none n' c')).run Tryz.prog w = .ok (.bool a.isNone) w := fun w a n c n' c' => Lib.run_eql_slice_nil w _ _ a n c n' c' Tryz.underlying22
  have H := hid h
  obtain ⟨a, c, b, o, rfl, hnil, _⟩ := h
  cases a with
  | none =>
    obtain rfl := hnil rfl
    have hl : l = [] := by
      obtain ⟨a', c', b', o', he, _, hp, _⟩ := H.out
      obtain ⟨rfl, _, _⟩ := Value.slice.inj he
      rcases Nat.eq_zero_or_pos l.length with h | h
      · exact List.eq_nil_of_length_eq_zero h
      · have := (hp h).1; cases this
    subst hl
    go_enter Tryz.func20, Tryz.ntmps20
    go_wp2_with fail
    go_ret
    exact ⟨_, rfl, OwnE.nil _ _ _ _, Below.refl _ _⟩
  | some ad =>
    go_enter Tryz.func20, Tryz.ntmps20
    go_wp2_with (
      at_builtin
      go_loud (refine wpList_append_E funE (o := ⟨some 7, _, _, _, _, _⟩) rfl (.tmp 5) (.tmp 6) 22 rfl w.heap.size lo 33 _ 56 Tryz.underlying22 clnFun_info rfl [] l (OwnE.lit funE w w.heap.size 33 [] #[] w.heap.size 0 rfl (Nat.le_refl _) rfl rfl (by simp)) (SlE.below H.out ((Below.refl _ _).alloc (Nat.le_refl _) _)) (by simp; omega) (by simp only [maxLen]; simp; omega) (by simp) ?_)
      intro v7 w7 ho7 hg7
      have HO7 := hid ho7
      have HB7 := hid (Below.grownE ((Below.refl w.heap.size w).alloc (Nat.le_refl _) _) (OwnE.lit funE w w.heap.size 33 [] #[] w.heap.size 0 rfl (Nat.le_refl _) rfl rfl (by simp)) hg7 (by simp) (Nat.le_refl _))
      clear ho7 hg7)
    go_ret
    exact ⟨_, rfl, HO7.out, HB7.out⟩

theorem clnGlob_info : (Tryz.prog.info? 43).map (fun i => (i.zero, i.size, i.bytes)) = some (some (.agg #[.string ⟨#[]⟩, .int .i64 0]), globE.sz, 24) := by kernel_rfl
set_option maxRecDepth 100000 in
set_option maxHeartbeats 2000000 in
theorem clnGlob_calls (lo : Nat) (v : Value) (l : List Glob) (w : World) (h : SlE globE lo w v l) (hn : l.length ≤ 1000000) :
    Calls Tryz.prog 21 #[v] w fun e w' => ∃ v', e = .returned v' ∧ OwnE globE w.heap.size 43 w' v' l ∧ Below w.heap.size w w' := by
  have qT : ∀ (w : World) (a : Option Addr) (n c n' c' : Nat), (binOp .eql 23 (.slice a n c) (.slice none n' c')).run Tryz.prog w = .ok (.bool a.isNone) w := fun w a n c n' c' => Lib.run_eql_slice_nil w _ _ a n c n' c' Tryz.underlying23
  have H := hid h
  obtain ⟨a, c, b, o, rfl, hnil, _⟩ := h
  cases a with
  | none =>
    obtain rfl := hnil rfl
    have hl : l = [] := by
      obtain ⟨a', c', b', o', he, _, hp, _⟩ := H.out
      obtain ⟨rfl, _, _⟩ := Value.slice.inj he
      rcases Nat.eq_zero_or_pos l.length with h | h
      · exact List.eq_nil_of_length_eq_zero h
      · have := (hp h).1; cases this
    subst hl
    go_enter Tryz.func21, Tryz.ntmps21
    go_wp2_with fail
    go_ret
    exact ⟨_, rfl, OwnE.nil _ _ _ _, Below.refl _ _⟩
  | some ad =>
    go_enter Tryz.func21, Tryz.ntmps21
    go_wp2_with (
      at_builtin
      go_loud (refine wpList_append_E globE (o := ⟨some 7, _, _, _, _, _⟩) rfl (.tmp 5) (.tmp 6) 23 rfl w.heap.size lo 43 _ 24 Tryz.underlying23 clnGlob_info rfl [] l (OwnE.lit globE w w.heap.size 43 [] #[] w.heap.size 0 rfl (Nat.le_refl _) rfl rfl (by simp)) (SlE.below H.out ((Below.refl _ _).alloc (Nat.le_refl _) _)) (by simp; omega) (by simp only [maxLen]; simp; omega) (by simp) ?_)
      intro v7 w7 ho7 hg7
      have HO7 := hid ho7
      have HB7 := hid (Below.grownE ((Below.refl w.heap.size w).alloc (Nat.le_refl _) _) (OwnE.lit globE w w.heap.size 43 [] #[] w.heap.size 0 rfl (Nat.le_refl _) rfl rfl (by simp)) hg7 (by simp) (Nat.le_refl _))
      clear ho7 hg7)
    go_ret
    exact ⟨_, rfl, HO7.out, HB7.out⟩

theorem clnInt_info : (Tryz.prog.info? 3).map (fun i => (i.zero, i.size, i.bytes)) = some (some (.int .i64 0), intE.sz, 8) := by kernel_rfl
set_option maxRecDepth 100000 in
set_option maxHeartbeats 2000000 in
theorem clnInt_calls (lo : Nat) (v : Value) (l : List Int) (w : World) (h : SlE intE lo w v l) (hn : l.length ≤ 1000000) :
    Calls Tryz.prog 22 #[v] w fun e w' => ∃ v', e = .returned v' ∧ OwnE intE w.heap.size 3 w' v' l ∧ Below w.heap.size w w' := by
  have qT : ∀ (w : World) (a : Option Addr) (n c n' c' : Nat), (binOp .eql 36 (.slice a n c) (.slice none n' c')).run Tryz.prog w = .ok (.bool a.isNone) w := fun w a n c n' c' => Lib.run_eql_slice_nil w _ _ a n c n' c' Tryz.underlying36
  have H := hid h
  obtain ⟨a, c, b, o, rfl, hnil, _⟩ := h
  cases a with
  | none =>
    obtain rfl := hnil rfl
    have hl : l = [] := by
      obtain ⟨a', c', b', o', he, _, hp, _⟩ := H.out
      obtain ⟨rfl, _, _⟩ := Value.slice.inj he
      rcases Nat.eq_zero_or_pos l.length with h | h
      · exact List.eq_nil_of_length_eq_zero h
      · have := (hp h).1; cases this
    subst hl
    go_enter Tryz.func22, Tryz.ntmps22
    go_wp2_with fail
    go_ret
    exact ⟨_, rfl, OwnE.nil _ _ _ _, Below.refl _ _⟩
  | some ad =>
    go_enter Tryz.func22, Tryz.ntmps22
    go_wp2_with (
      at_builtin
      go_loud (refine wpList_append_E intE (o := ⟨some 7, _, _, _, _, _⟩) rfl (.tmp 5) (.tmp 6) 36 rfl w.heap.size lo 3 _ 8 Tryz.underlying36 clnInt_info rfl [] l (OwnE.lit intE w w.heap.size 3 [] #[] w.heap.size 0 rfl (Nat.le_refl _) rfl rfl (by simp)) (SlE.below H.out ((Below.refl _ _).alloc (Nat.le_refl _) _)) (by simp; omega) (by simp only [maxLen]; simp; omega) (by simp) ?_)
      intro v7 w7 ho7 hg7
      have HO7 := hid ho7
      have HB7 := hid (Below.grownE ((Below.refl w.heap.size w).alloc (Nat.le_refl _) _) (OwnE.lit intE w w.heap.size 3 [] #[] w.heap.size 0 rfl (Nat.le_refl _) rfl rfl (by simp)) hg7 (by simp) (Nat.le_refl _))
      clear ho7 hg7)
    go_ret
    exact ⟨_, rfl, HO7.out, HB7.out⟩

end Go.Proofs.YteiohnfmlabelaaGreat

/-
  A store into an instruction of a copied program.
-/
namespace Go.Proofs.YteiohnfmlabelaaGreat
set_option linter.unusedVariables false
set_option linter.unusedSimpArgs false
open Go.RowKit

theorem nth_set_eq {α : Type} [Inhabited α] (l : List α) (i : Nat) (x : α) (h : i < l.length) : nth (l.set i x) i = x := by
  rw [nth_eq _ _ (by simpa using h)]; simp
theorem nth_set_ne {α : Type} [Inhabited α] (l : List α) (i j : Nat) (x : α) (h : i ≠ j) : nth (l.set i x) j = nth l j := by
  unfold nth; simp [List.getElem?_set_ne h]
theorem zip_set_enc (l : List Fun) (ss : List Slc) (F : Nat) (c : List Ins) : ((l.set F { nth l F with code := c }).zip ss).flatMap funE.enc = (l.zip ss).flatMap funE.enc := by
  induction l generalizing ss F with
  | nil => rfl
  | cons f l ih =>
    cases ss with
    | nil => simp
    | cons s ss =>
      cases F with
      | zero => simp [nth, funE]
      | succ F =>
        simp only [List.set_cons_succ, List.zip_cons_cons, List.flatMap_cons]
        rw [show nth (f :: l) (F + 1) = nth l F from rfl, ih ss F]

theorem OwnFuns.put {base : Nat} {w : World} {v : Value} {l : List Fun} {ss : List Slc} (h : OwnFuns base w v l ss) (F g n cap K k : Nat) (u : Value) (x' : Ins) (hF : F < l.length) (hs : (nth ss F).val = .slice (some ⟨g, 0, none⟩) n cap)
    (hK : K < (nth l F).code.length) (hk : k < 5) (hx : insE.enc x' = (insE.enc (nth (nth l F).code K)).set k u) :
    OwnFuns base (w.setCell ⟨g, K * 5 + k, none⟩ u) v (l.set F { nth l F with code := (nth l F).code.set K x' }) ss := by
  have hc := h.code F hF
  rw [hs] at hc
  have hg : Value.ownBlock (.slice (some ⟨g, 0, none⟩) n cap) = some g := rfl
  have hrow := h.row.other ⟨g, K * 5 + k, none⟩ u (fun q hq e => by
    obtain ⟨c1, h1⟩ := h.row.typed q hq
    obtain ⟨c2, h2⟩ := hc.typed g hg
    have e' : q = g := e
    rw [e', h2] at h1
    simp at h1)
  refine ⟨by simp [h.len], ?_, fun i hi => ?_, fun i j hij hj a b ha hb => h.apart i j hij (by simpa using hj) a b ha hb⟩
  · unfold OwnE at hrow ⊢
    rw [zip_set_enc]
    rw [List.length_zip, List.length_set, ← List.length_zip]
    exact hrow
  · rw [List.length_set] at hi
    by_cases e : F = i
    · subst e
      rw [nth_set_eq _ _ _ hF, hs]
      exact hc.put K k u x' hK hk hx
    · rw [nth_set_ne _ _ _ _ e]
      refine (h.code i hi).other ⟨g, K * 5 + k, none⟩ u (fun q hq e' => ?_)
      have e2 : q = g := e'
      subst e2
      have hgq : (nth ss F).val.ownBlock = some q := by rw [hs]; rfl
      rcases Nat.lt_or_gt_of_ne e with h1 | h1
      · have := h.apart F i h1 hi q q hgq hq; omega
      · have := h.apart i F h1 hF q q hq hgq; omega

end Go.Proofs.YteiohnfmlabelaaGreat

/-
  A row of rows of the call's own, while it is filled.
-/
namespace Go.Proofs.YteiohnfmlabelaaGreat
set_option linter.unusedVariables false
set_option linter.unusedSimpArgs false
open Go.RowKit

structure GridAt (g : Nat) (w : World) (ss : List Slc) (s : List (List Int)) : Prop where
  len : ss.length = s.length
  box : BoxAt w g 36 (ss.map Slc.val)
  row : ∀ i, i < s.length → IntsAt (g + 1) w (nth ss i).val (nth s i)

theorem nth_replA {α : Type} [Inhabited α] (n i : Nat) (x : α) (h : i < n) : nth (List.replicate n x) i = x := by
  rw [nth_eq _ _ (by simpa using h)]; simp
theorem GridAt.start {g : Nat} {w : World} (n : Nat) (h : BoxAt w g 36 (List.replicate n (.slice none 0 0))) : GridAt g w (List.replicate n ⟨none, 0, 0⟩) (List.replicate n []) :=
  ⟨by simp, by rw [List.map_replicate]; exact h, fun i hi => by
    have hi' : i < n := by simpa using hi
    rw [nth_replA n i _ hi', nth_replA n i _ hi']
    exact SlE.nil _ _ _⟩
theorem GridAt.below {g : Nat} {w w' : World} {ss : List Slc} {s : List (List Int)} (h : GridAt g w ss s) (hb : Below w.heap.size w w') : GridAt g w' ss s :=
  ⟨h.len, h.box.below hb, fun i hi => (h.row i hi).below hb⟩
theorem GridAt.lt {g : Nat} {w : World} {ss : List Slc} {s : List (List Int)} (h : GridAt g w ss s) : g < w.heap.size := h.box.lt
theorem GridAt.cell {g : Nat} {w : World} {ss : List Slc} {s : List (List Int)} (h : GridAt g w ss s) (i : Nat) (hi : i < s.length) : w.cell? ⟨g, i, none⟩ = some (nth ss i).val :=
  h.box.cell i _ (by rw [List.getElem?_map, List.getElem?_eq_getElem (by rw [h.len]; exact hi), nth_eq _ _ (by rw [h.len]; exact hi)]; rfl)
theorem GridAt.put {g : Nat} {w : World} {ss : List Slc} {s : List (List Int)} (h : GridAt g w ss s) (i : Nat) (S : Slc) (l : List Int) (hi : i < s.length) (hr : IntsAt (g + 1) w S.val l) : GridAt g (w.setCell ⟨g, i, none⟩ S.val) (ss.set i S) (s.set i l) := by
  refine ⟨by simp [h.len], by have := h.box.set i S.val; rw [← List.map_set] at this; exact this, fun j hj => ?_⟩
  have hk : Keep (g + 1) w (w.setCell ⟨g, i, none⟩ S.val) := Keep.setCell _ (Nat.lt_succ_self g)
  have hj' : j < s.length := by simpa using hj
  by_cases e : i = j
  · subst e
    rw [nth_set_eq _ _ _ (by rw [h.len]; exact hi), nth_set_eq _ _ _ hi]
    exact hr.keep hk
  · rw [nth_set_ne _ _ _ _ e, nth_set_ne _ _ _ _ e]
    exact (h.row j hj').keep hk
theorem GridAt.lays {g lo n : Nat} {w : World} {ss : List Slc} {s : List (List Int)} (h : GridAt g w ss s) (hg : lo ≤ g) (hn : s.length = n) (hm : n ≤ 140737488355328) : LaysAt lo w (.slice (some ⟨g, 0, none⟩) n n) s := by
  refine ⟨ss, h.len, ⟨some ⟨g, 0, none⟩, n, g, 0, by rw [h.len, hn], (fun e => by cases e), fun _ => ⟨rfl, hg⟩, fun i k hi hk => ?_, by rw [h.len, hn]; exact Nat.le_refl _, by simp only [maxLen]; omega, by rw [h.len, hn]; exact hm⟩, fun i hi => (h.row i hi).mono (by omega)⟩
  have hk0 : k = 0 := by have : rowE.sz = 1 := rfl; omega
  subst hk0
  have := h.cell i (by rw [← h.len]; exact hi)
  rw [show 0 + i * rowE.sz + 0 = i by show 0 + i * 1 + 0 = i; omega, this]
  rfl
/-- What a slice of ints reads as. -/
theorem IntsAt.slc {lo : Nat} {w : World} {v : Value} {l : List Int} (h : IntsAt lo w v l) : ∃ a n c, v = .slice a n c := by
  obtain ⟨a, c, b, o, rfl, _⟩ := h
  exact ⟨a, _, c, rfl⟩
theorem infoRow : (Tryz.prog.info? 36).map (fun i => (i.zero, i.size, i.bytes)) = some (some (.slice none 0 0), 1, 24) := by kernel_rfl

end Go.Proofs.YteiohnfmlabelaaGreat

/-
  The program that a pruning works on: its row of functions is a row of its own, all else lies elsewhere.
-/
namespace Go.Proofs.YteiohnfmlabelaaGreat
set_option linter.unusedVariables false
set_option linter.unusedSimpArgs false
open Go.RowKit

theorem SlE.only {α : Type} [Inhabited α] {E : Enc α} {lo : Nat} {w w' : World} {v : Value} {l : List α} {row : Option Nat} (h : SlE E lo w v l) (ho : Only row w w') (hr : ∀ a n c, v = .slice (some a) n c → some a.block ≠ row) : SlE E lo w' v l := by
  obtain ⟨a, c, b, o, rfl, hnil, hp, hc, h1, h2, h3⟩ := h
  refine ⟨a, c, b, o, rfl, hnil, hp, fun i k hi hk' => ?_, h1, h2, h3⟩
  have hx := hc i k hi hk'
  have hlt := World.block_lt_of_cell? _ _ hx
  obtain ⟨rfl, _⟩ := hp (by omega)
  rw [World.cell?_of_block (w := w) (ho.2 b hlt (hr _ _ _ rfl))]
  exact hx
/-- A slice that lies in none of the blocks X. -/
def FarV (X : Nat → Prop) (v : Value) : Prop := ∀ a n c, v = .slice (some a) n c → ¬ X a.block
theorem FarV.some {X : Nat → Prop} {g : Nat} {v : Value} (h : FarV X v) (hg : X g) : ∀ a n c, v = .slice (some a) n c → some a.block ≠ some g := fun a n c e e' => h a n c e (by rw [Option.some.inj e']; exact hg)
theorem OwnE.far {α : Type} {E : Enc α} {X : Nat → Prop} {base : Nat} {e : TypeId} {w : World} {v : Value} {l : List α} (h : OwnE E base e w v l) (hX : ∀ k, X k → k < base) : FarV X v := by
  intro a n c hv hx
  have h1 := (h.lt a.block (by rw [hv]; rfl)).1
  have h2 := hX _ hx
  omega
theorem zip_set {α β : Type} (a : α) (b : β) : ∀ (l : List α) (r : List β) (i : Nat), (l.set i a).zip (r.set i b) = (l.zip r).set i (a, b)
  | [], r, i => by simp
  | x :: l, [], i => by simp
  | x :: l, y :: r, 0 => rfl
  | x :: l, y :: r, i + 1 => by simp only [List.set_cons_succ, List.zip_cons_cons, zip_set a b l r i]

structure OutP (X : Nat → Prop) (base g cap : Nat) (w : World) (vg vl : Value) (p : Prg) (ss rs : List Slc) : Prop where
  xg : X g
  xlt : ∀ k, X k → k < w.heap.size
  len : ss.length = p.funcs.length
  row : OwnE funE base 33 w (.slice (some ⟨g, 0, none⟩) p.funcs.length cap) (p.funcs.zip ss)
  code : ∀ i, i < p.funcs.length → CodeAt 0 w (nth ss i).val (nth p.funcs i).code ∧ FarV X (nth ss i).val
  globs : GlobsAt 0 w vg p.globals ∧ FarV X vg
  rlen : rs.length = p.layouts.length
  lays : SlE rowE 0 w vl rs ∧ FarV X vl
  each : ∀ i, i < p.layouts.length → IntsAt 0 w (nth rs i).val (nth p.layouts i) ∧ FarV X (nth rs i).val
section
variable {X : Nat → Prop} {base g cap : Nat} {w : World} {vg vl : Value} {p : Prg} {ss rs : List Slc}
theorem OutP.at (h : OutP X base g cap w vg vl p ss rs) (hn : p.funcs.length ≤ 64) : ProgAt 0 w (.slice (some ⟨g, 0, none⟩) p.funcs.length cap) vg vl p :=
  ⟨⟨ss, h.len, h.row.sl (Nat.zero_le _) (by have := h.len; simp; omega), fun i hi => (h.code i hi).1⟩, h.globs.1, ⟨rs, h.rlen, h.lays.1, fun i hi => (h.each i hi).1⟩⟩
theorem OutP.frame {w' : World} (h : OutP X base g cap w vg vl p ss rs) (ho : Only none w w') : OutP X base g cap w' vg vl p ss rs :=
  ⟨h.xg, fun k hk => Nat.lt_of_lt_of_le (h.xlt k hk) ho.1, h.len, h.row.fresh ho, fun i hi => ⟨SlE.only (h.code i hi).1 ho (by simp), (h.code i hi).2⟩, ⟨SlE.only h.globs.1 ho (by simp), h.globs.2⟩, h.rlen, ⟨SlE.only h.lays.1 ho (by simp), h.lays.2⟩, fun i hi => ⟨SlE.only (h.each i hi).1 ho (by simp), (h.each i hi).2⟩⟩
theorem OutP.below {w' : World} (h : OutP X base g cap w vg vl p ss rs) (hb : Below w.heap.size w w') : OutP X base g cap w' vg vl p ss rs := h.frame (Only.below hb none)
theorem OutP.put (h : OutP X base g cap w vg vl p ss rs) (F : Nat) (hF : F < p.funcs.length) (s : Slc) (c : List Ins) (hc : CodeAt 0 w s.val c) (hf : FarV X s.val) :
    OutP X base g cap (w.setCell ⟨g, F * 4 + 3, none⟩ s.val) vg vl (_root_.Go.Proofs.YteiohnfmlabelaaGreat.put p F c) (ss.set F s) rs := by
  have ho : Only (some g) w (w.setCell ⟨g, F * 4 + 3, none⟩ s.val) := Only.store w g _ _
  have hF' : F < (p.funcs.zip ss).length := by have := h.len; simp; omega
  refine ⟨h.xg, fun k hk => Nat.lt_of_lt_of_le (h.xlt k hk) ho.1, by simp [put_len, h.len], ?_, fun i hi => ?_, ⟨SlE.only h.globs.1 ho (h.globs.2.some h.xg), h.globs.2⟩, h.rlen, ⟨SlE.only h.lays.1 ho (h.lays.2.some h.xg), h.lays.2⟩, fun i hi => ⟨SlE.only (h.each i hi).1 ho ((h.each i hi).2.some h.xg), (h.each i hi).2⟩⟩
  · have h1 := h.row.put F 3 s.val ({ nth p.funcs F with code := c }, s) hF' (by decide) (by rw [nth_zip _ _ _ hF (by rw [h.len]; exact hF)]; rfl)
    rw [put_len]
    show OwnE funE base _ _ _ ((p.funcs.set F { nth p.funcs F with code := c }).zip (ss.set F s))
    rw [zip_set]
    exact h1
  · rw [put_len] at hi
    by_cases e : i = F
    · subst e
      rw [put_at p i c hF, nth_set_eq _ _ _ (by rw [h.len]; exact hF)]
      exact ⟨SlE.only hc ho (hf.some h.xg), hf⟩
    · rw [put_ne p F i c e, nth_set_ne _ _ _ _ (fun h => e h.symm)]
      exact ⟨SlE.only (h.code i hi).1 ho ((h.code i hi).2.some h.xg), (h.code i hi).2⟩
theorem OutP.cells (h : OutP X base g cap w vg vl p ss rs) (F : Nat) (hF : F < p.funcs.length) :
    w.cell? ⟨g, F * 4, none⟩ = some (.string (nth p.funcs F).name) ∧ w.cell? ⟨g, F * 4 + 1, none⟩ = some (.int .i64 (nth p.funcs F).params) ∧ w.cell? ⟨g, F * 4 + 2, none⟩ = some (.int .i64 (nth p.funcs F).regs) ∧
    w.cell? ⟨g, F * 4 + 3, none⟩ = some (.slice (nth ss F).a (nth p.funcs F).code.length (nth ss F).c) ∧ (∀ k, w.frozen? ⟨g, k, none⟩ = false) ∧ g < w.heap.size ∧ CodeAt 0 w (.slice (nth ss F).a (nth p.funcs F).code.length (nth ss F).c) (nth p.funcs F).code := by
  have hF' : F < (p.funcs.zip ss).length := by have := h.len; simp; omega
  have hz : nth (p.funcs.zip ss) F = (nth p.funcs F, nth ss F) := nth_zip _ _ _ hF (by rw [h.len]; exact hF)
  have hc : ∀ k, k < 4 → w.cell? ⟨g, F * 4 + k, none⟩ = some (nth (funE.enc (nth p.funcs F, nth ss F)) k) := fun k hk => by
    have := h.row.cellAt F k hF' hk
    rw [hz] at this
    exact this
  have hn : (nth ss F).n = (nth p.funcs F).code.length := SlE.len (h.code F hF).1
  refine ⟨hc 0 (by decide), hc 1 (by decide), hc 2 (by decide), ?_, fun k => h.row.frozenAt k, (h.row.lt g rfl).2, ?_⟩
  · have := hc 3 (by decide)
    rw [← hn]
    exact this
  · rw [← hn]
    exact (h.code F hF).1
theorem OutP.cellsC (h : OutP X base g cap w vg vl p ss rs) (F : Nat) (hF : F < p.funcs.length) (c : List Ins) (hc : (nth p.funcs F).code = c) :
    w.cell? ⟨g, F * 4, none⟩ = some (.string (nth p.funcs F).name) ∧ w.cell? ⟨g, F * 4 + 1, none⟩ = some (.int .i64 (nth p.funcs F).params) ∧ w.cell? ⟨g, F * 4 + 2, none⟩ = some (.int .i64 (nth p.funcs F).regs) ∧
    w.cell? ⟨g, F * 4 + 3, none⟩ = some (.slice (nth ss F).a c.length (nth ss F).c) ∧ (∀ k, w.frozen? ⟨g, k, none⟩ = false) ∧ g < w.heap.size ∧ CodeAt 0 w (.slice (nth ss F).a c.length (nth ss F).c) c := by
  subst hc
  exact h.cells F hF
/-- A store into a block of X that is not the row's. -/
theorem OutP.aside {w' : World} {b : Nat} (h : OutP X base g cap w vg vl p ss rs) (ho : Only (some b) w w') (hb : X b) (hg : g ≠ b) : OutP X base g cap w' vg vl p ss rs :=
  ⟨h.xg, fun k hk => Nat.lt_of_lt_of_le (h.xlt k hk) ho.1, h.len, h.row.only ho (fun k hk e => hg (by cases hk; exact Option.some.inj e)), fun i hi => ⟨SlE.only (h.code i hi).1 ho ((h.code i hi).2.some hb), (h.code i hi).2⟩, ⟨SlE.only h.globs.1 ho (h.globs.2.some hb), h.globs.2⟩, h.rlen, ⟨SlE.only h.lays.1 ho (h.lays.2.some hb), h.lays.2⟩, fun i hi => ⟨SlE.only (h.each i hi).1 ho ((h.each i hi).2.some hb), (h.each i hi).2⟩⟩
theorem OutP.weak {X' : Nat → Prop} (h : OutP X base g cap w vg vl p ss rs) (hX : ∀ k, X' k → X k) (hg : X' g) : OutP X' base g cap w vg vl p ss rs :=
  ⟨hg, fun k hk => h.xlt k (hX k hk), h.len, h.row, fun i hi => ⟨(h.code i hi).1, fun a n c e hx => (h.code i hi).2 a n c e (hX _ hx)⟩, ⟨h.globs.1, fun a n c e hx => h.globs.2 a n c e (hX _ hx)⟩, h.rlen, ⟨h.lays.1, fun a n c e hx => h.lays.2 a n c e (hX _ hx)⟩, fun i hi => ⟨(h.each i hi).1, fun a n c e hx => (h.each i hi).2 a n c e (hX _ hx)⟩⟩
theorem OutP.back (h : OutP X base g cap w vg vl p ss rs) : base ≤ g ∧ g < w.heap.size := h.row.lt g rfl
/-- The cells of an instruction of an own row. -/
theorem ins_cells {e : TypeId} {n : Nat} {c : List Ins} (h : OwnE insE base e w (.slice (some ⟨g, 0, none⟩) n cap) c) (k : Nat) (hk : k < c.length) :
    w.cell? ⟨g, k * 5, none⟩ = some (.int .i64 (nth c k).op) ∧ w.cell? ⟨g, k * 5 + 1, none⟩ = some (.int .i64 (nth c k).a) ∧ w.cell? ⟨g, k * 5 + 2, none⟩ = some (.int .i64 (nth c k).b) ∧ w.cell? ⟨g, k * 5 + 3, none⟩ = some (.int .i64 (nth c k).c) ∧ w.cell? ⟨g, k * 5 + 4, none⟩ = some (.int .i64 (nth c k).pos) ∧ (∀ j, w.frozen? ⟨g, j, none⟩ = false) ∧ g < w.heap.size :=
  ⟨h.cellAt k 0 hk (by decide), h.cellAt k 1 hk (by decide), h.cellAt k 2 hk (by decide), h.cellAt k 3 hk (by decide), h.cellAt k 4 hk (by decide), fun j => h.frozenAt j, (h.lt g rfl).2⟩
end

end Go.Proofs.YteiohnfmlabelaaGreat
