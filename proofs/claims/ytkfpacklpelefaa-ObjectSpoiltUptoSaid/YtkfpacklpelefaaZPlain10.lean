/-
  The laws of the binary form in plain words.
-/
import Derived.Test.YtkfpacklpelefaaZNum10
import Derived.Test.YtkfpacklpelefaaZODec
import Derived.Test.YtkfpacklpelefaaZSizes10
import Derived.Test.YtkfpacklpelefaaZODecS
namespace Go.Proofs.Ytkfpacklpelefaa
set_option linter.unusedVariables false
set_option linter.unusedSimpArgs false
open Go.RowKit

theorem sumBytes_len (h : BitVec 32) : (sumBytes h).length = 4 := rfl
theorem body_len (p : Prg) : 8 ≤ (bodyL p).length := by
  unfold bodyL encPrg encL
  have h1 := encN_pos p.globals.length
  have h2 := encN_pos p.layouts.length
  have h3 := encN_pos p.funcs.length
  have h4 := encN_pos p.main
  simp only [List.length_append, magicL, List.length_cons, List.length_nil]
  omega
theorem file_len (p : Prg) : (fileL p).length = (bodyL p).length + 4 := by unfold fileL; rw [List.length_append, sumBytes_len]
theorem file_take (p : Prg) : (fileL p).take ((fileL p).length - 4) = bodyL p := by
  rw [file_len, Nat.add_sub_cancel]
  exact List.take_left
theorem file_drop (p : Prg) : (fileL p).drop ((fileL p).length - 4) = sumBytes (sumB (bodyL p)) := by
  rw [file_len, Nat.add_sub_cancel]
  exact List.drop_left
theorem body_take (p : Prg) : (bodyL p).take 4 = magicL := rfl
theorem file_take4 (p : Prg) : (fileL p).take 4 = magicL := rfl
/-- The binary form is read back. -/
theorem dec_file (p : Prg) (h : PrgWf p) : decS (fileL p) = if validB p then (p, 0) else (noPrg, 1) := by
  have h8 := body_len p
  unfold decS
  rw [if_neg (by rw [file_len]; omega), if_neg (by rw [file_take4]; simp), file_take, file_drop, if_neg (by unfold sumOf; simp)]
  have e : (bodyL p).drop 4 = encPrg p ++ [] := by
    rw [List.append_nil]
    rfl
  rw [e, rdPrg_enc p [] h]
/-- What is read is the binary form of what was read. -/
theorem dec_onto (l : List UInt8) (h : (decS l).2 = 0) : fileL (decS l).1 = l ∧ validB (decS l).1 = true ∧ ∃ r, rdPrg r = some ((decS l).1, []) ∧ r.length ≤ l.length := by
  revert h
  unfold decS
  split
  · intro h; exact absurd h (by decide)
  rename_i h8
  split
  · intro h; exact absurd h (by decide)
  rename_i hm
  split
  · intro h; exact absurd h (by decide)
  rename_i hs
  split
  · rename_i p hp
    split
    · rename_i hv
      intro _
      refine ⟨?_, hv, _, hp, by rw [List.length_drop, List.length_take]; omega⟩
      have e1 := rdPrg_of hp
      rw [List.append_nil] at e1
      have e2 : l.take 4 = magicL := Classical.not_not.1 hm
      have e3 : sumOf (l.take (l.length - 4)) = l.drop (l.length - 4) := Classical.not_not.1 hs
      have e4 : bodyL p = l.take (l.length - 4) := by
        unfold bodyL
        rw [← e1, ← e2]
        have h4 : (l.take (l.length - 4)).take 4 = l.take 4 := by rw [List.take_take]; congr 1; omega
        rw [← h4]
        exact List.take_append_drop 4 _
      show fileL p = l
      unfold fileL
      rw [e4]
      show _ ++ sumOf _ = _
      rw [e3, List.take_append_drop]
    · intro h; exact absurd h (by decide)
  · intro h; exact absurd h (by decide)
theorem dec_bad (l : List UInt8) (h : (decS l).2 ≠ 0) : (decS l).1 = noPrg := by
  revert h
  unfold decS
  split
  · intro _; rfl
  split
  · intro _; rfl
  split
  · intro _; rfl
  split
  · split
    · intro h; exact absurd rfl h
    · intro _; rfl
  · intro _; rfl

/-- The checksum tells any two texts apart that differ in one byte. -/
theorem mul_inj (a b : BitVec 32) (h : a * 16777619#32 = b * 16777619#32) : a = b := by
  have e : ∀ x : BitVec 32, x * 16777619#32 * 899433627#32 = x := fun x => by
    rw [BitVec.mul_assoc]
    show x * 1#32 = x
    exact BitVec.mul_one x
  rw [← e a, ← e b, h]
theorem xor_inj (a b c : BitVec 32) (h : a ^^^ c = b ^^^ c) : a = b := by
  have e : ∀ x : BitVec 32, x ^^^ c ^^^ c = x := fun x => by rw [BitVec.xor_assoc, BitVec.xor_self, BitVec.xor_zero]
  rw [← e a, ← e b, h]
theorem step_inj (a b : BitVec 32) (c : UInt8) (h : sumStep a c = sumStep b c) : a = b := xor_inj _ _ _ (mul_inj _ _ h)
theorem step_byte (a : BitVec 32) (c d : UInt8) (h : sumStep a c = sumStep a d) : c = d := by
  have h1 := mul_inj _ _ h
  rw [BitVec.xor_comm a, BitVec.xor_comm a] at h1
  have h2 := congrArg BitVec.toNat (xor_inj _ _ _ h1)
  rw [BitVec.toNat_ofNat, BitVec.toNat_ofNat] at h2
  have h3 := c.toNat_lt
  have h4 := d.toNat_lt
  exact UInt8.toNat_inj.1 (by omega)
theorem from_inj : ∀ (l : List UInt8) (a b : BitVec 32), sumFrom a l = sumFrom b l → a = b
  | [], a, b, h => h
  | c :: l, a, b, h => step_inj a b c (from_inj l _ _ h)
theorem sum_one (l r : List UInt8) (c d : UInt8) (h : c ≠ d) : sumB (l ++ c :: r) ≠ sumB (l ++ d :: r) := by
  intro e
  unfold sumB sumFrom at e
  rw [List.foldl_append, List.foldl_append, List.foldl_cons, List.foldl_cons] at e
  exact h (step_byte _ _ _ (from_inj r _ _ e))
theorem sumBytes_inj (a b : BitVec 32) (h : sumBytes a = sumBytes b) : a = b := by
  have h1 := (sum_tail a _ _ _ _).1 h.symm.symm
  obtain ⟨t0, t1, t2, t3, ht⟩ : ∃ t0 t1 t2 t3, sumBytes b = [t0, t1, t2, t3] := ⟨_, _, _, _, rfl⟩
  have h2 := (sum_tail b t0 t1 t2 t3).1 ht
  have h3 := (sum_tail a t0 t1 t2 t3).1 (h.trans ht)
  exact BitVec.eq_of_toNat_eq (h3.trans h2.symm)
theorem split_at (l : List UInt8) (i : Nat) (h : i < l.length) : l = l.take i ++ nth l i :: l.drop (i + 1) := by
  have : l.drop i = nth l i :: l.drop (i + 1) := by rw [List.drop_eq_getElem_cons h, nth_eq _ _ h]
  rw [← this, List.take_append_drop]
/-- One byte changed. -/
theorem dec_spoilt (p : Prg) (i : Nat) (d : UInt8) (hi : i < (fileL p).length) (hd : nth (fileL p) i ≠ d) : (decS ((fileL p).set i d)).2 = 8 ∨ (decS ((fileL p).set i d)).2 = 9 := by
  have h8 := body_len p
  have hl := file_len p
  have hlen : ((fileL p).set i d).length = (bodyL p).length + 4 := by rw [List.length_set, hl]
  unfold decS
  rw [if_neg (by rw [hlen]; omega)]
  split
  · exact .inl rfl
  rename_i hm
  have hs : sumOf (((fileL p).set i d).take (((fileL p).set i d).length - 4)) ≠ ((fileL p).set i d).drop (((fileL p).set i d).length - 4) := by
    rw [hlen, Nat.add_sub_cancel]
    by_cases hb : i < (bodyL p).length
    · have e1 : ((fileL p).set i d).take (bodyL p).length = (bodyL p).set i d := by
        unfold fileL
        rw [List.set_append_left _ _ hb]
        rw [show (bodyL p).length = ((bodyL p).set i d).length by simp]
        exact List.take_left
      have e2 : ((fileL p).set i d).drop (bodyL p).length = sumBytes (sumB (bodyL p)) := by
        unfold fileL
        rw [List.set_append_left _ _ hb]
        rw [show (bodyL p).length = ((bodyL p).set i d).length by simp]
        exact List.drop_left
      rw [e1, e2]
      intro e
      have e3 := sumBytes_inj _ _ e
      have e4 : (bodyL p).set i d = (bodyL p).take i ++ d :: (bodyL p).drop (i + 1) := by
        rw [List.set_eq_take_append_cons_drop, if_pos hb]
      have hn : nth (bodyL p) i ≠ d := by
        have : nth (fileL p) i = nth (bodyL p) i := by unfold fileL; exact nth_append_left _ _ _ hb
        rw [← this]
        exact hd
      have e5 := split_at (bodyL p) i hb
      rw [e4] at e3
      refine sum_one ((bodyL p).take i) ((bodyL p).drop (i + 1)) _ _ hn ?_
      rw [← e5]
      exact e3.symm
    · have e1 : ((fileL p).set i d).take (bodyL p).length = bodyL p := by
        unfold fileL
        rw [List.set_append_right _ _ (by omega)]
        exact List.take_left
      have e2 : ((fileL p).set i d).drop (bodyL p).length = (sumBytes (sumB (bodyL p))).set (i - (bodyL p).length) d := by
        unfold fileL
        rw [List.set_append_right _ _ (by omega)]
        exact List.drop_left
      rw [e1, e2]
      intro e
      have hj : i - (bodyL p).length < (sumBytes (sumB (bodyL p))).length := by rw [sumBytes_len]; omega
      have e3 := congrArg (fun l => nth l (i - (bodyL p).length)) e
      have e4 : nth ((sumBytes (sumB (bodyL p))).set (i - (bodyL p).length) d) (i - (bodyL p).length) = d := by
        unfold nth
        rw [List.getD_eq_getElem?_getD, List.getElem?_set_self hj]
        rfl
      have e5 : nth (fileL p) i = nth (sumBytes (sumB (bodyL p))) (i - (bodyL p).length) := by
        unfold fileL nth
        rw [List.getD_eq_getElem?_getD, List.getD_eq_getElem?_getD, List.getElem?_append_right (by omega)]
      refine hd ?_
      rw [e5]
      exact e3.trans e4
  rw [if_pos hs]
  exact .inr rfl

theorem many_all {α : Type} {p : Rd1 α} {G : α → Prop} (hp : ∀ l x r, p l = some (x, r) → G x) : ∀ (n : Nat) (l : List UInt8) (xs : List α) (r : List UInt8), rdMany p n l = some (xs, r) → ∀ x ∈ xs, G x
  | 0, l, xs, r, h => by
    simp only [rdMany, Option.some.injEq, Prod.mk.injEq] at h
    obtain ⟨rfl, _⟩ := h
    intro x hx
    simp at hx
  | n + 1, l, xs, r, h => by
    unfold rdMany at h
    cases h1 : p l with
    | none => rw [h1] at h; cases h
    | some q =>
      obtain ⟨x, s⟩ := q
      rw [h1] at h
      dsimp only at h
      cases h2 : rdMany p n s with
      | none => rw [h2] at h; cases h
      | some q =>
        obtain ⟨ys, t⟩ := q
        rw [h2] at h
        simp only [Option.some.injEq, Prod.mk.injEq] at h
        obtain ⟨rfl, _⟩ := h
        intro y hy
        rcases List.mem_cons.1 hy with rfl | hy
        · exact hp _ _ _ h1
        · exact many_all hp n s ys t h2 y hy
theorem list_all {α : Type} {p : Rd1 α} {G : α → Prop} (hp : ∀ l x r, p l = some (x, r) → G x) {l : List UInt8} {xs : List α} {r : List UInt8} (h : rdList p l = some (xs, r)) : ∀ x ∈ xs, G x := by
  unfold rdList at h
  cases hc : rdC l with
  | none => rw [hc] at h; cases h
  | some q => rw [hc] at h; exact many_all hp _ _ _ _ h
theorem rdIns_wf {a : Int} {l r : List UInt8} {x : Ins} (h : rdIns a l = some (x, r)) : InsWf x := by
  unfold rdIns at h
  obtain ⟨v1, s1, h1, h⟩ := rdBind_of h
  obtain ⟨v2, s2, h2, h⟩ := rdBind_of h
  obtain ⟨v3, s3, h3, h⟩ := rdBind_of h
  obtain ⟨v4, s4, h4, h⟩ := rdBind_of h
  obtain ⟨v5, s5, h5, h⟩ := rdBind_of h
  simp only [rdPure, Option.some.injEq, Prod.mk.injEq] at h
  obtain ⟨rfl, rfl⟩ := h
  exact ⟨(rdN_of h1).2, (rdN_of h2).2, (rdN_of h3).2, (rdN_of h4).2, w64_I64 _⟩
theorem rdCode_wf : ∀ (n : Nat) (a : Int) {l r : List UInt8} {c : List Ins}, rdCode n a l = some (c, r) → ∀ x ∈ c, InsWf x
  | 0, a, l, r, c, h => by
    simp only [rdCode, rdPure, Option.some.injEq, Prod.mk.injEq] at h
    obtain ⟨rfl, _⟩ := h
    intro x hx
    simp at hx
  | n + 1, a, l, r, c, h => by
    unfold rdCode at h
    obtain ⟨x, s, h1, h⟩ := rdBind_of h
    obtain ⟨y, t, h2, h⟩ := rdBind_of h
    simp only [rdPure, Option.some.injEq, Prod.mk.injEq] at h
    obtain ⟨rfl, _⟩ := h
    intro z hz
    rcases List.mem_cons.1 hz with rfl | hz
    · exact rdIns_wf h1
    · exact rdCode_wf n x.pos h2 z hz
theorem rdFun_wf (l : List UInt8) (f : Fun) (r : List UInt8) (h : rdFun l = some (f, r)) : I64 f.params ∧ I64 f.regs ∧ ∀ x ∈ f.code, InsWf x := by
  unfold rdFun at h
  obtain ⟨v1, s1, h1, h⟩ := rdBind_of h
  obtain ⟨v2, s2, h2, h⟩ := rdBind_of h
  obtain ⟨v3, s3, h3, h⟩ := rdBind_of h
  obtain ⟨v4, s4, h4, h⟩ := rdBind_of h
  obtain ⟨v5, s5, h5, h⟩ := rdBind_of h
  simp only [rdPure, Option.some.injEq, Prod.mk.injEq] at h
  obtain ⟨rfl, _⟩ := h
  exact ⟨(rdN_of h2).2, (rdN_of h3).2, rdCode_wf v4 0 h5⟩
theorem rdGlob_wf (l : List UInt8) (g : Glob) (r : List UInt8) (h : rdGlob l = some (g, r)) : I64 g.kind := by
  unfold rdGlob at h
  obtain ⟨v1, s1, h1, h⟩ := rdBind_of h
  obtain ⟨v2, s2, h2, h⟩ := rdBind_of h
  simp only [rdPure, Option.some.injEq, Prod.mk.injEq] at h
  obtain ⟨rfl, _⟩ := h
  exact (rdN_of h2).2
theorem rdLay_wf (l : List UInt8) (y : List Int) (r : List UInt8) (h : rdLay l = some (y, r)) : ∀ x ∈ y, I64 x :=
  list_all (fun _ _ _ h => (rdN_of h).2) h
theorem name_le (s : ByteArray) : s.size ≤ (encT s).length := by unfold encT; rw [List.length_append]; simp
/-- The sizes and integers of a program that was read. -/
theorem rd_wf {l r : List UInt8} {p : Prg} (h : rdPrg l = some (p, r)) (hl : l.length ≤ 1000000000) : PrgWf p := by
  obtain ⟨z1, z2, z3, z4, z5⟩ := rdPrg_sizes h
  have e := congrArg List.length (rdPrg_of h)
  unfold encPrg at e
  simp only [List.length_append] at e
  have n1 : ∀ f ∈ p.funcs, f.name.size ≤ l.length := fun f hf => by
    have h1 := encL_mem encFun hf
    have h2 : (encT f.name).length ≤ (encFun f).length := by unfold encFun; rw [List.length_append]; omega
    have h3 := name_le f.name
    omega
  have n2 : ∀ g ∈ p.globals, g.name.size ≤ l.length := fun g hg => by
    have h1 := encL_mem encGlob hg
    have h2 : (encT g.name).length ≤ (encGlob g).length := by unfold encGlob; rw [List.length_append]; omega
    have h3 := name_le g.name
    omega
  unfold rdPrg at h
  obtain ⟨v1, s1, h1, h⟩ := rdBind_of h
  obtain ⟨v2, s2, h2, h⟩ := rdBind_of h
  obtain ⟨v3, s3, h3, h⟩ := rdBind_of h
  obtain ⟨v4, s4, h4, h⟩ := rdBind_of h
  simp only [rdPure, Option.some.injEq, Prod.mk.injEq] at h
  obtain ⟨rfl, _⟩ := h
  dsimp only at *
  have w1 := list_all rdFun_wf h3
  have w2 := list_all rdGlob_wf h1
  have w3 := list_all rdLay_wf h2
  refine ⟨by dsimp only; omega, fun f hf => ⟨by have := n1 f hf; omega, (w1 f hf).1, (w1 f hf).2.1, by have := z4 f hf; omega, (w1 f hf).2.2⟩, by dsimp only; omega, fun g hg => ⟨by have := n2 g hg; omega, w2 g hg⟩, by dsimp only; omega, fun y hy => ⟨by have := z5 y hy; omega, w3 y hy⟩, (rdN_of h4).2⟩

end Go.Proofs.Ytkfpacklpelefaa
