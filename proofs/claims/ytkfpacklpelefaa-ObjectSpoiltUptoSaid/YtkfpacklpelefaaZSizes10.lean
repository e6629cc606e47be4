/-
  The binary form of a program in plain words, and what reading it gives.
-/
import Derived.IntWalk
import Derived.Test.YtkfpacklpelefaaZCodec
import Derived.Test.YtkfpacklpelefaaZOwnP
namespace Go.Proofs.Ytkfpacklpelefaa
set_option linter.unusedVariables false
set_option linter.unusedSimpArgs false
open Go.RowKit

def w64 (x : Int) : Int := wrap64 x
theorem w64_in (x : Int) (h : I64 x) : w64 x = x := by unfold I64 at h; exact IntWalk.wrap64_in _ h
theorem w64_I64 (x : Int) : I64 (w64 x) := by
  show I64 (wrap64 x)
  unfold I64 wrap64
  omega
theorem w64_back (a x : Int) (hx : I64 x) : w64 (a + w64 (x - a)) = x := by
  show wrap64 (a + wrap64 (x - a)) = x
  unfold I64 at hx
  unfold wrap64
  omega
theorem w64_forth (a d : Int) (hd : I64 d) : w64 (w64 (a + d) - a) = d := by
  show wrap64 (wrap64 (a + d) - a) = d
  unfold I64 at hd
  unfold wrap64
  omega

def encGlob (g : Glob) : List UInt8 := encT g.name ++ encN g.kind
def encLay (l : List Int) : List UInt8 := encL encN l
def encIns (last : Int) (x : Ins) : List UInt8 := encN x.op ++ (encN x.a ++ (encN x.b ++ (encN x.c ++ encN (w64 (x.pos - last)))))
def encCode : Int → List Ins → List UInt8
  | _, [] => []
  | last, x :: l => encIns last x ++ encCode x.pos l
def encFun (f : Fun) : List UInt8 := encT f.name ++ (encN f.params ++ (encN f.regs ++ (encN f.code.length ++ encCode 0 f.code)))
def encPrg (p : Prg) : List UInt8 := encL encGlob p.globals ++ (encL encLay p.layouts ++ (encL encFun p.funcs ++ encN p.main))

abbrev Rd1 (α : Type) := List UInt8 → Option (α × List UInt8)
def rdBind {α β : Type} (p : Rd1 α) (f : α → Rd1 β) : Rd1 β := fun l => match p l with
  | none => none
  | some (x, r) => f x r
def rdPure {α : Type} (x : α) : Rd1 α := fun l => some (x, l)
def rdGlob : Rd1 Glob := rdBind rdT fun n => rdBind rdN fun k => rdPure ⟨n, k⟩
def rdLay : Rd1 (List Int) := rdList rdN
def rdIns (last : Int) : Rd1 Ins := rdBind rdN fun o => rdBind rdN fun a => rdBind rdN fun b => rdBind rdN fun c => rdBind rdN fun d => rdPure ⟨o, a, b, c, w64 (last + d)⟩
def rdCode : Nat → Int → Rd1 (List Ins)
  | 0, _ => rdPure []
  | n + 1, last => rdBind (rdIns last) fun x => rdBind (rdCode n x.pos) fun l => rdPure (x :: l)
def rdFun : Rd1 Fun := rdBind rdT fun n => rdBind rdN fun p => rdBind rdN fun r => rdBind rdC fun k => rdBind (rdCode k 0) fun c => rdPure ⟨n, p, r, c⟩
def rdPrg : Rd1 Prg := rdBind (rdList rdGlob) fun g => rdBind (rdList rdLay) fun l => rdBind (rdList rdFun) fun f => rdBind rdN fun m => rdPure ⟨f, g, l, m⟩

theorem rdBind_some {α β : Type} {p : Rd1 α} {f : α → Rd1 β} {l r : List UInt8} {x : α} (h : p l = some (x, r)) : rdBind p f l = f x r := by unfold rdBind; rw [h]
theorem rdBind_of {α β : Type} {p : Rd1 α} {f : α → Rd1 β} {l : List UInt8} {y : β × List UInt8} (h : rdBind p f l = some y) : ∃ x r, p l = some (x, r) ∧ f x r = some y := by
  unfold rdBind at h
  cases hp : p l with
  | none => rw [hp] at h; cases h
  | some q => rw [hp] at h; exact ⟨q.1, q.2, rfl, h⟩
theorem rdBind_none {α β : Type} {p : Rd1 α} {f : α → Rd1 β} {l : List UInt8} (h : p l = none) : rdBind p f l = none := by unfold rdBind; rw [h]

theorem i64_len (n : Nat) (h : n ≤ 140737488355328) : I64 (n : Nat) := by unfold I64; omega
theorem rdGlob_enc (g : Glob) (r : List UInt8) (h1 : g.name.size ≤ 140737488355328) (h2 : I64 g.kind) : rdGlob (encGlob g ++ r) = some (g, r) := by
  unfold rdGlob encGlob
  rw [List.append_assoc, rdBind_some (rdT_enc g.name _ (i64_len _ (by simpa using h1))), rdBind_some (rdN_enc g.kind r h2)]
  rfl
theorem rdGlob_of {l r : List UInt8} {g : Glob} (h : rdGlob l = some (g, r)) : l = encGlob g ++ r := by
  unfold rdGlob at h
  obtain ⟨n, s, h1, h⟩ := rdBind_of h
  obtain ⟨k, t, h2, h⟩ := rdBind_of h
  simp only [rdPure, Option.some.injEq, Prod.mk.injEq] at h
  obtain ⟨rfl, rfl⟩ := h
  unfold encGlob
  rw [List.append_assoc, ← (rdN_of h2).1]
  exact rdT_of h1
theorem numL_pos (u : Nat) : 0 < (numL u).length := by
  by_cases h : u < 128
  · rw [numL_small u h]; simp
  · rw [numL_big u h]; simp
theorem encN_pos (n : Int) : 0 < (encN n).length := numL_pos _
theorem encT_pos (s : ByteArray) : 0 < (encT s).length := by unfold encT; have := encN_pos s.data.toList.length; rw [List.length_append]; omega
theorem encGlob_pos (g : Glob) : 0 < (encGlob g).length := by unfold encGlob; have := encT_pos g.name; rw [List.length_append]; omega
theorem encLay_pos (l : List Int) : 0 < (encLay l).length := by unfold encLay encL; have := encN_pos l.length; rw [List.length_append]; omega
theorem encFun_pos (f : Fun) : 0 < (encFun f).length := by unfold encFun; have := encT_pos f.name; rw [List.length_append]; omega
theorem encIns_pos (a : Int) (x : Ins) : 0 < (encIns a x).length := by unfold encIns; have := encN_pos x.op; rw [List.length_append]; omega
theorem encCode_ge : ∀ (l : List Ins) (a : Int), l.length ≤ (encCode a l).length
  | [], _ => by simp
  | x :: l, a => by
    have := encCode_ge l x.pos
    have := encIns_pos a x
    rw [encCode, List.length_append, List.length_cons]
    omega
theorem rdLay_enc (l : List Int) (r : List UInt8) (h1 : l.length * 8 ≤ 140737488351232) (h2 : ∀ x ∈ l, I64 x) : rdLay (encLay l ++ r) = some (l, r) :=
  rdList_enc rdN encN encN_pos r l (i64_len _ (by omega)) fun x hx r => rdN_enc x r (h2 x hx)
theorem rdLay_of {l r : List UInt8} {x : List Int} (h : rdLay l = some (x, r)) : l = encLay x ++ r := rdList_of rdN encN (fun _ _ _ h => (rdN_of h).1) l x r h
theorem rdIns_enc (a : Int) (x : Ins) (r : List UInt8) (h : InsWf x) : rdIns a (encIns a x ++ r) = some (x, r) := by
  unfold rdIns encIns
  simp only [List.append_assoc]
  rw [rdBind_some (rdN_enc _ _ h.op), rdBind_some (rdN_enc _ _ h.a), rdBind_some (rdN_enc _ _ h.b), rdBind_some (rdN_enc _ _ h.c), rdBind_some (rdN_enc _ _ (w64_I64 _))]
  rw [w64_back a x.pos h.pos]
  rfl
theorem rdIns_of {a : Int} {l r : List UInt8} {x : Ins} (h : rdIns a l = some (x, r)) : l = encIns a x ++ r := by
  unfold rdIns at h
  obtain ⟨v1, s1, h1, h⟩ := rdBind_of h
  obtain ⟨v2, s2, h2, h⟩ := rdBind_of h
  obtain ⟨v3, s3, h3, h⟩ := rdBind_of h
  obtain ⟨v4, s4, h4, h⟩ := rdBind_of h
  obtain ⟨v5, s5, h5, h⟩ := rdBind_of h
  simp only [rdPure, Option.some.injEq, Prod.mk.injEq] at h
  obtain ⟨rfl, rfl⟩ := h
  unfold encIns
  dsimp only
  rw [w64_forth a v5 (rdN_of h5).2]
  simp only [List.append_assoc]
  rw [← (rdN_of h5).1, ← (rdN_of h4).1, ← (rdN_of h3).1, ← (rdN_of h2).1, ← (rdN_of h1).1]
theorem rdCode_enc (r : List UInt8) : ∀ (l : List Ins) (a : Int), (∀ x ∈ l, InsWf x) → rdCode l.length a (encCode a l ++ r) = some (l, r)
  | [], _, _ => rfl
  | x :: l, a, h => by
    show rdCode (l.length + 1) a ((encIns a x ++ encCode x.pos l) ++ r) = _
    unfold rdCode
    rw [List.append_assoc, rdBind_some (rdIns_enc a x _ (h x (by simp))), rdBind_some (rdCode_enc r l x.pos fun y hy => h y (by simp [hy]))]
    rfl
theorem rdCode_of : ∀ (n : Nat) (a : Int) {l r : List UInt8} {c : List Ins}, rdCode n a l = some (c, r) → l = encCode a c ++ r ∧ c.length = n
  | 0, a, l, r, c, h => by
    simp only [rdCode, rdPure, Option.some.injEq, Prod.mk.injEq] at h
    obtain ⟨rfl, rfl⟩ := h
    exact ⟨rfl, rfl⟩
  | n + 1, a, l, r, c, h => by
    unfold rdCode at h
    obtain ⟨x, s, h1, h⟩ := rdBind_of h
    obtain ⟨y, t, h2, h⟩ := rdBind_of h
    simp only [rdPure, Option.some.injEq, Prod.mk.injEq] at h
    obtain ⟨rfl, rfl⟩ := h
    obtain ⟨e1, e2⟩ := rdCode_of n x.pos h2
    rw [rdIns_of h1, e1, encCode, List.append_assoc]
    exact ⟨rfl, by simp [e2]⟩
theorem rdFun_enc (f : Fun) (r : List UInt8) (h : FunWf f) : rdFun (encFun f ++ r) = some (f, r) := by
  have h1 := h.code
  unfold rdFun encFun
  simp only [List.append_assoc]
  rw [rdBind_some (rdT_enc f.name _ (i64_len _ (by simpa using h.name))), rdBind_some (rdN_enc _ _ h.params), rdBind_some (rdN_enc _ _ h.regs), rdBind_some (rdC_enc f.code.length _ (by have := encCode_ge f.code 0; rw [List.length_append]; omega) (i64_len _ (by omega))), rdBind_some (rdCode_enc r f.code 0 h.ins)]
  rfl
theorem rdFun_of {l r : List UInt8} {f : Fun} (h : rdFun l = some (f, r)) : l = encFun f ++ r := by
  unfold rdFun at h
  obtain ⟨v1, s1, h1, h⟩ := rdBind_of h
  obtain ⟨v2, s2, h2, h⟩ := rdBind_of h
  obtain ⟨v3, s3, h3, h⟩ := rdBind_of h
  obtain ⟨v4, s4, h4, h⟩ := rdBind_of h
  obtain ⟨v5, s5, h5, h⟩ := rdBind_of h
  simp only [rdPure, Option.some.injEq, Prod.mk.injEq] at h
  obtain ⟨rfl, rfl⟩ := h
  obtain ⟨e1, e2⟩ := rdCode_of v4 0 h5
  unfold encFun
  dsimp only
  simp only [List.append_assoc]
  rw [e2, ← e1, ← (rdC_of h4).1, ← (rdN_of h3).1, ← (rdN_of h2).1]
  exact rdT_of h1
theorem rdPrg_enc (p : Prg) (r : List UInt8) (h : PrgWf p) : rdPrg (encPrg p ++ r) = some (p, r) := by
  have h1 := h.funcs
  have h2 := h.globs
  have h3 := h.lays
  unfold rdPrg encPrg
  simp only [List.append_assoc]
  rw [rdBind_some (rdList_enc rdGlob encGlob encGlob_pos _ p.globals (i64_len _ (by omega)) fun x hx r => rdGlob_enc x r (h.glob x hx).1 (h.glob x hx).2),
    rdBind_some (rdList_enc rdLay encLay encLay_pos _ p.layouts (i64_len _ (by omega)) fun x hx r => rdLay_enc x r (h.lay x hx).1 (h.lay x hx).2),
    rdBind_some (rdList_enc rdFun encFun encFun_pos _ p.funcs (i64_len _ (by omega)) fun x hx r => rdFun_enc x r (h.func x hx)), rdBind_some (rdN_enc p.main r h.main)]
  rfl
theorem rdPrg_of {l r : List UInt8} {p : Prg} (h : rdPrg l = some (p, r)) : l = encPrg p ++ r := by
  unfold rdPrg at h
  obtain ⟨v1, s1, h1, h⟩ := rdBind_of h
  obtain ⟨v2, s2, h2, h⟩ := rdBind_of h
  obtain ⟨v3, s3, h3, h⟩ := rdBind_of h
  obtain ⟨v4, s4, h4, h⟩ := rdBind_of h
  simp only [rdPure, Option.some.injEq, Prod.mk.injEq] at h
  obtain ⟨rfl, rfl⟩ := h
  unfold encPrg
  dsimp only
  simp only [List.append_assoc]
  rw [← (rdN_of h4).1, ← rdList_of rdFun encFun (fun _ _ _ h => rdFun_of h) _ _ _ h3, ← rdList_of rdLay encLay (fun _ _ _ h => rdLay_of h) _ _ _ h2, ← rdList_of rdGlob encGlob (fun _ _ _ h => rdGlob_of h) _ _ _ h1]

end Go.Proofs.Ytkfpacklpelefaa

/-
  A program that was read is no longer than its bytes.
-/
namespace Go.Proofs.Ytkfpacklpelefaa
set_option linter.unusedVariables false
set_option linter.unusedSimpArgs false
open Go.RowKit

theorem mem_flat_le {α : Type} (e : α → List UInt8) : ∀ {xs : List α} {x : α}, x ∈ xs → (e x).length ≤ (xs.flatMap e).length
  | y :: ys, x, h => by
    rw [List.flatMap_cons, List.length_append]
    rcases List.mem_cons.1 h with rfl | h
    · omega
    · have := mem_flat_le e h
      omega
theorem encL_ge {α : Type} (e : α → List UInt8) (h : ∀ x, 0 < (e x).length) (xs : List α) : xs.length ≤ (encL e xs).length := by
  have := flat_ge e h xs
  unfold encL
  rw [List.length_append]
  omega
theorem encL_mem {α : Type} (e : α → List UInt8) {xs : List α} {x : α} (h : x ∈ xs) : (e x).length ≤ (encL e xs).length := by
  have := mem_flat_le e h
  unfold encL
  rw [List.length_append]
  omega
/-- The sizes of a program that was read. -/
theorem rdPrg_sizes {l r : List UInt8} {p : Prg} (h : rdPrg l = some (p, r)) : p.funcs.length ≤ l.length ∧ p.globals.length ≤ l.length ∧ p.layouts.length ≤ l.length ∧ (∀ f ∈ p.funcs, f.code.length ≤ l.length) ∧ (∀ y ∈ p.layouts, y.length ≤ l.length) := by
  have e := congrArg List.length (rdPrg_of h)
  unfold encPrg at e
  simp only [List.length_append] at e
  have g1 : ∀ g : Glob, 0 < (encGlob g).length := fun g => by have := encN_pos g.kind; unfold encGlob; rw [List.length_append]; omega
  have g2 : ∀ y : List Int, 0 < (encLay y).length := fun y => by have := encN_pos y.length; unfold encLay encL; rw [List.length_append]; omega
  have g3 : ∀ f : Fun, f.code.length < (encFun f).length := fun f => by
    have h1 := encCode_ge f.code 0
    have h2 := encN_pos f.params
    unfold encFun
    simp only [List.length_append]
    omega
  have a1 := encL_ge encFun (fun f => by have := g3 f; omega) p.funcs
  have a2 := encL_ge encGlob g1 p.globals
  have a3 := encL_ge encLay g2 p.layouts
  refine ⟨by omega, by omega, by omega, fun f hf => ?_, fun y hy => ?_⟩
  · have h1 := encL_mem encFun hf
    have h2 := g3 f
    omega
  · have h1 := encL_mem encLay hy
    have h2 := encL_ge encN encN_pos y
    have h3 : (encLay y).length = (encL encN y).length := rfl
    omega

end Go.Proofs.Ytkfpacklpelefaa
