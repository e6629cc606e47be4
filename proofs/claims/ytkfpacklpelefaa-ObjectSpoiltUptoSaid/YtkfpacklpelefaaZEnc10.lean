/-
  What is written so far, in plain words; the whole binary form.
-/
import Derived.Test.YtkfpacklpelefaaZBytes
import Derived.Test.YtkfpacklpelefaaZSizes10
namespace Go.Proofs.Ytkfpacklpelefaa
set_option linter.unusedVariables false
set_option linter.unusedSimpArgs false
open Go.RowKit

def magicL : List UInt8 := [105, 108, 118, 49]
def sumBytes (h : BitVec 32) : List UInt8 := [UInt8.ofNat (h.toNat / 16777216), UInt8.ofNat (h.toNat / 65536), UInt8.ofNat (h.toNat / 256), UInt8.ofNat h.toNat]
def bodyL (p : Prg) : List UInt8 := magicL ++ encPrg p
def fileL (p : Prg) : List UInt8 := bodyL p ++ sumBytes (sumB (bodyL p))

theorem wrap_w64 (x : Int) : IntKind.i64.wrap x = w64 x := by unfold w64 wrap64; rw [IntKind.wrap_i64]
theorem lit_sum (h : BitVec 32) : #[Value.int .u8 ((natS h : Nat) / 16777216 % 256), Value.int .u8 ((natS h : Nat) / 65536 % 256), Value.int .u8 ((natS h : Nat) / 256 % 256), Value.int .u8 ((natS h : Nat) % 256)].toList = (sumBytes h).flatMap byteE.enc := by
  unfold sumBytes natS
  generalize h.toNat = n
  have e : ∀ x : Nat, (UInt8.ofNat x).toNat = x % 256 := fun x => UInt8.toNat_ofNat'
  show [_, _, _, _] = [Value.int .u8 ((UInt8.ofNat (n / 16777216)).toNat : Nat), .int .u8 ((UInt8.ofNat (n / 65536)).toNat : Nat), .int .u8 ((UInt8.ofNat (n / 256)).toNat : Nat), .int .u8 ((UInt8.ofNat n).toNat : Nat)]
  rw [e, e, e, e]
  simp
theorem takeS {α : Type} [Inhabited α] (l : List α) (k : Nat) (h : k < l.length) : l.take (k + 1) = l.take k ++ [nth l k] := by
  rw [List.take_add_one, List.getElem?_eq_getElem h, nth_eq _ _ h]; rfl
theorem flat_snoc {α : Type} [Inhabited α] (e : α → List UInt8) (l : List α) (k : Nat) (h : k < l.length) : (l.take (k + 1)).flatMap e = (l.take k).flatMap e ++ e (nth l k) := by
  rw [takeS l k h, List.flatMap_append]
  simp
theorem flat_pre {α : Type} (e : α → List UInt8) (l : List α) (k : Nat) : (l.take k).flatMap e <+: l.flatMap e := by
  have h : l.flatMap e = (l.take k).flatMap e ++ (l.drop k).flatMap e := by rw [← List.flatMap_append, List.take_append_drop]
  rw [h]
  exact List.prefix_append _ _
theorem flat_pre1 {α : Type} [Inhabited α] (e : α → List UInt8) (l : List α) (k : Nat) (h : k < l.length) {x : List UInt8} (hx : x <+: e (nth l k)) : (l.take k).flatMap e ++ x <+: l.flatMap e :=
  List.IsPrefix.trans (by rw [flat_snoc e l k h]; exact (List.prefix_append_right_inj _).2 hx) (flat_pre e l (k + 1))

def lastOf (a : Int) (l : List Ins) : Int := l.foldl (fun _ x => x.pos) a
theorem encCode_append : ∀ (l r : List Ins) (a : Int), encCode a (l ++ r) = encCode a l ++ encCode (lastOf a l) r
  | [], r, a => rfl
  | x :: l, r, a => by
    show encIns a x ++ encCode x.pos (l ++ r) = (encIns a x ++ encCode x.pos l) ++ encCode (lastOf x.pos l) r
    rw [encCode_append l r x.pos, List.append_assoc]
theorem code_snoc (l : List Ins) (k : Nat) (h : k < l.length) : encCode 0 (l.take (k + 1)) = encCode 0 (l.take k) ++ encIns (lastOf 0 (l.take k)) (nth l k) := by
  rw [takeS l k h, encCode_append]
  show _ ++ (encIns _ _ ++ []) = _
  rw [List.append_nil]
theorem last_snoc (l : List Ins) (k : Nat) (h : k < l.length) : lastOf 0 (l.take (k + 1)) = (nth l k).pos := by
  rw [takeS l k h]
  unfold lastOf
  rw [List.foldl_append]
  rfl
theorem code_pre (l : List Ins) (k : Nat) : encCode 0 (l.take k) <+: encCode 0 l := by
  have h : encCode 0 l = encCode 0 (l.take k ++ l.drop k) := by rw [List.take_append_drop]
  rw [h, encCode_append]
  exact List.prefix_append _ _

/-- The stages. -/
def stG (p : Prg) (k : Nat) : List UInt8 := magicL ++ (encN p.globals.length ++ (p.globals.take k).flatMap encGlob)
def stL (p : Prg) (k : Nat) : List UInt8 := magicL ++ (encL encGlob p.globals ++ (encN p.layouts.length ++ (p.layouts.take k).flatMap encLay))
def stF (p : Prg) (k : Nat) : List UInt8 := magicL ++ (encL encGlob p.globals ++ (encL encLay p.layouts ++ (encN p.funcs.length ++ (p.funcs.take k).flatMap encFun)))
def stLi (l : List Int) (j : Nat) : List UInt8 := encN l.length ++ (l.take j).flatMap encN
def stFi (f : Fun) (j : Nat) : List UInt8 := encT f.name ++ (encN f.params ++ (encN f.regs ++ (encN f.code.length ++ encCode 0 (f.code.take j))))

theorem pre_app {a b : List UInt8} (p : List UInt8) (h : a <+: b) : p ++ a <+: p ++ b := (List.prefix_append_right_inj p).2 h
theorem pre_mid {a b : List UInt8} (c : List UInt8) (h : a <+: b) : a <+: b ++ c := h.trans (List.prefix_append _ _)
theorem stG_pre (p : Prg) (k : Nat) : stG p k <+: bodyL p := by
  unfold stG bodyL encPrg encL
  rw [List.append_assoc]
  exact pre_app _ (pre_app _ (pre_mid _ (flat_pre encGlob p.globals k)))
theorem stL_pre (p : Prg) (k : Nat) : stL p k <+: bodyL p := by
  unfold stL bodyL encPrg
  refine pre_app _ (pre_app _ ?_)
  unfold encL
  rw [List.append_assoc]
  exact pre_app _ (pre_mid _ (flat_pre encLay p.layouts k))
theorem stF_pre (p : Prg) (k : Nat) : stF p k <+: bodyL p := by
  unfold stF bodyL encPrg
  refine pre_app _ (pre_app _ (pre_app _ ?_))
  unfold encL
  rw [List.append_assoc]
  exact pre_app _ (pre_mid _ (flat_pre encFun p.funcs k))
theorem stG_snoc (p : Prg) (k : Nat) (h : k < p.globals.length) : stG p (k + 1) = stG p k ++ encGlob (nth p.globals k) := by
  unfold stG
  rw [flat_snoc _ _ _ h]
  simp only [List.append_assoc]
theorem stL_snoc (p : Prg) (k : Nat) (h : k < p.layouts.length) : stL p (k + 1) = stL p k ++ encLay (nth p.layouts k) := by
  unfold stL
  rw [flat_snoc _ _ _ h]
  simp only [List.append_assoc]
theorem stF_snoc (p : Prg) (k : Nat) (h : k < p.funcs.length) : stF p (k + 1) = stF p k ++ encFun (nth p.funcs k) := by
  unfold stF
  rw [flat_snoc _ _ _ h]
  simp only [List.append_assoc]
theorem stL_zero (p : Prg) : stL p 0 = stG p p.globals.length ++ encN p.layouts.length := by
  unfold stL stG encL
  rw [List.take_length]
  simp
theorem stF_zero (p : Prg) : stF p 0 = stL p p.layouts.length ++ encN p.funcs.length := by
  unfold stF stL encL
  rw [List.take_length]
  simp
theorem st_end (p : Prg) : bodyL p = stF p p.funcs.length ++ encN p.main := by
  unfold stF bodyL encPrg encL
  rw [List.take_length]
  simp
theorem stLi_zero (l : List Int) : stLi l 0 = encN l.length := by unfold stLi; simp
theorem stLi_snoc (l : List Int) (j : Nat) (h : j < l.length) : stLi l (j + 1) = stLi l j ++ encN (nth l j) := by
  unfold stLi
  rw [flat_snoc _ _ _ h, List.append_assoc]
theorem stLi_end (l : List Int) : stLi l l.length = encLay l := by unfold stLi encLay encL; rw [List.take_length]
theorem stLi_pre (p : Prg) (k j : Nat) (h : k < p.layouts.length) : stL p k ++ stLi (nth p.layouts k) j <+: bodyL p := by
  refine List.IsPrefix.trans ?_ (stL_pre p (k + 1))
  rw [stL_snoc p k h, ← stLi_end]
  refine pre_app _ ?_
  unfold stLi
  rw [List.take_length]
  exact pre_app _ (flat_pre encN _ j)
theorem stFi_end (f : Fun) : stFi f f.code.length = encFun f := by unfold stFi encFun; rw [List.take_length]
theorem stFi_snoc (f : Fun) (j : Nat) (h : j < f.code.length) : stFi f (j + 1) = stFi f j ++ encIns (lastOf 0 (f.code.take j)) (nth f.code j) := by
  unfold stFi
  rw [code_snoc f.code j h]
  simp only [List.append_assoc]
theorem stFi_zero (f : Fun) : stFi f 0 = encT f.name ++ (encN f.params ++ (encN f.regs ++ encN f.code.length)) := by
  unfold stFi
  simp [encCode]
theorem stFi_pre (p : Prg) (k j : Nat) (h : k < p.funcs.length) : stF p k ++ stFi (nth p.funcs k) j <+: bodyL p := by
  refine List.IsPrefix.trans ?_ (stF_pre p (k + 1))
  rw [stF_snoc p k h, ← stFi_end]
  refine pre_app _ ?_
  unfold stFi
  rw [List.take_length]
  exact pre_app _ (pre_app _ (pre_app _ (pre_app _ (code_pre _ j))))

end Go.Proofs.Ytkfpacklpelefaa
