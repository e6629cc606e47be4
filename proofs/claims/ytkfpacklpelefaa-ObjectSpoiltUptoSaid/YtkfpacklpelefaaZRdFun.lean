/-
  The reader's functions, walked.
-/
import Derived.Test.YtkfpacklpelefaaZOwnP
import Derived.Test.YtkfpacklpelefaaZRdTxt
namespace Go.Proofs.Ytkfpacklpelefaa
set_option linter.unusedVariables false
set_option linter.unusedSimpArgs false
open Go.RowKit

/-- The frame of a call that makes memory of its own: of the blocks below N only those of the types in S may have changed. -/
def KN (base N : Nat) (S : List TypeId) (w w' : World) : Prop := Below base w w' ∧ w.heap.size ≤ w'.heap.size ∧ ∀ (k : Nat) (cur : Array Value) (t : TypeId), k < N → w.heap[k]? = some (Obj.cells cur t (0, 0)) → t ∉ S → w'.heap[k]? = w.heap[k]?
theorem KN.refl (base N : Nat) (S : List TypeId) (w : World) : KN base N S w w := ⟨Below.refl _ _, Nat.le_refl _, fun _ _ _ _ _ _ => rfl⟩
theorem KN.trans {base N : Nat} {S : List TypeId} {a b c : World} (h : KN base N S a b) (k : KN base N S b c) : KN base N S a c :=
  ⟨h.1.trans k.1, Nat.le_trans h.2.1 k.2.1, fun x cur t hx hc ht => by
    have h1 := h.2.2 x cur t hx hc ht
    rw [k.2.2 x cur t hx (by rw [h1]; exact hc) ht, h1]⟩
theorem KT.kn {base : Nat} {S : List TypeId} {w w' : World} (h : KT base S w w') (N : Nat) : KN base N S w w' := ⟨h.1, h.2.1, fun k cur t _ hc ht => h.2.2 k cur t hc ht⟩
theorem KN.kt {base : Nat} {S : List TypeId} {w w' : World} (h : KN base w.heap.size S w w') : KT base S w w' := ⟨h.1, h.2.1, fun k cur t hc ht => h.2.2 k cur t (Array.getElem?_eq_some_iff.1 hc).1 hc ht⟩
theorem KN.store {base N : Nat} {S : List TypeId} (w : World) {b : Nat} (hb : base ≤ b) (hN : N ≤ b) (k : Nat) (u : Value) : KN base N S w (w.setCell ⟨b, k, none⟩ u) :=
  ⟨(Below.refl _ _).setCell hb u, by simp [World.setCell], fun q cur t hq _ _ => Below.heap_setCell _ _ _ _ (by show q ≠ b; omega)⟩
theorem KN.grown {α : Type} {E : Enc α} {base N : Nat} {S : List TypeId} {e : TypeId} {w w' : World} {v : Value} {l : List α} (ho : OwnE E N e w v l) (hg : w.grownBy w' v.ownBlock) (hb : base ≤ w.heap.size) (hN : base ≤ N) : KN base N S w w' :=
  ⟨Below.grownE (Below.refl _ _) ho hg hb hN, hg.size, fun k cur t hk hc _ => hg.block k (Array.getElem?_eq_some_iff.1 hc).1 fun e2 => by have := (ho.lt k e2.symm).1; omega⟩
theorem KN.alloc {base N : Nat} (S : List TypeId) (w : World) (o : Obj) (hb : base ≤ w.heap.size) : KN base N S w (w.alloc o) := (KT.alloc S w o hb).kn N
/-- A box, or a row, of another type. -/
theorem RdAt.kt {b : Nat} {w w' : World} {l : List UInt8} (h : RdAt b w l) (hk : w'.heap[b]? = w.heap[b]?) (hb : Below b w w') : RdAt b w' l := by
  obtain ⟨a, c, h1, h2, h3, h4⟩ := h
  exact ⟨a, c, h1.ofBlock hk, SlE.agree h2 fun h0 q hq => hb.block q (h3 h0 q hq), h3, h4⟩
theorem RdAt.lt {b : Nat} {w : World} {l : List UInt8} (h : RdAt b w l) : b < w.heap.size := by obtain ⟨a, c, h1, _⟩ := h; exact h1.lt
theorem RdAt.alloc {b : Nat} {w : World} {l : List UInt8} (h : RdAt b w l) (o : Obj) : RdAt b (w.alloc o) l := h.kt (((Below.refl _ _).alloc (Nat.le_refl _) o).block b h.lt) ((Below.refl _ _).alloc (by have := h.lt; omega) o)
theorem RdAt.other {b : Nat} {w : World} {l : List UInt8} (h : RdAt b w l) {q k : Nat} (u : Value) (hq : b < q) : RdAt b (w.setCell ⟨q, k, none⟩ u) l := h.kt (Below.heap_setCell _ _ _ _ (by show b ≠ q; omega)) ((Below.refl _ _).setCell (by show b ≤ q; omega) u)
theorem RdAt.grown {α : Type} {E : Enc α} {N b : Nat} {e : TypeId} {w w' : World} {v : Value} {l : List α} {r : List UInt8} (h : RdAt b w r) (ho : OwnE E N e w v l) (hg : w.grownBy w' v.ownBlock) (hN : b < N) : RdAt b w' r :=
  h.kt (hg.block b h.lt fun e2 => by have := (ho.lt b e2.symm).1; omega) (Below.grownE (Below.refl _ _) ho hg (by have := h.lt; omega) (by omega))

/-- What a read gives: the value and the rest, or a panic. -/
def NumQ (b : Nat) (l : List UInt8) (e : Ending) (w' : World) : Prop := (∃ n r, rdN l = some (n, r) ∧ e = .returned (.int .i64 n) ∧ RdAt b w' r) ∨ (rdN l = none ∧ e = .panicked malP)
def CntQ (b : Nat) (l : List UInt8) (e : Ending) (w' : World) : Prop := (∃ n r, rdC l = some (n, r) ∧ e = .returned (.int .i64 (n : Nat)) ∧ RdAt b w' r) ∨ (rdC l = none ∧ e = .panicked malP)
def TxtQ (b : Nat) (l : List UInt8) (e : Ending) (w' : World) : Prop := (∃ s r, rdT l = some (s, r) ∧ e = .returned (.string s) ∧ RdAt b w' r) ∨ (rdT l = none ∧ e = .panicked malP)
theorem ornum_calls (b : Nat) (l : List UInt8) (w : World) (h : RdAt b w l) : Calls Try.prog 45 #[.pointer (some ⟨b, 0, none⟩)] w fun e w' => NumQ b l e w' ∧ KT b [64] w w' := by
  cases hr : rdN l with
  | none =>
    refine (ornum_bad b l w h hr).mono ?_
    rintro e w' ⟨rfl, rfl⟩
    exact ⟨.inr ⟨hr, rfl⟩, KT.refl _ _ _⟩
  | some q =>
    refine (ornum_ok b l q.2 q.1 w h hr).mono ?_
    rintro e w' ⟨rfl, h1, h2⟩
    exact ⟨.inl ⟨q.1, q.2, hr, rfl, h1⟩, h2⟩
theorem orcount_calls (b : Nat) (l : List UInt8) (w : World) (h : RdAt b w l) : Calls Try.prog 43 #[.pointer (some ⟨b, 0, none⟩)] w fun e w' => CntQ b l e w' ∧ KT b [64] w w' := by
  cases hr : rdC l with
  | none =>
    refine (orcount_bad b l w h hr).mono ?_
    rintro e w' ⟨rfl, h2⟩
    exact ⟨.inr ⟨hr, rfl⟩, h2⟩
  | some q =>
    refine (orcount_ok b l q.2 q.1 w h hr).mono ?_
    rintro e w' ⟨rfl, h1, h2⟩
    exact ⟨.inl ⟨q.1, q.2, hr, rfl, h1⟩, h2⟩
theorem ortext_calls (b : Nat) (l : List UInt8) (w : World) (h : RdAt b w l) : Calls Try.prog 44 #[.pointer (some ⟨b, 0, none⟩)] w fun e w' => TxtQ b l e w' ∧ KT b [64] w w' := by
  cases hr : rdT l with
  | none =>
    refine (ortext_bad b l w h hr).mono ?_
    rintro e w' ⟨rfl, h2⟩
    exact ⟨.inr ⟨hr, rfl⟩, h2⟩
  | some q =>
    refine (ortext_ok b l q.2 q.1 w h hr).mono ?_
    rintro e w' ⟨rfl, h1, h2⟩
    exact ⟨.inl ⟨q.1, q.2, hr, rfl, h1⟩, h2⟩

/-- One more instruction read. -/
theorem code_step {k : Nat} {last : Int} {rj s : List UInt8} {x : Ins} {done : List Ins} (h : rdIns last rj = some (x, s)) :
    ((rdBind (rdIns last) fun x => rdBind (rdCode k x.pos) fun l => rdPure (x :: l)) rj).map (fun y => (done ++ y.1, y.2)) = (rdCode k x.pos s).map (fun y => ((done ++ [x]) ++ y.1, y.2)) := by
  rw [rdBind_some h]
  cases hq : rdCode k x.pos s with
  | none => rw [rdBind_none hq]; rfl
  | some q =>
    obtain ⟨c, r⟩ := q
    rw [rdBind_some hq]
    simp [rdPure]

theorem meas_lt {n j : Nat} (h : j < n) : n - (intOf (.int .i64 ((j + 1 : Nat) : Int))).toNat < n - (intOf (.int .i64 (j : Int))).toNat := by
  simp only [intOf, Int.toNat_natCast]
  omega
theorem wrap_succ {n j r : Nat} (h : j < n) (h1 : n ≤ r) (h2 : r ≤ 1000000000) : wrap64 ((j : Int) + 1) = ((j + 1 : Nat) : Int) := by unfold wrap64; omega
theorem infoIns10 : (Try.prog.info? 57).map (fun i => (i.zero, i.size, i.bytes)) = some (some (.agg #[.int .i64 0, .int .i64 0, .int .i64 0, .int .i64 0, .int .i64 0]), insE.sz, 40) := by kernel_rfl
/-- What a function's value is. -/
def FunQ (base b : Nat) (l : List UInt8) (e : Ending) (w' : World) : Prop := (∃ f r s, rdFun l = some (f, r) ∧ e = .returned (.agg #[.string f.name, .int .i64 f.params, .int .i64 f.regs, Slc.val s]) ∧ OwnE insE base 57 w' s.val f.code ∧ RdAt b w' r) ∨ (rdFun l = none ∧ e = .panicked malP)

set_option maxRecDepth 200000 in
set_option maxHeartbeats 8000000 in
theorem orfun_calls (b : Nat) (l : List UInt8) (w : World) (h : RdAt b w l) (hl : l.length ≤ 1000000000) :
    Calls Try.prog 46 #[.pointer (some ⟨b, 0, none⟩)] w fun e w' => FunQ w.heap.size b l e w' ∧ KT b [64] w w' := by
  have H := hid h
  have hbw := h.lt
  have HBW := hid hbw
  clear h
  go_enter Try.func46, Try.ntmps46
  go_wp2_with fail
  generalize hW : World.alloc _ _ = W
  have hbx := show BoxAt W w.heap.size 55 [.string ⟨#[]⟩, .int .i64 0, .int .i64 0, .slice none 0 0] by rw [← hW]; exact BoxAt.new _ _ _ _ _ rfl rfl
  have HRW := hid (show RdAt b W l by rw [← hW]; exact H.out.alloc _)
  have HK0 := hid (show KT b [64] w W by rw [← hW]; exact KT.alloc _ w _ (by omega))
  have HZW := hid (show W.heap.size = w.heap.size + 1 by rw [← hW]; simp)
  have HRES := hid hbx
  clear hW hbx
  refine (ortext_calls b l W HRW.out).mono ?_
  rintro e w1 ⟨hq, hk⟩
  rcases hq with ⟨n1, r1, hs, rfl, hrd⟩ | ⟨hs, rfl⟩
  rotate_left
  · exact ⟨rfl, .inr ⟨rdBind_none hs, rfl⟩, (HK0.out.trans hk)⟩
  have HR1 := hid hrd
  have HK1 := hid hk
  have HEQ1 := hid (show rdFun l = (rdBind rdN fun p => rdBind rdN fun q => rdBind rdC fun k => rdBind (rdCode k 0) fun c => rdPure (⟨n1, p, q, c⟩ : Fun)) r1 from rdBind_some hs)
  have HLE1 := hid (show r1.length ≤ 1000000000 by
    have h1 := congrArg List.length (rdT_of hs)
    rw [List.length_append] at h1
    skip
    omega)
  skip
  clear hrd hk hs
  have HB1 := hid (HK1.out.box HRES.out (by decide))
  have HT1 := hid (HK0.out.trans HK1.out)
  go_wp2_with fail
  refine (ornum_calls b r1 w1 HR1.out).mono ?_
  rintro e w2 ⟨hq, hk⟩
  rcases hq with ⟨n2, r2, hs, rfl, hrd⟩ | ⟨hs, rfl⟩
  rotate_left
  · exact ⟨rfl, .inr ⟨HEQ1.out.trans (rdBind_none hs), rfl⟩, (HT1.out.trans hk)⟩
  have HR2 := hid hrd
  have HK2 := hid hk
  have HEQ2 := hid (show rdFun l = (rdBind rdN fun q => rdBind rdC fun k => rdBind (rdCode k 0) fun c => rdPure (⟨n1, n2, q, c⟩ : Fun)) r2 from HEQ1.out.trans (rdBind_some hs))
  have HLE2 := hid (show r2.length ≤ 1000000000 by
    have h1 := congrArg List.length ((rdN_of hs).1)
    rw [List.length_append] at h1
    have := HLE1.out
    omega)
  skip
  clear hrd hk hs
  have HB2 := hid (HK2.out.box HB1.out (by decide))
  have HT2 := hid (HT1.out.trans HK2.out)
  go_wp2_with fail
  refine (ornum_calls b r2 w2 HR2.out).mono ?_
  rintro e w3 ⟨hq, hk⟩
  rcases hq with ⟨n3, r3, hs, rfl, hrd⟩ | ⟨hs, rfl⟩
  rotate_left
  · exact ⟨rfl, .inr ⟨HEQ2.out.trans (rdBind_none hs), rfl⟩, (HT2.out.trans hk)⟩
  have HR3 := hid hrd
  have HK3 := hid hk
  have HEQ3 := hid (show rdFun l = (rdBind rdC fun k => rdBind (rdCode k 0) fun c => rdPure (⟨n1, n2, n3, c⟩ : Fun)) r3 from HEQ2.out.trans (rdBind_some hs))
  have HLE3 := hid (show r3.length ≤ 1000000000 by
    have h1 := congrArg List.length ((rdN_of hs).1)
    rw [List.length_append] at h1
    have := HLE2.out
    omega)
  skip
  clear hrd hk hs
  have HB3 := hid (HK3.out.box HB2.out (by decide))
  have HT3 := hid (HT2.out.trans HK3.out)
  have HZ3 := hid (show w.heap.size < w3.heap.size from HB3.out.lt)
  go_wp2_with fail
  generalize hX : World.alloc _ _ = WX
  have hbx := show BoxAt WX w3.heap.size 55 [.string n1, .int .i64 n2, .int .i64 n3, .slice none 0 0] by rw [← hX]; exact BoxAt.new _ _ _ _ _ rfl rfl
  have HFX := hid hbx
  have HRX := hid (show RdAt b WX r3 by rw [← hX]; exact HR3.out.alloc _)
  have HKX := hid (show KT b [64] w3 WX by rw [← hX]; exact KT.alloc _ w3 _ (by have := HR3.out.lt; omega))
  have HBX := hid (HKX.out.box HB3.out (by decide))
  have HTX := hid (HT3.out.trans HKX.out)
  clear hX hbx
  refine (orcount_calls b r3 WX HRX.out).mono ?_
  rintro e w4 ⟨hq, hk⟩
  rcases hq with ⟨n4, r4, hs, rfl, hrd⟩ | ⟨hs, rfl⟩
  rotate_left
  · exact ⟨rfl, .inr ⟨HEQ3.out.trans (rdBind_none hs), rfl⟩, (HTX.out.trans hk)⟩
  have HR4 := hid hrd
  have HK4 := hid hk
  have HEQ4 := hid (show rdFun l = (rdBind (rdCode n4 0) fun c => rdPure (⟨n1, n2, n3, c⟩ : Fun)) r4 from HEQ3.out.trans (rdBind_some hs))
  have HLE4 := hid (show r4.length ≤ 1000000000 by
    have h1 := congrArg List.length ((rdC_of hs).1)
    rw [List.length_append] at h1
    have := HLE3.out
    omega)
  have HCN := hid (rdC_of hs).2.1
  clear hrd hk hs
  have HB4 := hid (HK4.out.box HBX.out (by decide))
  have HF4 := hid (HK4.out.box HFX.out (by decide))
  have HT4 := hid (HTX.out.trans HK4.out)
  go_wp2_with fail
  clear HRW HK0 HRES HR1 HK1 HEQ1 HLE1 HB1 HT1 HR2 HK2 HEQ2 HLE2 HB2 HT2 HR3 HK3 HEQ3 HB3 HT3 HRX HKX HBX HTX HK4 HFX
  go_loopw [4, 15] (fun la i wr => ∃ (j : Nat) (last : Int) (done : List Ins) (rj : List UInt8) (a : Option Addr) (c : Nat), j ≤ n4 ∧ i = .int .i64 j ∧ la = .int .i64 last ∧ done.length = j ∧ rdCode n4 0 r4 = (rdCode (n4 - j) last rj).map (fun x => (done ++ x.1, x.2)) ∧ RdAt b wr rj ∧ BoxAt wr w.heap.size 55 [.string ⟨#[]⟩, .int .i64 0, .int .i64 0, .slice none 0 0] ∧ BoxAt wr w3.heap.size 55 [.string n1, .int .i64 n2, .int .i64 n3, .slice a j c] ∧ OwnE insE w.heap.size 57 wr (.slice a j c) done ∧ KN b w.heap.size [64] w wr) (fun _ i _ => n4 - (intOf i).toNat)
  case atStart => exact ⟨0, 0, [], r4, none, 0, Nat.zero_le _, rfl, rfl, rfl, by rw [Nat.sub_zero]; cases rdCode n4 0 r4 <;> rfl, HR4.out, HB4.out, HF4.out, OwnE.nil _ _ _ _, HT4.out.kn _⟩
  case round =>
    clear HR4 HB4 HF4 HT4
    obtain ⟨j, last, done, rj, a, c, hj, rfl, rfl, hdl, hrc, hrd, hb, hf, hown, hkn⟩ := hrel
    obtain ⟨wo, hwo⟩ : ∃ wo, wo = wr := ⟨_, rfl⟩
    subst hwo
    have HRC := hid hrc
    have HRD := hid hrd
    have HB := hid hb
    have HF := hid hf
    have HOW := hid hown
    have HKN := hid hkn
    have HDL := hid hdl
    have HLAST := hid (show True from trivial)
    clear hrc hrd hb hf hown hkn hdl
    by_cases hlt : j < n4
    · have hlt2 : (j : Int) < n4 := Int.ofNat_lt.2 hlt
      have HNI := hid (show rdCode (n4 - j) last rj = rdBind (rdIns last) (fun x => rdBind (rdCode (n4 - (j + 1)) x.pos) fun l => rdPure (x :: l)) rj by rw [show n4 - j = (n4 - (j + 1)) + 1 by omega]; rfl)
      have HBAD := hid (show rdIns last rj = none → rdFun l = none from fun h => by
        rw [HEQ4.out]
        refine rdBind_none ?_
        rw [HRC.out, HNI.out, rdBind_none h]
        rfl)
      go_wp2_with fail
      refine (ornum_calls b rj wo HRD.out).mono ?_
      rintro e v1 ⟨hq, hk⟩
      rcases hq with ⟨m1, s1, hs, rfl, hrd⟩ | ⟨hs, rfl⟩
      rotate_left
      · exact ⟨rfl, .inr ⟨HBAD.out (rdBind_none hs), rfl⟩, (HKN.out.trans (hk.kn _)).kt⟩
      have HS1 := hid hrd
      have HJ1 := hid hk
      have HI1 := hid (show rdIns last rj = (rdBind rdN fun a => rdBind rdN fun b => rdBind rdN fun c => rdBind rdN fun d => rdPure (⟨m1, a, b, c, w64 (last + d)⟩ : Ins)) s1 from rdBind_some hs)
      clear hrd hk hs
      have HN1 := hid (HKN.out.trans (HJ1.out.kn _))
      have HC1 := hid (HJ1.out.trans (KT.refl _ _ _))
      go_wp2_with fail
      refine (ornum_calls b s1 v1 HS1.out).mono ?_
      rintro e v2 ⟨hq, hk⟩
      rcases hq with ⟨m2, s2, hs, rfl, hrd⟩ | ⟨hs, rfl⟩
      rotate_left
      · exact ⟨rfl, .inr ⟨HBAD.out (HI1.out.trans (rdBind_none hs)), rfl⟩, (HN1.out.trans (hk.kn _)).kt⟩
      have HS2 := hid hrd
      have HJ2 := hid hk
      have HI2 := hid (show rdIns last rj = (rdBind rdN fun b => rdBind rdN fun c => rdBind rdN fun d => rdPure (⟨m1, m2, b, c, w64 (last + d)⟩ : Ins)) s2 from HI1.out.trans (rdBind_some hs))
      clear hrd hk hs
      have HN2 := hid (HN1.out.trans (HJ2.out.kn _))
      have HC2 := hid (HC1.out.trans HJ2.out)
      go_wp2_with fail
      refine (ornum_calls b s2 v2 HS2.out).mono ?_
      rintro e v3 ⟨hq, hk⟩
      rcases hq with ⟨m3, s3, hs, rfl, hrd⟩ | ⟨hs, rfl⟩
      rotate_left
      · exact ⟨rfl, .inr ⟨HBAD.out (HI2.out.trans (rdBind_none hs)), rfl⟩, (HN2.out.trans (hk.kn _)).kt⟩
      have HS3 := hid hrd
      have HJ3 := hid hk
      have HI3 := hid (show rdIns last rj = (rdBind rdN fun c => rdBind rdN fun d => rdPure (⟨m1, m2, m3, c, w64 (last + d)⟩ : Ins)) s3 from HI2.out.trans (rdBind_some hs))
      clear hrd hk hs
      have HN3 := hid (HN2.out.trans (HJ3.out.kn _))
      have HC3 := hid (HC2.out.trans HJ3.out)
      go_wp2_with fail
      refine (ornum_calls b s3 v3 HS3.out).mono ?_
      rintro e v4 ⟨hq, hk⟩
      rcases hq with ⟨m4, s4, hs, rfl, hrd⟩ | ⟨hs, rfl⟩
      rotate_left
      · exact ⟨rfl, .inr ⟨HBAD.out (HI3.out.trans (rdBind_none hs)), rfl⟩, (HN3.out.trans (hk.kn _)).kt⟩
      have HS4 := hid hrd
      have HJ4 := hid hk
      have HI4 := hid (show rdIns last rj = (rdBind rdN fun d => rdPure (⟨m1, m2, m3, m4, w64 (last + d)⟩ : Ins)) s4 from HI3.out.trans (rdBind_some hs))
      clear hrd hk hs
      have HN4 := hid (HN3.out.trans (HJ4.out.kn _))
      have HC4 := hid (HC3.out.trans HJ4.out)
      go_wp2_with fail
      generalize hX : World.alloc _ _ = WI
      have hbx := show BoxAt WI v4.heap.size 57 [.int .i64 m1, .int .i64 m2, .int .i64 m3, .int .i64 m4, .int .i64 0] by rw [← hX]; exact BoxAt.new _ _ _ _ _ rfl rfl
      have HXI := hid hbx
      have HRI := hid (show RdAt b WI s4 by rw [← hX]; exact HS4.out.alloc _)
      have hki := show KT b [64] v4 WI by rw [← hX]; exact KT.alloc _ v4 _ (by have := HS4.out.lt; omega)
      have HCI := hid (HC4.out.trans hki)
      have HNI2 := hid (HN4.out.trans (hki.kn _))
      have HZI := hid (show w.heap.size < v4.heap.size from (HC4.out.box HB.out (by decide)).lt)
      have HWV := hid (show wo.heap.size ≤ v4.heap.size from HC4.out.2.1)
      have HFV := hid (show w3.heap.size < v4.heap.size from (HC4.out.box HF.out (by decide)).lt)
      clear hX hbx hki HS1 HJ1 HI1 HN1 HC1 HS2 HJ2 HI2 HN2 HC2 HS3 HJ3 HI3 HN3 HC3 HS4 HJ4 HN4
      refine (ornum_calls b s4 WI HRI.out).mono ?_
      rintro e v5 ⟨hq, hk⟩
      rcases hq with ⟨m5, s5, hs, rfl, hrd⟩ | ⟨hs, rfl⟩
      rotate_left
      · exact ⟨rfl, .inr ⟨HBAD.out (HI4.out.trans (rdBind_none hs)), rfl⟩, (HNI2.out.trans (hk.kn _)).kt⟩
      have HS5 := hid hrd
      have HJ5 := hid hk
      have HI5 := hid (show rdIns last rj = (rdPure (⟨m1, m2, m3, m4, w64 (last + m5)⟩ : Ins)) s5 from HI4.out.trans (rdBind_some hs))
      clear hrd hk hs
      have HN5 := hid (HNI2.out.trans (HJ5.out.kn _))
      have HC5 := hid (HCI.out.trans HJ5.out)
      have hxb := HJ5.out.box HXI.out (by decide)
      have hfb := HC5.out.box HF.out (by decide)
      have HRB := hid (HC5.out.box HB.out (by decide))
      have HOW5 := hid (HC5.out.own HOW.out (by decide))
      have x0 := hxb.cell 0 _ rfl
      have x1 := hxb.cell 1 _ rfl
      have x2 := hxb.cell 2 _ rfl
      have x3 := hxb.cell 3 _ rfl
      have x4 := hxb.cell 4 _ rfl
      have xz := hxb.lt
      have xf := hxb.frozen 4
      have g3 := hfb.cell 3 _ rfl
      have gz := hfb.lt
      have gf := hfb.frozen 3
      have HXB := hid hxb
      have HFB := hid hfb
      have HV5 := hid (show v4.heap.size < v5.heap.size from xz)
      have HGF := hid (show ∀ w7 : World, ((v5.setCell ⟨v4.heap.size, 4, none⟩ (.int .i64 (wrap64 (last + m5)))).alloc (.cells #[.int .i64 m1, .int .i64 m2, .int .i64 m3, .int .i64 m4, .int .i64 (wrap64 (last + m5))] 57)).grownBy w7 (Value.slice a j c).ownBlock → BoxAt w7 w3.heap.size 55 [.string n1, .int .i64 n2, .int .i64 n3, .slice a j c] ∧ RdAt b w7 s5 ∧ KN b w.heap.size [64] w w7 ∧ BoxAt w7 w.heap.size 55 [.string ⟨#[]⟩, .int .i64 0, .int .i64 0, .slice none 0 0] from by
        intro w7 hg7
        have e1 : w.heap.size < v4.heap.size := HZI.out
        have e2 : w3.heap.size < v4.heap.size := HFV.out
        have e3 : wo.heap.size ≤ v4.heap.size := HWV.out
        have e4 : v4.heap.size < v5.heap.size := xz
        have e5 : b < w.heap.size := HBW.out
        have hne : ∀ k, (Value.slice a j c).ownBlock = some k → k ≠ v4.heap.size := fun k hk => by have := (HOW.out.lt k hk).2; omega
        have ho : OwnE insE w.heap.size 57 ((v5.setCell ⟨v4.heap.size, 4, none⟩ (.int .i64 (wrap64 (last + m5)))).alloc (.cells #[.int .i64 m1, .int .i64 m2, .int .i64 m3, .int .i64 m4, .int .i64 (wrap64 (last + m5))] 57)) (.slice a j c) done := (HOW5.out.other _ _ hne).alloc _
        have hb1 := (HFB.out.other ⟨v4.heap.size, 4, none⟩ (.int .i64 (wrap64 (last + m5))) (by show w3.heap.size ≠ v4.heap.size; omega)).alloc (.cells #[.int .i64 m1, .int .i64 m2, .int .i64 m3, .int .i64 m4, .int .i64 (wrap64 (last + m5))] 57)
        have hb2 := (HRB.out.other ⟨v4.heap.size, 4, none⟩ (.int .i64 (wrap64 (last + m5))) (by show w.heap.size ≠ v4.heap.size; omega)).alloc (.cells #[.int .i64 m1, .int .i64 m2, .int .i64 m3, .int .i64 m4, .int .i64 (wrap64 (last + m5))] 57)
        refine ⟨hb1.only (Only.grown hg7) (hb1.neRow ho (by decide)), ((HS5.out.other _ (by omega)).alloc _).grown ho hg7 e5, ?_, hb2.only (Only.grown hg7) (hb2.neRow ho (by decide))⟩
        exact HN5.out.trans ((KN.store _ (by omega) (by omega) _ _).trans ((KN.alloc _ _ _ (by simp [World.setCell]; omega)).trans (KN.grown ho hg7 (by simp [World.setCell]; omega) (by omega)))))
      clear hxb hfb HI4 HCI
      go_wp2_with (
        at_builtin
        go_loud (refine wpList_append_E insE (o := ⟨some 37, _, _, _, _, _⟩) rfl (.tmp 34) (.tmp 36) 53 rfl w.heap.size w.heap.size 57 _ 40 Try.underlying53 infoIns10 rfl done [⟨m1, m2, m3, m4, wrap64 (last + m5)⟩] ((HOW5.out.other _ _ (fun k hk => by have := (HOW.out.lt k hk).2; have := HWV.out; show k ≠ v4.heap.size; omega)).alloc _) ((OwnE.lit insE _ w.heap.size 57 [⟨m1, m2, m3, m4, wrap64 (last + m5)⟩] _ v5.heap.size 1 (by simp [World.setCell]) (by have := HZI.out; have := HV5.out; omega) rfl rfl (by simp)).sl (Nat.le_refl _) (by simp)) (by have := HCN.out; have := HLE4.out; have := HDL.out; simp; omega) (by have := HCN.out; have := HLE4.out; have := HDL.out; simp only [maxLen]; simp; omega) (by have := HZI.out; have := HV5.out; simp [World.setCell]; omega) ?_)
        intro q7 w7 ho7 hg7
        go_loud (obtain ⟨a7, c7, ha7⟩ := ho7.anySlice)
        go_loud (rw [show (done ++ [(⟨m1, m2, m3, m4, wrap64 (last + m5)⟩ : Ins)]).length = j + 1 by simp [HDL.out]] at ha7)
        subst ha7
        have HO7 := hid ho7
        have HG7 := hid hg7
        have hf7 := HGF.out w7 hg7
        have HR7 := hid (hf7.2.1)
        have HN7 := hid hf7.2.2.1
        have HB7 := hid hf7.2.2.2
        replace hf7 := hf7.1
        have k3 := hf7.cell 3 _ rfl
        have kz := hf7.lt
        have kf := hf7.frozen 3
        have HF7 := hid hf7
        clear ho7 hg7 hf7)
      have e2 : w3.heap.size < v4.heap.size := HFV.out
      have e3 : w.heap.size < w3.heap.size := HZ3.out
      have e5 : b < w.heap.size := HBW.out
      have HJW := hid (show wrap64 ((j : Int) + 1) = ((j + 1 : Nat) : Int) from wrap_succ hlt HCN.out HLE4.out)
      refine ⟨⟨j + 1, wrap64 (last + m5), done ++ [⟨m1, m2, m3, m4, wrap64 (last + m5)⟩], s5, a7, c7, hlt, by rw [HJW.out], rfl, by simp [HDL.out], ?_, HR7.out.other _ (by omega), HB7.out.other _ _ (by show w.heap.size ≠ w3.heap.size; omega), HF7.out.set 3 _, HO7.out.other _ _ (fun k hk => ?_), HN7.out.trans (KN.store _ (by omega) (by omega) _ _)⟩, by rw [HJW.out]; exact meas_lt hlt⟩
      · rw [HRC.out, HNI.out]
        exact code_step HI5.out
      · exact fun e => HO7.out.neBox HF7.out (by decide) k hk (congrArg some e)
    · have hje := hid (show j = n4 by omega)
      have hlt2 : ¬ (j : Int) < n4 := by have := hje.out; omega
      have f0 := HF.out.cell 0 _ rfl
      have f1 := HF.out.cell 1 _ rfl
      have f2 := HF.out.cell 2 _ rfl
      have f3 := HF.out.cell 3 _ rfl
      have b0 := HB.out.cell 0 _ rfl
      have b1 := HB.out.cell 1 _ rfl
      have b2 := HB.out.cell 2 _ rfl
      have b3 := HB.out.cell 3 _ rfl
      have c0 := HB.out.frozen 0
      have c1 := HB.out.frozen 1
      have c2 := HB.out.frozen 2
      have c3 := HB.out.frozen 3
      have cz := HB.out.lt
      go_wp2_with fail
      generalize hR : World.setCell (World.setCell (World.setCell (World.setCell wo _ _) _ _) _ _) _ _ = WR
      have hbr : BoxAt WR w.heap.size 55 [.string n1, .int .i64 n2, .int .i64 n3, .slice a j c] := by rw [← hR]; exact (((HB.out.set 0 (.string n1)).set 1 (.int .i64 n2)).set 2 (.int .i64 n3)).set 3 (.slice a j c)
      have hone : ∀ k u (wa : World), KN b w.heap.size [64] wa (wa.setCell ⟨w.heap.size, k, none⟩ u) := fun k u wa => KN.store _ (Nat.le_of_lt HBW.out) (Nat.le_refl _) _ _
      have hkr : KN b w.heap.size [64] w WR := by rw [← hR]; exact (((HKN.out.trans (hone _ _ _)).trans (hone _ _ _)).trans (hone _ _ _)).trans (hone _ _ _)
      have hor : OwnE insE w.heap.size 57 WR (.slice a j c) done := by
        have hz : ∀ k, (Value.slice a j c).ownBlock = some k → k ≠ w.heap.size := fun k hk e => HOW.out.neBox HB.out (by decide) k hk (congrArg some e)
        rw [← hR]
        exact (((HOW.out.other _ _ hz).other _ _ hz).other _ _ hz).other _ _ hz
      have hrr : RdAt b WR rj := by
        rw [← hR]
        exact (((HRD.out.other _ HBW.out).other _ HBW.out).other _ HBW.out).other _ HBW.out
      clear hR
      refine bodyPost_ret (v := .agg #[.string n1, .int .i64 n2, .int .i64 n3, .slice a j c]) ?_ rfl ⟨.inl ⟨⟨n1, n2, n3, done⟩, rj, ⟨a, j, c⟩, ?_, rfl, hor, hrr⟩, hkr.kt⟩
      · exact results_cell_row (P := Try.prog) rfl _ _ w.heap.size 55 #[.string n1, .int .i64 n2, .int .i64 n3, .slice a j c] (0, 0) _ rfl hbr Try.underlying55 rfl rfl
      · rw [HEQ4.out]
        refine rdBind_some ?_
        rw [HRC.out, hje.out, Nat.sub_self]
        show (rdPure [] rj).map _ = _
        simp [rdPure]

end Go.Proofs.Ytkfpacklpelefaa
