/-
  The writer's numbers and texts, walked.
-/
import Derived.Lib.AppendStr
import Derived.Test.YtkfpacklpelefaaZNum10
namespace Go.Proofs.Ytkfpacklpelefaa
set_option linter.unusedVariables false
set_option linter.unusedSimpArgs false
open Go.RowKit

/-- The writer: a variable with a row of the call's own. -/
def WrAt (base b : Nat) (w : World) (l : List UInt8) : Prop := ∃ v, BoxAt w b 47 [v] ∧ OwnM base w v l ∧ base ≤ b
def WrO (base b : Nat) (w : World) (l : List UInt8) : Prop := ∃ v, BoxAt w b 47 [v] ∧ OwnE byteE base 5 w v l ∧ base ≤ b
theorem WrO.at {base b : Nat} {w : World} {l : List UInt8} (h : WrO base b w l) : WrAt base b w l := by
  obtain ⟨v, h1, h2, h3⟩ := h
  exact ⟨v, h1, .inl h2, h3⟩
theorem or128 (x : Nat) (h : x < 256) : x ||| 128 = x % 128 + 128 := by
  by_cases h1 : x < 128
  · have := Nat.two_pow_add_eq_or_of_lt (i := 7) (b := x) (by simpa using h1) 1
    rw [Nat.or_comm]
    simp at this
    omega
  · have h2 := Nat.two_pow_add_eq_or_of_lt (i := 7) (b := x - 128) (by simp; omega) 1
    simp at h2
    rw [show x = 128 + (x - 128) by omega, h2, Nat.or_comm, ← Nat.or_assoc, Nat.or_self, ← h2]
    omega
theorem bits_or8 (a b : Nat) (ha : a < 256) (hb : b < 256) : bits .or .u8 (a : Int) (b : Int) = ((a ||| b : Nat) : Int) := by
  show IntKind.u8.wrap (((BitVec.ofInt 8 (a : Int)) ||| (BitVec.ofInt 8 (b : Int))).toNat : Int) = _
  rw [BitVec.ofInt_natCast, BitVec.ofInt_natCast, BitVec.toNat_or, BitVec.toNat_ofNat, BitVec.toNat_ofNat, Nat.mod_eq_of_lt (by simpa using ha), Nat.mod_eq_of_lt (by simpa using hb)]
  have : a ||| b < 2 ^ 8 := Nat.or_lt_two_pow (by simpa using ha) (by simpa using hb)
  exact IntWalk.u8_in _ (by omega)

set_option maxRecDepth 100000 in
set_option maxHeartbeats 4000000 in
theorem onum_calls (base b : Nat) (l : List UInt8) (n : Int) (w : World) (h : WrAt base b w l) (hn : I64 n) (hl : l.length ≤ 1000000000000) (hb : base ≤ w.heap.size) :
    Calls Try.prog 25 #[.pointer (some ⟨b, 0, none⟩), .int .i64 n] w fun e w' => e = .returned (.tuple #[]) ∧ WrO base b w' (l ++ encN n) ∧ KT base [47, 5] w w' := by
  have HO := hid h
  have hz := zig_lt n hn
  have HU := hid hz
  clear h hz
  by_cases h0 : n < 0
  all_goals
    have H0 := hid h0
    go_enter Try.func25, Try.ntmps25
    go_wp2_with fail
    first | rw [zig_neg n hn H0.out] | rw [zig_pos n hn (Int.not_lt.2 H0.out)]
    go_loopw [4] (fun uv wr => ∃ (u : Nat) (d : List UInt8), u < 2 ^ 64 ∧ uv = .int .u64 u ∧ WrAt base b wr (l ++ d) ∧ d ++ numL u = encN n ∧ KT base [47, 5] w wr ∧ d.length ≤ 10) (fun uv _ => (intOf uv).toNat)
    case atStart => exact ⟨zig n, [], HU.out, rfl, by rw [List.append_nil]; exact HO.out, rfl, KT.refl _ _ _, by simp⟩
    case round =>
      obtain ⟨u, d, hu, rfl, hwr, hd, hk, hdl⟩ := hrel
      obtain ⟨wo, hwo⟩ : ∃ wo, wo = wr := ⟨_, rfl⟩
      subst hwo
      obtain ⟨v, hbox, hown, hbb⟩ := hwr
      obtain ⟨L, hL⟩ : ∃ L, l ++ d = L := ⟨_, rfl⟩
      have HL := hid hL
      have HLL := hid (show L.length ≤ 1000000000010 by rw [← hL, List.length_append]; omega)
      rw [hL] at hown
      clear hL
      obtain ⟨va, vc, rfl⟩ := hown.anySlice
      have HBOX := hid hbox
      have HOW := hid hown
      have HBB := hid hbb
      have HD := hid hd
      have HK := hid hk
      have HBW := hid (hk.lt hb)
      have c0 := hbox.cell 0 _ rfl
      have z0 := hbox.lt
      clear hown hd hk HO HU hbox hbb
      by_cases hlt : u < 128
      · have hlt2 : ¬ (128 : Int) ≤ (u : Int) := by omega
        have HNL := hid (numL_small u hlt)
        go_wp2_with (
          at_builtin
          go_loud (
            refine wpList_append_M (o := ⟨some 36, _, _, _, _, _⟩) rfl (.tmp 32) (.tmp 35) rfl base wo.heap.size L [UInt8.ofNat u] (by simp) (HOW.out.alloc _) ((OwnE.lit byteE wo wo.heap.size 5 [UInt8.ofNat u] #[.int .u8 (u : Int)] wo.heap.size 1 rfl (Nat.le_refl _) rfl (lit_byte _ _ (by rw [ofNat_lt _ (by omega)])) (by simp)).sl (Nat.le_refl _) (by simp)) (by have := HLL.out; simp; omega) (by have := HBW.out; simp; omega) ?_
            intro v3 w3 ho3 hkt3
            have hkt4 := (KT.alloc [5] wo (Obj.cells #[.int .u8 (u : Int)] 5) HBW.out).trans hkt3
            have hbox3 := hkt4.box HBOX.out (by decide)
            obtain ⟨a3, e3, e⟩ := ho3.anySlice
            rw [List.length_append, List.length_singleton] at e
            subst e
            have c3 := hbox3.cell 0 _ rfl
            have z3 := hbox3.lt
            have f3 := hbox3.frozen 0
            clear hkt3))
        have hkt := (HK.out.trans (hkt4.more (by simp))).trans (KT.store (S := [47, 5]) hbox3 (by simp) HBB.out 0 (.slice a3 (L.length + 1) e3))
        go_end0
        refine ⟨rfl, ⟨_, hbox3.set 0 (.slice a3 (L.length + 1) e3), ?_, HBB.out⟩, hkt⟩
        rw [← HD.out, HNL.out, ← List.append_assoc, HL.out]
        exact ho3.other _ _ fun k hk e => ho3.neBox hbox3 (by decide) k hk (by rw [e])
      · have hlt2 : (128 : Int) ≤ (u : Int) := by omega
        have HNL := hid (numL_big u hlt)
        have hor : bits .or .u8 ((u : Int) % 256) 128 = (((UInt8.ofNat (u % 128 + 128)).toNat : Nat) : Int) := by
          have := bits_or8 (u % 256) 128 (by omega) (by omega)
          rw [or128 _ (by omega)] at this
          rw [ofNat_lt _ (by omega)]
          rw [show ((u : Int) % 256) = ((u % 256 : Nat) : Int) by omega]
          exact this.trans (by omega)
        go_wp2_with (
          at_builtin
          go_loud (
            refine wpList_append_M (o := ⟨some 25, _, _, _, _, _⟩) rfl (.tmp 20) (.tmp 24) rfl base wo.heap.size L [UInt8.ofNat (u % 128 + 128)] (by simp) (HOW.out.alloc _) ((OwnE.lit byteE wo wo.heap.size 5 [UInt8.ofNat (u % 128 + 128)] #[.int .u8 (((u : Int) % 128 + 128) % 256)] wo.heap.size 1 rfl (Nat.le_refl _) rfl (lit_byte _ _ (by rw [ofNat_lt _ (by omega)]; omega)) (by simp)).sl (Nat.le_refl _) (by simp)) (by have := HLL.out; simp; omega) (by have := HBW.out; simp; omega) ?_
            intro v3 w3 ho3 hkt3
            have hkt4 := (KT.alloc [5] wo (Obj.cells #[.int .u8 (((u : Int) % 128 + 128) % 256)] 5) HBW.out).trans hkt3
            have hbox3 := hkt4.box HBOX.out (by decide)
            obtain ⟨a3, e3, e⟩ := ho3.anySlice
            rw [List.length_append, List.length_singleton] at e
            subst e
            have c3 := hbox3.cell 0 _ rfl
            have z3 := hbox3.lt
            have f3 := hbox3.frozen 0
            clear hkt3))
        have hkt := (HK.out.trans (hkt4.more (by simp))).trans (KT.store (S := [47, 5]) hbox3 (by simp) HBB.out 0 (.slice a3 (L.length + 1) e3))
        refine ⟨⟨u / 128, d ++ [UInt8.ofNat (u % 128 + 128)], by omega, by go_num, ⟨_, hbox3.set 0 (.slice a3 (L.length + 1) e3), ?_, HBB.out⟩, ?_, hkt, ?_⟩, by simp [intOf] <;> omega⟩
        · rw [← List.append_assoc, HL.out]
          exact .inl <| ho3.other _ _ fun k hk e => ho3.neBox hbox3 (by decide) k hk (by rw [e])
        · rw [← HD.out, HNL.out, List.append_assoc]
          rfl
        · have h1 := congrArg List.length HD.out
          have h2 := encN_le n hn
          rw [HNL.out, List.length_append, List.length_cons] at h1
          rw [List.length_append, List.length_singleton]
          omega

end Go.Proofs.Ytkfpacklpelefaa

/-
  Texts are written, walked.
-/
namespace Go.Proofs.Ytkfpacklpelefaa
set_option linter.unusedVariables false
set_option linter.unusedSimpArgs false
open Go.RowKit

theorem strBytes (s : ByteArray) : Go.Lib.strCells s = s.data.toList.flatMap byteE.enc := by
  unfold Go.Lib.strCells
  induction s.data.toList with
  | nil => rfl
  | cons x l ih => rw [List.map_cons, List.flatMap_cons, ih]; rfl
theorem infoByte2 : ∃ i, Try.prog.info? 5 = some i ∧ i.zero = some (.int .u8 0) ∧ i.size = 1 ∧ i.bytes = 1 := by
  obtain ⟨i, hi, hp⟩ := Option.map_eq_some_iff.1 infoByte
  simp only [Prod.mk.injEq] at hp
  exact ⟨i, hi, hp.1, hp.2.1, hp.2.2⟩
/-- append of a string onto a row of bytes. -/
theorem wpList_append_text {w : World} {ops : Array Oper} {rest : List Oper} {o : Oper} {a : Act} {Q : Exit → Act → World → Prop} (hgd : o.guard = none) (sl x : Operand)
    (ho : o.op = .call { callee := .builtin .append, args := #[sl, x], argTypes := #[22, 9] }) (base : Nat) (l : List UInt8) (hown : OwnE byteE base 5 w (a.eval sl) l) (s : ByteArray) (hx : a.eval x = .string s)
    (hb : l.length + s.data.toList.length ≤ 140737488355328) (hbase : base ≤ w.heap.size)
    (h : ∀ v' w', OwnE byteE base 5 w' v' (l ++ s.data.toList) → w.grownBy w' (a.eval sl).ownBlock → wpList Try.prog ops Q rest (a.put o.dst v') w') : wpList Try.prog ops Q (o :: rest) a w := by
  obtain ⟨i, hi, h1, h2, h3⟩ := infoByte2
  have hs : s.size = s.data.toList.length := by simp
  refine Go.Lib.wpList_append_own_string w hgd sl x 22 9 ho base 5 i Try.underlying22 Try.underlying9 hi h1 h2 h3 _ l.length (l.flatMap byteE.enc) rfl hown s hx (by simp only [maxLen]; omega) (by omega) hbase ?_
  intro v' w' hr hg _
  refine h v' w' ?_ hg
  unfold OwnE
  rw [List.flatMap_append, ← strBytes, List.length_append, ← hs]
  exact hr

set_option maxRecDepth 100000 in
set_option maxHeartbeats 2000000 in
theorem rtext_calls (base : Nat) (v : Value) (l : List UInt8) (s : ByteArray) (w : World) (h : OwnM base w v l) (hs : s.size ≤ 140737488355328 / 2) (hl : l.length ≤ 1000000000000) (hb : base ≤ w.heap.size) :
    Calls Try.prog 31 #[v, .string s] w fun e w' => ∃ v', e = .returned v' ∧ OwnE byteE base 5 w' v' (l ++ encT s) ∧ KT base [5] w w' := by
  have HO := hid h
  have hsz : s.data.toList.length = s.size := by simp
  have HSZ := hid hsz
  clear h hsz
  go_enter Try.func31, Try.ntmps31
  go_wp2_with fail
  refine (rnumber_calls base v l (s.size : Nat) w HO.out (by unfold I64; omega) hl hb).mono ?_
  rintro e w1 ⟨v1, rfl, ho1, hk1⟩
  have HO1 := hid ho1
  have HK1 := hid hk1
  have h10 := encN_le (s.size : Nat) (by unfold I64; omega)
  have HLE := hid h10
  clear ho1 hk1 h10
  go_wp2_with (
    at_builtin
    go_loud (
      refine wpList_append_text rfl _ _ rfl base (l ++ encN (s.size : Nat)) HO1.out s rfl (by have := HLE.out; have := HSZ.out; rw [List.length_append]; omega) (HK1.out.lt hb) ?_
      intro v2 w2 ho2 hg2
      have HO2 := hid ho2
      have HK2 := hid (HK1.out.trans (KT.grown (S := [5]) HO1.out (by simp) hg2 (HK1.out.lt hb)))
      clear ho2 hg2))
  go_ret
  refine ⟨_, rfl, ?_, HK2.out⟩
  have h := HO2.out
  unfold encT
  rw [HSZ.out, ← List.append_assoc]
  exact h

set_option maxRecDepth 100000 in
set_option maxHeartbeats 2000000 in
theorem otext_calls (base b : Nat) (l : List UInt8) (s : ByteArray) (w : World) (h : WrAt base b w l) (hs : s.size ≤ 140737488355328 / 2) (hl : l.length ≤ 1000000000000) (hb : base ≤ w.heap.size) :
    Calls Try.prog 26 #[.pointer (some ⟨b, 0, none⟩), .string s] w fun e w' => e = .returned (.tuple #[]) ∧ WrO base b w' (l ++ encT s) ∧ KT base [47, 5] w w' := by
  have HO := hid h
  have hsz : s.data.toList.length = s.size := by simp
  have HSZ := hid hsz
  clear h hsz
  go_enter Try.func26, Try.ntmps26
  go_wp2_with fail
  refine (onum_calls base b l (s.size : Nat) w HO.out (by unfold I64; omega) hl hb).mono ?_
  rintro e w1 ⟨rfl, ⟨v1, hbox, hown, hbb⟩, hk1⟩
  obtain ⟨L, hL⟩ : ∃ L, l ++ encN (s.size : Nat) = L := ⟨_, rfl⟩
  have HL := hid hL
  have h10 := encN_le (s.size : Nat) (by unfold I64; omega)
  have HLL := hid (show L.length ≤ 1000000000010 by rw [← hL, List.length_append]; omega)
  rw [hL] at hown
  clear hL h10
  obtain ⟨va, vc, rfl⟩ := hown.anySlice
  have HBOX := hid hbox
  have HOW := hid hown
  have HBB := hid hbb
  have HK1 := hid hk1
  have c0 := hbox.cell 0 _ rfl
  have z0 := hbox.lt
  clear hbox hown hbb hk1
  go_wp2_with (
    at_builtin
    go_loud (
      refine wpList_append_text rfl _ _ rfl base L HOW.out s rfl (by have := HLL.out; have := HSZ.out; omega) (HK1.out.lt hb) ?_
      intro v2 w2 ho2 hg2
      have hkt2 := KT.grown (S := [5]) HOW.out (by simp) hg2 (HK1.out.lt hb)
      have hbox2 := hkt2.box HBOX.out (by decide)
      obtain ⟨a3, e3, e⟩ := ho2.anySlice
      rw [List.length_append, HSZ.out] at e
      subst e
      have c3 := hbox2.cell 0 _ rfl
      have z3 := hbox2.lt
      have f3 := hbox2.frozen 0
      clear hg2))
  go_end0
  refine ⟨rfl, ⟨_, hbox2.set 0 (.slice a3 (L.length + s.size) e3), ?_, HBB.out⟩, (HK1.out.trans (hkt2.more (by simp))).trans (KT.store (S := [47, 5]) hbox2 (by simp) HBB.out 0 _)⟩
  unfold encT
  rw [HSZ.out, ← List.append_assoc, HL.out]
  exact ho2.other _ _ fun k hk e => ho2.neBox hbox2 (by decide) k hk (by rw [e])

end Go.Proofs.Ytkfpacklpelefaa
