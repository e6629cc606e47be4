/-
  A row of bytes of the call's own, or the row of a constant string: full, and marked behind its end.
-/
import Derived.Lib.SlBytesConst
import Derived.Test.YtkfpacklpelefaaZBytes
import Derived.Test.YtkfpacklpelefaaZKeepT
import Derived.Test.YtkfpacklpelefaaZSizes10
namespace Go.Proofs.Ytkfpacklpelefaa
set_option linter.unusedVariables false
set_option linter.unusedSimpArgs false
open Go.RowKit

theorem infoByte : (Try.prog.info? 5).map (fun i => (i.zero, i.size, i.bytes)) = some (some (.int .u8 0), byteE.sz, 1) := by kernel_rfl
def FullM (base : Nat) (w : World) (v : Value) (l : List UInt8) : Prop := ∃ g cur fz, v = .slice (some ⟨g, 0, none⟩) l.length l.length ∧ base ≤ g ∧ w.heap[g]? = some (Obj.cells cur 5 fz) ∧ cur.toList = l.flatMap byteE.enc
def OwnM (base : Nat) (w : World) (v : Value) (l : List UInt8) : Prop := OwnE byteE base 5 w v l ∨ FullM base w v l

theorem OwnM.lt {base : Nat} {w : World} {v : Value} {l : List UInt8} (h : OwnM base w v l) (k : Nat) (hk : v.ownBlock = some k) : base ≤ k ∧ k < w.heap.size ∧ ∃ cur fz, w.heap[k]? = some (Obj.cells cur 5 fz) := by
  rcases h with h | ⟨g, cur, fz, rfl, hb, hg, _⟩
  · obtain ⟨cur, hc⟩ := h.typed k hk
    exact ⟨(h.lt k hk).1, (h.lt k hk).2, cur, _, hc⟩
  · have e : g = k := by simpa [Value.ownBlock] using hk
    subst e
    exact ⟨hb, (Array.getElem?_eq_some_iff.1 hg).1, cur, fz, hg⟩
theorem OwnM.ofBlock {base : Nat} {w w' : World} {v : Value} {l : List UInt8} (h : OwnM base w v l) (hb : ∀ k, v.ownBlock = some k → w'.heap[k]? = w.heap[k]?) : OwnM base w' v l := by
  rcases h with h | ⟨g, cur, fz, rfl, hbg, hg, hl⟩
  · exact .inl (h.ofBlock hb)
  · exact .inr ⟨g, cur, fz, rfl, hbg, (hb g rfl).trans hg, hl⟩
theorem OwnM.alloc {base : Nat} {w : World} {v : Value} {l : List UInt8} (h : OwnM base w v l) (o : Obj) : OwnM base (w.alloc o) v l :=
  h.ofBlock fun k hk => ((Below.refl _ _).alloc (Nat.le_refl _) o).block k (h.lt k hk).2.1
theorem OwnM.anySlice {base : Nat} {w : World} {v : Value} {l : List UInt8} (h : OwnM base w v l) : ∃ a c, v = .slice a l.length c := by
  rcases h with h | ⟨g, cur, fz, rfl, _⟩
  · exact h.anySlice
  · exact ⟨_, _, rfl⟩
theorem OwnM.neBox {base : Nat} {w : World} {v : Value} {l : List UInt8} {b : Nat} {t : TypeId} {vs : List Value} (h : OwnM base w v l) (hb : BoxAt w b t vs) (hne : 5 ≠ t) (k : Nat) (hk : v.ownBlock = some k) : k ≠ b := by
  intro e
  subst e
  obtain ⟨_, _, cur, fz, hc⟩ := h.lt k hk
  unfold BoxAt at hb
  rw [hc] at hb
  simp at hb
  exact hne hb.2.1
theorem KT.grownM {base : Nat} {S : List TypeId} {w w' : World} {v : Value} {l : List UInt8} (ho : OwnM base w v l) (he : 5 ∈ S) (hg : w.grownBy w' v.ownBlock) (hb : base ≤ w.heap.size) : KT base S w w' := by
  refine ⟨(Below.refl _ _).grown hg hb fun k hk => (ho.lt k hk).1, hg.size, fun k cur t hk ht => hg.block k (Array.getElem?_eq_some_iff.1 hk).1 fun e2 => ?_⟩
  obtain ⟨_, _, cur', fz, h⟩ := ho.lt k e2.symm
  rw [hk] at h
  simp at h
  exact ht (h.2.1 ▸ he)
theorem flatB_len (l : List UInt8) : (l.flatMap byteE.enc).length = l.length := by rw [flatMap_length]; show l.length * 1 = _; omega

/-- append of one byte, or of more. -/
theorem run_append_M {P : Program} (w : World) (base lo : Nat) (t ty : TypeId) (ht : P.underlying t = some (.slice 5)) (hinfo : (P.info? 5).map (fun i => (i.zero, i.size, i.bytes)) = some (some (.int .u8 0), byteE.sz, 1))
    (v : Value) (l : List UInt8) (hown : OwnM base w v l) (vx : Value) (r : List UInt8) (hr0 : 0 < r.length) (hsrc : SlE byteE lo w vx r) (hb : l.length + r.length ≤ 140737488355328) (hbase : base ≤ w.heap.size) :
    ∃ v' w', (Builtin.append_ #[t, t] ty #[v, vx]).run P w = .ok v' w' ∧ OwnE byteE base 5 w' v' (l ++ r) ∧ KT base [5] w w' := by
  rcases hown with hown | ⟨g, cur, fz, rfl, hbg, hg, hl⟩
  · obtain ⟨v', w', h1, h2, h3, _⟩ := run_append_E (P := P) byteE w base lo t ty 5 (.int .u8 0) 1 ht hinfo rfl v l hown vx r hsrc (by omega) (by simp only [maxLen]; omega) hbase
    exact ⟨v', w', h1, h2, KT.grown hown (by simp) h3 hbase⟩
  · obtain ⟨ao, c, rfl, hnone, hc⟩ := hsrc.cells
    cases ao with
    | none => have := (hnone rfl).1; omega
    | some ad =>
      obtain ⟨i, hi, hp⟩ := Option.map_eq_some_iff.1 hinfo
      simp only [Prod.mk.injEq] at hp
      obtain ⟨hz0, hz1, hz2⟩ := hp
      have hs1 : i.size = 1 := hz1
      have holds : ∀ j u, (l.flatMap byteE.enc)[j]? = some u → w.cell? ((⟨g, 0, none⟩ : Addr).add j) = some u := by
        intro j u hu
        rw [← hl] at hu
        rw [Addr.add_lit, Nat.zero_add]
        simp only [World.cell?, hg]
        simpa using hu
      have hrun := run_append_grow (P := P) w t ty 5 i (.int .u8 0) ht hi hz0 ⟨g, 0, none⟩ l.length l.length (l.flatMap byteE.enc) (by rw [flatB_len, hs1]; omega) holds ad r.length c (r.flatMap byteE.enc) (by rw [flatB_len, hs1]; omega) (hc ad rfl) (by omega) (by omega) (growslice_fits (by omega) (by rw [hz2]; omega))
      have hge := grownCap_ge w (l.length + r.length) l.length 5
      have hcm : grownCap w (l.length + r.length) l.length 5 ≤ maxLen := grownCap_le_maxLen w _ _ _ (by simp only [maxLen]; omega)
      refine ⟨_, _, hrun, ?_, ?_⟩
      · refine ⟨flatMap_length _ _, .inr ⟨w.heap.size, _, _, by rw [List.length_append], hbase, heap_alloc_new w.drew _, by rw [List.length_append]; exact hge, hcm, ?_, ?_⟩⟩
        · simp only [Array.size_append, List.size_toArray, size_zeroCells, flatB_len]
          show l.length + r.length + (_ - _) * 1 = _ * 1
          omega
        · simp only [Array.toList_append, List.append_assoc]
          rw [← List.append_assoc, ← List.flatMap_append, show (l ++ r).length * byteE.sz = ((l ++ r).flatMap byteE.enc).length from (flatMap_length byteE (l ++ r)).symm]
          exact List.take_left
      · exact (KT.drew _ w hbase).trans (KT.alloc _ w.drew _ hbase)
/-- append of one byte, at the operation. -/
theorem wpList_append_M {w : World} {ops : Array Oper} {rest : List Oper} {o : Oper} {a : Act} {Q : Exit → Act → World → Prop} (hgd : o.guard = none) (s x : Operand)
    (ho : o.op = .call { callee := .builtin .append, args := #[s, x], argTypes := #[22, 22] })
    (base lo : Nat) (l r : List UInt8) (hr0 : 0 < r.length) (hown : OwnM base w (a.eval s) l) (hsrc : SlE byteE lo w (a.eval x) r) (hb : l.length + r.length ≤ 140737488355328) (hbase : base ≤ w.heap.size)
    (hK : ∀ v' w', OwnE byteE base 5 w' v' (l ++ r) → KT base [5] w w' → wpList Try.prog ops Q rest (a.put o.dst v') w') : wpList Try.prog ops Q (o :: rest) a w := by
  refine wpList_plain hgd fun K hK' => ?_
  obtain ⟨v', w', h1, h2, h3⟩ := run_append_M (P := Try.prog) w base lo 22 o.type Try.underlying22 infoByte _ l hown _ r hr0 hsrc hb hbase
  unfold Oper.wp
  simp [execOp, ho, resolve, invoke, builtin, h1, Result.andThen]
  exact hK' _ _ (hK v' w' h2 h3)

end Go.Proofs.Ytkfpacklpelefaa

/-
  Numbers are written, walked.
-/
namespace Go.Proofs.Ytkfpacklpelefaa
set_option linter.unusedVariables false
set_option linter.unusedSimpArgs false
open Go.RowKit

theorem lit_byte (c : UInt8) (x : Int) (h : x = (c.toNat : Nat)) : #[Value.int .u8 x].toList = [c].flatMap byteE.enc := by subst h; rfl
theorem u64w (x : Int) : IntKind.u64.wrap x = x % 18446744073709551616 := IntKind.wrap_u64 x
theorem numL_le : ∀ (k u : Nat), u < 2 ^ (7 * (k + 1)) → (numL u).length ≤ k + 1
  | 0, u, h => by rw [numL_small u (by simpa using h)]; simp
  | k + 1, u, h => by
    by_cases hu : u < 128
    · rw [numL_small u hu]; simp
    · rw [numL_big u hu, List.length_cons]
      have hp : 2 ^ (7 * (k + 1 + 1)) = 2 ^ (7 * (k + 1)) * 128 := by
        rw [show (128 : Nat) = 2 ^ 7 from rfl, ← Nat.pow_add]
        congr 1
      have := numL_le k (u / 128) (by rw [hp] at h; exact (Nat.div_lt_iff_lt_mul (by decide)).2 h)
      omega
theorem encN_le (n : Int) (h : I64 n) : (encN n).length ≤ 10 := by
  have h1 := zig_lt n h
  exact numL_le 9 (zig n) (Nat.lt_of_lt_of_le h1 (Nat.pow_le_pow_right (by decide) (by decide)))
theorem zig_pos (n : Int) (hn : I64 n) (h0 : ¬ n < 0) : IntKind.u64.wrap (IntKind.u64.wrap n * 2) = (zig n : Nat) := by
  unfold I64 at hn
  unfold zig
  rw [u64w, u64w, if_neg h0]
  omega
theorem xor_max (x : Nat) (h : x < 18446744073709551616) : bits .xor .u64 IntKind.u64.max (x : Int) = ((18446744073709551615 - x : Nat) : Int) := by
  show IntKind.u64.wrap (((BitVec.ofInt 64 IntKind.u64.max) ^^^ (BitVec.ofInt 64 (x : Int))).toNat : Int) = _
  rw [BitVec.ofInt_natCast, show BitVec.ofInt 64 IntKind.u64.max = BitVec.allOnes 64 from by decide, BitVec.allOnes_xor, BitVec.toNat_not, BitVec.toNat_ofNat, u64w]
  omega
theorem zig_neg (n : Int) (hn : I64 n) (h0 : n < 0) : bits .xor .u64 IntKind.u64.max (IntKind.u64.wrap (IntKind.u64.wrap n * 2)) = (zig n : Nat) := by
  have h1 : IntKind.u64.wrap (IntKind.u64.wrap n * 2) = (((18446744073709551616 + 2 * n).toNat % 18446744073709551616 : Nat) : Int) := by
    unfold I64 at hn
    rw [u64w, u64w]
    omega
  rw [h1, xor_max _ (by omega)]
  unfold I64 at hn
  unfold zig
  rw [if_pos h0]
  omega

set_option maxRecDepth 100000 in
set_option maxHeartbeats 4000000 in
theorem rnumber_calls (base : Nat) (v : Value) (l : List UInt8) (n : Int) (w : World) (h : OwnM base w v l) (hn : I64 n) (hl : l.length ≤ 1000000000000) (hb : base ≤ w.heap.size) :
    Calls Try.prog 30 #[v, .int .i64 n] w fun e w' => ∃ v', e = .returned v' ∧ OwnE byteE base 5 w' v' (l ++ encN n) ∧ KT base [5] w w' := by
  have HO := hid h
  have hz := zig_lt n hn
  have HU := hid hz
  clear h hz
  by_cases h0 : n < 0
  all_goals
    have H0 := hid h0
    go_enter Try.func30, Try.ntmps30
    go_wp2_with fail
    first | rw [zig_neg n hn H0.out] | rw [zig_pos n hn (Int.not_lt.2 H0.out)]
    go_loopw [0, 5] (fun bv uv wr => ∃ (u : Nat) (d : List UInt8), u < 2 ^ 64 ∧ uv = .int .u64 u ∧ OwnM base wr bv (l ++ d) ∧ d ++ numL u = encN n ∧ KT base [5] w wr ∧ d.length ≤ 10) (fun _ uv _ => (intOf uv).toNat)
    case atStart => exact ⟨zig n, [], HU.out, rfl, by rw [List.append_nil]; exact HO.out, rfl, KT.refl _ _ _, by simp⟩
    case round =>
      obtain ⟨u, d, hu, rfl, hown, hd, hk, hdl⟩ := hrel
      obtain ⟨wo, hwo⟩ : ∃ wo, wo = wr := ⟨_, rfl⟩
      subst hwo
      have HOW := hid hown
      have HD := hid hd
      have HK := hid hk
      have HBW := hid (hk.lt hb)
      clear hown hd hk HO HU
      by_cases hlt : u < 128
      · have hlt2 : ¬ (128 : Int) ≤ (u : Int) := by omega
        have hbyte : IntKind.u8.wrap (u : Int) = ((UInt8.ofNat u).toNat : Nat) := by rw [ofNat_lt u (by omega)]; exact IntWalk.u8_in _ (by omega)
        have HNL := hid (numL_small u hlt)
        go_wp2_with (
          at_builtin
          go_loud (
            refine wpList_append_M (o := ⟨some 28, _, _, _, _, _⟩) rfl (.tmp 24) (.tmp 27) rfl base wo.heap.size (l ++ d) [UInt8.ofNat u] (by simp) (HOW.out.alloc _) ((OwnE.lit byteE wo wo.heap.size 5 [UInt8.ofNat u] _ wo.heap.size 1 rfl (Nat.le_refl _) rfl rfl (by simp)).sl (Nat.le_refl _) (by simp)) (by simp; omega) (by have := HBW.out; simp; omega) ?_
            intro v3 w3 ho3 hkt3))
        have hkt := HK.out.trans ((KT.alloc [5] wo (Obj.cells #[.int .u8 ((u : Int) % 256)] 5) HBW.out).trans hkt3)
        rw [List.append_assoc] at ho3
        rw [← HD.out, HNL.out]
        go_ret
        exact ⟨_, rfl, ho3, hkt⟩
      · have hlt2 : (128 : Int) ≤ (u : Int) := by omega
        have HNL := hid (numL_big u hlt)
        go_wp2_with (
          at_builtin
          go_loud (
            refine wpList_append_M (o := ⟨some 21, _, _, _, _, _⟩) rfl (.tmp 15) (.tmp 20) rfl base wo.heap.size (l ++ d) [UInt8.ofNat (u % 128 + 128)] (by simp) (HOW.out.alloc _) ((OwnE.lit byteE wo wo.heap.size 5 [UInt8.ofNat (u % 128 + 128)] #[.int .u8 ((u : Int) % 128 + 128)] wo.heap.size 1 rfl (Nat.le_refl _) rfl (lit_byte _ _ (by rw [ofNat_lt _ (by omega)]; omega)) (by simp)).sl (Nat.le_refl _) (by simp)) (by simp; omega) (by have := HBW.out; simp; omega) ?_
            intro v3 w3 ho3 hkt3))
        have hkt := HK.out.trans ((KT.alloc [5] wo (Obj.cells #[.int .u8 ((u : Int) % 128 + 128)] 5) HBW.out).trans hkt3)
        rw [List.append_assoc] at ho3
        refine ⟨⟨u / 128, d ++ [UInt8.ofNat (u % 128 + 128)], by omega, by go_num, .inl ho3, ?_, hkt, ?_⟩, by simp [intOf] <;> omega⟩
        · rw [← HD.out, HNL.out, List.append_assoc]
          rfl
        · have h1 := congrArg List.length HD.out
          have h2 := encN_le n hn
          rw [HNL.out, List.length_append, List.length_cons] at h1
          rw [List.length_append, List.length_singleton]
          omega

end Go.Proofs.Ytkfpacklpelefaa
