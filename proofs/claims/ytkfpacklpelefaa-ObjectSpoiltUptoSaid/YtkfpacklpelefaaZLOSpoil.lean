/-
  The law ObjectSpoilt, walked.
-/
import Derived.Test.YtkfpacklpelefaaZLaw10
namespace Go.Proofs.Ytkfpacklpelefaa
set_option linter.unusedVariables false
set_option linter.unusedSimpArgs false
open Go.RowKit

/-- A byte is changed. -/
theorem own_put {base : Nat} {w : World} {v : Value} {l : List UInt8} (h : OwnE byteE base 5 w v l) (i : Nat) (hi : i < l.length) (hn : l.length ≤ 1000000000) : ∃ g c, v = .slice (some ⟨g, 0, none⟩) l.length c ∧ base ≤ g ∧ g < w.heap.size ∧ w.cell? ⟨g, i, none⟩ = some (.int .u8 ((nth l i).toNat : Nat)) ∧ w.frozen? ⟨g, i, none⟩ = false ∧ l.length ≤ c ∧
    ∀ d : UInt8, BytesAt base (w.setCell ⟨g, i, none⟩ (.int .u8 (d.toNat : Nat))) (.slice (some ⟨g, 0, none⟩) l.length c) (l.set i d) := by
  have hs := h.sl (Nat.le_refl _) (by omega)
  rcases h.2 with ⟨h0, h1⟩ | ⟨g, cap, cur, hv, hbg, hg, hnc, hcm, hcs, ht⟩
  · omega
  subst hv
  have hb := BytesAt.open hs
  obtain ⟨a', c', b, o, he, p1, p2, p3, p4, p5, p6, p7⟩ := hb
  obtain ⟨rfl, _, rfl⟩ := Value.slice.inj he
  have e := p1 (by omega)
  simp only [Option.some.injEq, Addr.mk.injEq] at e
  obtain ⟨rfl, rfl, _⟩ := e
  refine ⟨g, cap, rfl, hbg, p3 (by omega), by have := p2 i hi; rwa [Nat.zero_add] at this, ?_, hnc, fun d => ?_⟩
  · simp [World.frozen?, hg]
  · have hl : (l.set i d).length = l.length := by simp
    refine ⟨_, cap, g, 0, by rw [hl], (fun h => by cases h), fun h0 => ⟨rfl, hbg⟩, fun j k hj hk => ?_, by omega, p6, by omega⟩
    obtain rfl : k = 0 := by have : k < 1 := hk; omega
    rw [hl] at hj
    show World.cell? _ ⟨g, 0 + j * 1 + 0, none⟩ = some (Value.int .u8 ((nth (l.set i d) j).toNat : Nat))
    rw [show 0 + j * 1 + 0 = j by omega]
    by_cases hji : j = i
    · subst hji
      have hc := p2 j hi
      rw [Nat.zero_add] at hc
      rw [World.cell?_setCell_same (w := w) (a := ⟨g, j, none⟩) (v := .int .u8 (d.toNat : Nat)) hc]
      have : nth (l.set j d) j = d := by unfold nth; rw [List.getD_eq_getElem?_getD, List.getElem?_set_self hi]; rfl
      rw [this]
    · have hc := p2 j hj
      rw [Nat.zero_add] at hc
      rw [World.cell?_setCell_other (w := w) (a := ⟨g, i, none⟩) (b := ⟨g, j, none⟩) (v := .int .u8 (d.toNat : Nat)) (fun e => hji (congrArg Addr.off e).symm), hc]
      have : nth (l.set i d) j = nth l j := by unfold nth; rw [List.getD_eq_getElem?_getD, List.getD_eq_getElem?_getD, List.getElem?_set_ne (by omega)]
      rw [this]
theorem xor_byte (a b : UInt8) : bits .xor .u8 (a.toNat : Nat) (b.toNat : Nat) = (((a ^^^ b).toNat : Nat) : Int) := by
  have ha := a.toNat_lt
  have hb := b.toNat_lt
  show IntKind.u8.wrap (((BitVec.ofInt 8 ((a.toNat : Nat) : Int)) ^^^ (BitVec.ofInt 8 ((b.toNat : Nat) : Int))).toNat : Int) = _
  rw [BitVec.ofInt_natCast, BitVec.ofInt_natCast, BitVec.toNat_xor, BitVec.toNat_ofNat, BitVec.toNat_ofNat, Nat.mod_eq_of_lt (by simpa using ha), Nat.mod_eq_of_lt (by simpa using hb), UInt8.toNat_xor]
  have : a.toNat ^^^ b.toNat < 2 ^ 8 := Nat.xor_lt_two_pow (by simpa using ha) (by simpa using hb)
  exact IntWalk.u8_in _ (by omega)
theorem xor_ne (a b : UInt8) (h : b ≠ 0) : a ≠ a ^^^ b := by
  intro e
  apply h
  have : a ^^^ a = a ^^^ (a ^^^ b) := by rw [← e]
  rw [← UInt8.xor_assoc, UInt8.xor_self, UInt8.zero_xor] at this
  exact this.symm

set_option maxRecDepth 100000 in
set_option maxHeartbeats 4000000 in
theorem lspoilt_calls (lo : Nat) (vf vg vl : Value) (p : Prg) (at_ : Nat) (turn : UInt8) (w : World) (hp : ProgAt lo w vf vg vl p) (hwf : PrgWf p) (hsz : (bodyL p).length ≤ 100000000) (hat : at_ < 65536) :
    Calls Try.prog 10 #[.agg #[vf, vg, vl, .int .i64 p.main], .int .u16 (at_ : Nat), .int .u8 (turn.toNat : Nat)] w fun e w' => e = .returned (.bool true) ∧ Below w.heap.size w w' := by
  have HP := hid hp
  have HWF := hid hwf
  have HSZ := hid hsz
  obtain ⟨fa, fc, fb, fo, FS, rfl, _⟩ := hp.funcs.open
  obtain ⟨ga, gc, gb, go, rfl, _⟩ := hp.globs.open
  obtain ⟨la, lc, lb, lo', LS, rfl, _⟩ := hp.lays.open
  clear hp hwf hsz
  go_enter Try.func10, Try.ntmps10
  go_wp2_with fail
  generalize hW : World.alloc w _ = W
  have HBX := hid (show BoxAt W w.heap.size 31 [.slice fa p.funcs.length fc, .slice ga p.globals.length gc, .slice la p.layouts.length lc, .int .i64 p.main] by rw [← hW]; exact BoxAt.new w _ _ _ _ rfl rfl)
  have HB0 := hid (show Below w.heap.size w W by rw [← hW]; exact (Below.refl _ _).alloc (Nat.le_refl _) _)
  clear hW
  refine (awake10_calls W).mono ?_
  rintro e w1 ⟨rfl, hb⟩
  have HX1 := hid (HBX.out.below hb)
  have HP1 := hid (HP.out.below (bvia HB0.out hb))
  have HB1 := hid (bvia HB0.out hb)
  have q0 := HX1.out.cell 0 _ rfl
  have q1 := HX1.out.cell 1 _ rfl
  have q2 := HX1.out.cell 2 _ rfl
  have q3 := HX1.out.cell 3 _ rfl
  have qz := HX1.out.lt
  clear hb
  go_wp2_with fail
  refine (valid_calls lo _ _ _ p w1 HP1.out).mono ?_
  rintro e w2 ⟨rfl, hb⟩
  have HX2 := hid (HX1.out.below hb)
  have HP2 := hid (HP1.out.below hb)
  have HB2 := hid (bvia HB1.out hb)
  clear hb q0 q1 q2 q3 qz
  have q0 := HX2.out.cell 0 _ rfl
  have q1 := HX2.out.cell 1 _ rfl
  have q2 := HX2.out.cell 2 _ rfl
  have q3 := HX2.out.cell 3 _ rfl
  have qz := HX2.out.lt
  rcases hv : validB p with _ | _
  · clear hv
    go_wp2_with fail
    refine (awake10_calls w2).mono ?_
    rintro e w3 ⟨rfl, hb⟩
    have HB3 := hid (bvia HB2.out hb)
    clear hb
    go_wp2_with fail
    go_ret
    exact ⟨rfl, HB3.out⟩
  have HV := hid hv
  clear hv
  by_cases ht : turn = 0
  · have htb : (((turn.toNat : Nat) : Int) == 0) = true := by rw [ht]; rfl
    clear ht
    go_wp2_with fail
    refine (awake10_calls w2).mono ?_
    rintro e w3 ⟨rfl, hb⟩
    have HB3 := hid (bvia HB2.out hb)
    clear hb
    go_wp2_with fail
    go_ret
    exact ⟨rfl, HB3.out⟩
  have htb : (((turn.toNat : Nat) : Int) == 0) = false := by
    apply beq_eq_false_iff_ne.2
    intro e
    apply ht
    apply UInt8.toNat_inj.1
    simpa using e
  have HT := hid ht
  clear ht
  go_wp2_with fail
  refine (oencode_calls lo _ _ _ p w2 HP2.out HWF.out (by have := HSZ.out; omega)).mono ?_
  rintro e w3 ⟨v3, rfl, ho, hb⟩
  rw [HV.out, if_pos rfl] at ho
  rw [HV.out]
  have hfl : 12 ≤ (fileL p).length := by rw [file_len]; have := body_len p; omega
  have HFL := hid (show (fileL p).length ≤ 1000000000 by rw [file_len]; have := HSZ.out; omega)
  obtain ⟨i, hi⟩ : ∃ i, at_ % (fileL p).length = i := ⟨_, rfl⟩
  have hil : i < (fileL p).length := by rw [← hi]; exact Nat.mod_lt _ (by omega)
  obtain ⟨g, c, rfl, hbg, hgz, hcell, hfr, hc, HPUT⟩ := own_put ho i hil HFL.out
  have HPUT := hid HPUT
  have HDS := hid (dec_spoilt p i)
  obtain ⟨L, hL⟩ : ∃ L, fileL p = L := ⟨_, rfl⟩
  rw [hL] at hfl HFL hi hil hcell hc HPUT HDS ⊢
  obtain ⟨y, hy⟩ : ∃ y, nth L i = y := ⟨_, rfl⟩
  rw [hy] at hcell
  have HY := hid hy
  have hn0 : ((L.length : Int) == 0) = false := by apply beq_eq_false_iff_ne.2; omega
  have hrem : (at_ : Int) % (L.length : Int) = (i : Int) := by rw [← hi]; rfl
  have hrem2 : ((at_ : Nat) : Int).tmod (L.length : Int) = (i : Int) := by rw [Int.tmod_eq_emod_of_nonneg (by omega), hrem]
  have hlI : (i : Int) < L.length := by omega
  have hxor := xor_byte y turn
  obtain ⟨d, hd⟩ : ∃ d, y ^^^ turn = d := ⟨_, rfl⟩
  rw [hd] at hxor
  have hne := HDS.out d hil (by rw [HY.out, ← hd]; exact xor_ne y turn HT.out)
  have HNE := hid hne
  have HPD := hid (HPUT.out d)
  have HB3 := hid (bvia HB2.out hb)
  have HGB := hid hbg
  have hl0 : ¬ (L.length : Int) = 0 := by omega
  clear ho hb q0 q1 q2 q3 qz hi hL hy hd hne
  go_wp2_with fail
  generalize hW : World.setCell w3 _ _ = W4
  have HPD4 := hid (show BytesAt w2.heap.size W4 (.slice (some ⟨g, 0, none⟩) L.length c) (L.set i d) by rw [← hW]; exact HPD.out)
  have HB4 := hid (show Below w.heap.size w W4 by rw [← hW]; exact bstore HB3.out g i _ (Nat.le_trans HB2.out.size HGB.out))
  clear hW
  obtain ⟨q, hq⟩ : ∃ q, (decS (L.set i d)).1 = q := ⟨_, rfl⟩
  obtain ⟨ec, hec⟩ : ∃ ec, (decS (L.set i d)).2 = ec := ⟨_, rfl⟩
  have HQ := hid hq
  have HEC := hid hec
  refine (odecode_calls _ _ (L.set i d) W4 HPD4.out (by rw [List.length_set]; exact HFL.out)).mono ?_
  rintro e w5 ⟨uf, ug, ul, rfl, ho, hb⟩
  rw [HQ.out] at ho
  rw [HQ.out, HEC.out]
  obtain ⟨fa', fc', ga', gc', ya', yc', rfl, rfl, rfl⟩ := own_open ho
  have HB5 := hid (bvia HB4.out hb)
  have h89 : ec = 8 ∨ ec = 9 := by rw [← HEC.out]; exact HNE.out
  clear ho hb hq hec
  rcases h89 with rfl | rfl
  all_goals
    go_wp2_with fail
    go_ret
    exact ⟨rfl, bvia HB5.out ((Below.refl _ _).alloc (Nat.le_refl _) _)⟩

end Go.Proofs.Ytkfpacklpelefaa
