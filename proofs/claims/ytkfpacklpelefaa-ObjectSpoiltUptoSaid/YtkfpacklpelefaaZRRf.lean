/-
  The reference's reader: functions.
-/
import Derived.Test.YtkfpacklpelefaaZRRc
namespace Go.Proofs.Ytkfpacklpelefaa
set_option linter.unusedVariables false
set_option linter.unusedSimpArgs false
open Go.RowKit

/-- A loop of reading: what is read so far. -/
structure LoopR {α : Type} (p0 q : Rd1 (List α)) (st0 st : St10) (done : List α) : Prop where
  bad : st = none → st0 = none ∨ ∃ r0, st0 = some r0 ∧ p0 r0 = none
  ok : ∀ r, st = some r → ∃ r0, st0 = some r0 ∧ p0 r0 = (q r).map fun x => (done ++ x.1, x.2)
theorem LoopR.start {α : Type} (p : Rd1 (List α)) (st : St10) : LoopR p p st st [] :=
  ⟨fun h => .inl h, fun r h => ⟨r, h, by cases p r <;> simp⟩⟩
theorem LoopR.step {α : Type} {p0 q : Rd1 (List α)} {st0 st' : St10} {r : List UInt8} {done : List α} {x : α} {px : Rd1 α} {q' : α → Rd1 (List α)} (h : LoopR p0 q st0 (some r) done) (hq : q r = rdBind px (fun x => rdBind (q' x) fun l => rdPure (x :: l)) r) (hs : Stp px (some r) x st') : LoopR p0 (q' x) st0 st' (done ++ [x]) := by
  obtain ⟨r0, e0, h0⟩ := h.ok r rfl
  rcases hs.2 r rfl with ⟨h1, rfl⟩ | ⟨s, h1, rfl⟩
  · refine ⟨fun _ => .inr ⟨r0, e0, ?_⟩, fun r h => by cases h⟩
    rw [h0, hq, rdBind_none h1]
    rfl
  · refine ⟨fun h => (by cases h), fun t ht => ⟨r0, e0, ?_⟩⟩
    cases ht
    rw [h0, hq, rdBind_some h1]
    cases hq2 : q' x s with
    | none => rw [rdBind_none hq2]; rfl
    | some y =>
      obtain ⟨c, t⟩ := y
      rw [rdBind_some hq2]
      simp [rdPure]
theorem LoopR.fin {α : Type} {p0 q : Rd1 (List α)} {st0 st : St10} {done : List α} (h : LoopR p0 q st0 st done) (hq : ∀ r, q r = some ([], r)) : Stp p0 st0 done st := by
  cases st with
  | none =>
    rcases h.bad rfl with rfl | ⟨r0, rfl, h1⟩
    · exact .none
    · exact .bad h1
  | some r =>
    obtain ⟨r0, rfl, h1⟩ := h.ok r rfl
    refine .ok ?_
    rw [h1, hq]
    simp
theorem LoopR.end_bad {α : Type} {p0 q : Rd1 (List α)} {st0 : St10} {done : List α} (h : LoopR p0 q st0 none done) : Stp p0 st0 done none := by
  rcases h.bad rfl with rfl | ⟨r0, rfl, h1⟩
  · exact .none
  · exact .bad h1

/-- What is carried through a round: two boxes, a row, the reader. -/
structure Car (b N M b2 b3 : Nat) (t2 : TypeId) (vs2 vs3 : List Value) (v : Value) (done : List Ins) (l : List UInt8) (st : St10) (w0 w : World) : Prop where
  box2 : BoxAt w b2 t2 vs2
  box3 : BoxAt w b3 t2 vs3
  own : OwnE insE N 57 w v done
  rd : RR b w l st
  kn : KN b N [81] w0 w
  hb : b < N
  hN : N ≤ M
  hN2 : N ≤ b2
  hN3 : N ≤ b3
  h23 : b2 ≠ b3
  b2M : b2 < M
  b3M : b3 < M
  row : ∀ k, v.ownBlock = some k → k < M
  hM : M ≤ w.heap.size
section
variable {b N M b2 b3 : Nat} {t2 : TypeId} {vs2 vs3 : List Value} {v : Value} {done : List Ins} {l : List UInt8} {st : St10} {w0 w : World}
theorem Car.call (h : Car b N M b2 b3 t2 vs2 vs3 v done l st w0 w) {w' : World} {st' : St10} (hk : KR b w w') (hr : RR b w' l st') (ht2 : t2 ∉ [81]) : Car b N M b2 b3 t2 vs2 vs3 v done l st' w0 w' :=
  ⟨hk.box h.box2 ht2, hk.box h.box3 ht2, hk.own h.own (by decide), hr, h.kn.trans (hk.kn _), h.hb, h.hN, h.hN2, h.hN3, h.h23, h.b2M, h.b3M, h.row, Nat.le_trans h.hM hk.2.1⟩
theorem Car.alloc (h : Car b N M b2 b3 t2 vs2 vs3 v done l st w0 w) (o : Obj) : Car b N M b2 b3 t2 vs2 vs3 v done l st w0 (w.alloc o) :=
  ⟨h.box2.alloc _, h.box3.alloc _, h.own.alloc _, h.rd.alloc _, h.kn.trans (KN.alloc _ _ _ (by have := h.rd.lt; omega)), h.hb, h.hN, h.hN2, h.hN3, h.h23, h.b2M, h.b3M, h.row, Nat.le_trans h.hM (by simp)⟩
theorem Car.store (h : Car b N M b2 b3 t2 vs2 vs3 v done l st w0 w) (I k : Nat) (u : Value) (hI : M ≤ I) : Car b N M b2 b3 t2 vs2 vs3 v done l st w0 (w.setCell ⟨I, k, none⟩ u) := by
  have h1 := h.hb
  have h2 := h.hN
  have h3 := h.b2M
  have h4 := h.b3M
  exact ⟨h.box2.other _ _ (by show b2 ≠ I; omega), h.box3.other _ _ (by show b3 ≠ I; omega), h.own.other _ _ (fun q hq => by have := h.row q hq; show q ≠ I; omega), h.rd.other _ (by omega), h.kn.trans (KN.store _ (by omega) (by omega) _ _), h1, h2, h.hN2, h.hN3, h.h23, h3, h4, h.row, by simpa [World.setCell] using h.hM⟩
/-- A store into the second box. -/
theorem Car.store3 (h : Car b N M b2 b3 t2 vs2 vs3 v done l st w0 w) (k : Nat) (u : Value) (ht : 57 ≠ t2) : Car b N M b2 b3 t2 vs2 (vs3.set k u) v done l st w0 (w.setCell ⟨b3, k, none⟩ u) := by
  have h1 := h.hb
  have h3 := h.hN3
  exact ⟨h.box2.other _ _ h.h23, h.box3.set k u, h.own.other _ _ (fun q hq e => h.own.neBox h.box3 ht q hq (congrArg some e)), h.rd.other _ (by omega), h.kn.trans (KN.store _ (by omega) (by omega) _ _), h1, h.hN, h.hN2, h3, h.h23, h.b2M, h.b3M, h.row, by simpa [World.setCell] using h.hM⟩
/-- Behind the append. -/
theorem Car.grown (h : Car b N M b2 b3 t2 vs2 vs3 v done l st w0 w) {w' : World} (hg : w.grownBy w' v.ownBlock) (ht : 57 ≠ t2) : BoxAt w' b2 t2 vs2 ∧ BoxAt w' b3 t2 vs3 ∧ RR b w' l st ∧ KN b N [81] w0 w' :=
  ⟨h.box2.only (Only.grown hg) (h.box2.neRow h.own ht), h.box3.only (Only.grown hg) (h.box3.neRow h.own ht), h.rd.grown h.own hg h.hb, h.kn.trans (KN.grown h.own hg (by have := h.rd.lt; omega) (Nat.le_of_lt h.hb))⟩
/-- Behind the append and the store. -/
theorem Car.appended (h : Car b N M b2 b3 t2 vs2 vs3 v done l st w0 w) {w' : World} {v' : Value} {done' : List Ins} (hg : w.grownBy w' v.ownBlock) (ho : OwnE insE N 57 w' v' done') (ht : 57 ≠ t2) (hb3 : BoxAt w' b3 t2 vs3) : Car b N w'.heap.size b2 b3 t2 vs2 (vs3.set 3 v') v' done' l st w0 (w'.setCell ⟨b3, 3, none⟩ v') := by
  obtain ⟨g1, g2, g3, g4⟩ := h.grown hg ht
  have h1 := h.hb
  have h3 := h.hN3
  have hM := h.hM
  have hsz := hg.size
  have h5 := h.b2M
  have h6 := h.b3M
  have h7 := h.hN
  exact ⟨g1.other _ _ h.h23, g2.set 3 v', ho.other _ _ (fun q hq e => ho.neBox g2 ht q hq (congrArg some e)), g3.other _ (by omega), g4.trans (KN.store _ (by omega) (by omega) _ _), h1, by omega, h.hN2, h3, h.h23, by omega, by omega, fun k hk => (ho.lt k hk).2, by simp [World.setCell]⟩
end

/-- What a function gives. -/
def RFunQ (b : Nat) (l : List UInt8) (st : St10) (w : World) (e : Ending) (w' : World) : Prop := ∃ (f : Fun) (s : Slc) (st' : St10), e = .returned (.agg #[.string f.name, .int .i64 f.params, .int .i64 f.regs, Slc.val s]) ∧ OwnE insE w.heap.size 57 w' s.val f.code ∧ f.code.length ≤ l.length ∧ Stp rdFun st f st' ∧ RR b w' l st' ∧ KR b w w'

theorem rdCode_succ (n : Nat) (last : Int) (r : List UInt8) : rdCode (n + 1) last r = rdBind (rdIns last) (fun x => rdBind (rdCode n x.pos) fun l => rdPure (x :: l)) r := rfl
theorem rdCode_zero (last : Int) (r : List UInt8) : rdCode 0 last r = some ([], r) := rfl

abbrev FUN0 : List Value := [.string ⟨#[]⟩, .int .i64 0, .int .i64 0, .slice none 0 0]
set_option maxRecDepth 200000 in
set_option maxHeartbeats 8000000 in
theorem rrfun_calls (b : Nat) (l : List UInt8) (st : St10) (w : World) (h : RR b w l st) (hl : l.length ≤ 1000000000) :
    Calls Try.prog 57 #[.pointer (some ⟨b, 0, none⟩)] w fun e w' => RFunQ b l st w e w' := by
  have H := hid h
  have hbw := h.lt
  have HBW := hid hbw
  clear h
  go_enter Try.func57, Try.ntmps57
  go_wp2_with fail
  generalize hW : World.alloc _ _ = W
  have hbx := show BoxAt W w.heap.size 55 FUN0 by rw [← hW]; exact BoxAt.new _ _ _ _ _ rfl rfl
  have HRW := hid (show RR b W l st by rw [← hW]; exact H.out.alloc _)
  have HK0 := hid (show KR b w W by rw [← hW]; exact KT.alloc _ w _ (by omega))
  have HZW := hid (show W.heap.size = w.heap.size + 1 by rw [← hW]; simp)
  have HB0 := hid hbx
  clear hW hbx
  refine (rrtext_calls b l st W HRW.out).mono ?_
  rintro e w1 ⟨n1, st1, rfl, hs, hr, hk⟩
  have HS1 := hid hs
  have HR1 := hid hr
  have HK1 := hid hk
  have HZ1 := hid (show w.heap.size < w1.heap.size by have := hk.2.1; have := HZW.out; omega)
  clear hs hr hk
  have HB1 := hid (HK1.out.box HB0.out (by decide))
  go_wp2_with fail
  generalize hX : World.alloc _ _ = WX
  have hbx := show BoxAt WX w1.heap.size 55 [.string n1, .int .i64 0, .int .i64 0, .slice none 0 0] by rw [← hX]; exact BoxAt.new _ _ _ _ _ rfl rfl
  have hcar : Car b w.heap.size (w1.heap.size + 1) w.heap.size w1.heap.size 55 FUN0 [.string n1, .int .i64 0, .int .i64 0, .slice none 0 0] (.slice none 0 0) [] l st1 w WX := by
    refine ⟨?_, hbx, OwnE.nil _ _ _ _, ?_, ?_, hbw, by have := HZ1.out; omega, Nat.le_refl _, by have := HZ1.out; omega, by have := HZ1.out; omega, by have := HZ1.out; omega, by omega, fun k hk => by simp [Value.ownBlock] at hk, by rw [← hX]; simp⟩
    · rw [← hX]; exact HB1.out.alloc _
    · rw [← hX]; exact HR1.out.alloc _
    · rw [← hX]
      exact ((HK0.out.trans HK1.out).trans (KT.alloc _ w1 _ (by have := HR1.out.lt; omega))).kn _
  have HC := hid hcar
  clear hX hbx hcar HRW HK0 HB0 HR1 HK1 HB1
  refine (rrnum_calls b l st1 WX HC.out.rd).mono ?_
  rintro e w2 ⟨n2, st2, rfl, hs, hr, hk, _⟩
  have HS2 := hid hs
  have hc2 := HC.out.call hk hr (by decide)
  have g1 := hc2.box3.cell 1 _ rfl
  have gz := hc2.box3.lt
  have gf := hc2.box3.frozen 1
  have HC2 := hid hc2
  clear hs hr hk hc2
  go_wp2_with fail
  have hc3 := HC2.out.store3 1 (.int .i64 n2) (by decide)
  have HC3 := hid hc3
  clear g1 gz gf hc3
  refine (rrnum_calls b l st2 _ HC3.out.rd).mono ?_
  rintro e w3 ⟨n3, st3, rfl, hs, hr, hk, _⟩
  have HS3 := hid hs
  have hc4 := HC3.out.call hk hr (by decide)
  have g1 := hc4.box3.cell 2 _ rfl
  have gz := hc4.box3.lt
  have gf := hc4.box3.frozen 2
  have HC4 := hid hc4
  clear hs hr hk hc4
  go_wp2_with fail
  have hc5 := HC4.out.store3 2 (.int .i64 n3) (by decide)
  have HC5 := hid hc5
  clear g1 gz gf hc5
  refine (rrcount_calls b l st3 _ HC5.out.rd).mono ?_
  rintro e w4 ⟨n4, st4, rfl, hs, hr, hk, hnl⟩
  have HS4 := hid hs
  have HC6 := hid (HC5.out.call hk hr (by decide))
  have HNL := hid hnl
  have HZK := hid (HC6.out.kn)
  clear hs hr hk hnl
  go_wp2_with fail
  clear HC HC2 HC3 HC4 HC5
  go_loopw [5, 6] (fun la i wr => ∃ (j : Nat) (last : Int) (done : List Ins) (stj : St10) (a : Option Addr) (c M : Nat), j ≤ n4 ∧ i = .int .i64 j ∧ la = .int .i64 last ∧ done.length = j ∧ LoopR (rdCode n4 0) (rdCode (n4 - j) last) st4 stj done ∧ Car b w.heap.size M w.heap.size w1.heap.size 55 FUN0 [.string n1, .int .i64 n2, .int .i64 n3, .slice a j c] (.slice a j c) done l stj w wr) (fun _ i _ => n4 - (intOf i).toNat)
  case atStart => exact ⟨0, 0, [], st4, none, 0, _, Nat.zero_le _, rfl, rfl, rfl, LoopR.start _ _, HC6.out⟩
  case round =>
    clear HC6 HZK
    obtain ⟨j, last, done, stj, a, c, M, hj, rfl, rfl, hdl, hlr, hcar⟩ := hrel
    obtain ⟨wo, hwo⟩ : ∃ wo, wo = wr := ⟨_, rfl⟩
    subst hwo
    have HLR := hid hlr
    have HC := hid hcar
    have HDL := hid hdl
    obtain ⟨nn, hrr, hrs⟩ := hcar.rd
    obtain ⟨bb, bo, cc, c0, c1, c2, z0, _, _, _, _, _, _, _, _⟩ := hrr.cells
    have HW := hid hrs
    clear hlr hcar hdl hrr hrs
    by_cases hgo : j < n4 ∧ stj.isSome = true
    · obtain ⟨hlt, hsm⟩ := hgo
      obtain ⟨rj, rfl⟩ := Option.isSome_iff_exists.1 hsm
      have hltI : (j : Int) < n4 := Int.ofNat_lt.2 hlt
      have hd : decide ((j : Int) < (n4 : Int)) = true := decide_eq_true hltI
      have hd2 : decide (j < n4) = true := decide_eq_true hlt
      have t1 : (some rj : St10).isNone = false := rfl
      rw [t1] at c2
      have HLT := hid hlt
      clear hsm t1 hlt HW
      go_wp2_with fail
      clear c0 c1 c2 z0
      refine (rrnum_calls b l _ wo HC.out.rd).mono ?_
      rintro e v1 ⟨m1, s1, rfl, hs, hr, hk, _⟩
      have HS1' := hid hs
      have HC1 := hid (HC.out.call hk hr (by decide))
      clear hs hr hk
      go_wp2_with fail
      generalize hX : World.alloc _ _ = WI
      have hbx := show BoxAt WI v1.heap.size 57 [.int .i64 m1, .int .i64 0, .int .i64 0, .int .i64 0, .int .i64 0] by rw [← hX]; exact BoxAt.new _ _ _ _ _ rfl rfl
      have HCI := hid (show Car b w.heap.size M w.heap.size w1.heap.size 55 FUN0 [.string n1, .int .i64 n2, .int .i64 n3, .slice a j c] (.slice a j c) done l s1 w WI by rw [← hX]; exact HC1.out.alloc _)
      have HXI := hid hbx
      have HMI := hid (show M ≤ v1.heap.size from HC1.out.hM)
      have HBI := hid (show b < v1.heap.size from HC1.out.rd.lt)
      clear hX hbx
      refine (rrnum_calls b l _ WI HCI.out.rd).mono ?_
      rintro e v2 ⟨m2, s2, rfl, hs, hr, hk, _⟩
      have HS2' := hid hs
      have HC2' := hid (HCI.out.call hk hr (by decide))
      have hxb := hk.box HXI.out (by decide)
      have x0 := hxb.cell 1 _ rfl
      have xz := hxb.lt
      have xf := hxb.frozen 1
      have HX2' := hid hxb
      clear hs hr hk hxb
      go_wp2_with fail
      have HC2 := hid (HC2'.out.store v1.heap.size 1 (.int .i64 m2) HMI.out)
      have HX2 := hid (HX2'.out.set 1 (.int .i64 m2))
      clear x0 xz xf
      refine (rrnum_calls b l _ _ HC2.out.rd).mono ?_
      rintro e v3 ⟨m3, s3, rfl, hs, hr, hk, _⟩
      have HS3' := hid hs
      have HC3' := hid (HC2.out.call hk hr (by decide))
      have hxb := hk.box HX2.out (by decide)
      have x0 := hxb.cell 2 _ rfl
      have xz := hxb.lt
      have xf := hxb.frozen 2
      have HX3' := hid hxb
      clear hs hr hk hxb
      go_wp2_with fail
      have HC3 := hid (HC3'.out.store v1.heap.size 2 (.int .i64 m3) HMI.out)
      have HX3 := hid (HX3'.out.set 2 (.int .i64 m3))
      clear x0 xz xf
      refine (rrnum_calls b l _ _ HC3.out.rd).mono ?_
      rintro e v4 ⟨m4, s4, rfl, hs, hr, hk, _⟩
      have HS4' := hid hs
      have HC4' := hid (HC3.out.call hk hr (by decide))
      have hxb := hk.box HX3.out (by decide)
      have x0 := hxb.cell 3 _ rfl
      have xz := hxb.lt
      have xf := hxb.frozen 3
      have HX4' := hid hxb
      clear hs hr hk hxb
      go_wp2_with fail
      have HC4 := hid (HC4'.out.store v1.heap.size 3 (.int .i64 m4) HMI.out)
      have HX4 := hid (HX4'.out.set 3 (.int .i64 m4))
      clear x0 xz xf
      refine (rrnum_calls b l _ _ HC4.out.rd).mono ?_
      rintro e v5 ⟨m5, s5, rfl, hs, hr, hk, _⟩
      have HS5' := hid hs
      have hc5 := HC4.out.call hk hr (by decide)
      have hxb := hk.box HX4.out (by decide)
      have x0 := hxb.cell 0 _ rfl
      have x1 := hxb.cell 1 _ rfl
      have x2 := hxb.cell 2 _ rfl
      have x3 := hxb.cell 3 _ rfl
      have x4 := hxb.cell 4 _ rfl
      have xz := hxb.lt
      have xf := hxb.frozen 4
      have g3 := hc5.box3.cell 3 _ rfl
      have gz := hc5.box3.lt
      have gf := hc5.box3.frozen 3
      have HC5 := hid hc5
      have hne3 : ¬ v1.heap.size = w1.heap.size := by have := hc5.b3M; have := HMI.out; omega
      have hne4 : ¬ w1.heap.size = v1.heap.size := by have := hc5.b3M; have := HMI.out; omega
      clear hs hr hk hxb hc5 HC1 HCI HC2' HC2 HC3' HC3 HC4' HX2' HX2 HX3' HX3 HX4' HXI
      obtain ⟨WA, hWA⟩ : ∃ WA, WA = (v5.setCell ⟨v1.heap.size, 4, none⟩ (.int .i64 (wrap64 (last + m5)))).alloc (.cells #[.int .i64 m1, .int .i64 m2, .int .i64 m3, .int .i64 m4, .int .i64 (wrap64 (last + m5))] 57) := ⟨_, rfl⟩
      have HCA := hid (show Car b w.heap.size M w.heap.size w1.heap.size 55 FUN0 [.string n1, .int .i64 n2, .int .i64 n3, .slice a j c] (.slice a j c) done l s5 w ((v5.setCell ⟨v1.heap.size, 4, none⟩ (.int .i64 (wrap64 (last + m5)))).alloc (.cells #[.int .i64 m1, .int .i64 m2, .int .i64 m3, .int .i64 m4, .int .i64 (wrap64 (last + m5))] 57)) from (HC5.out.store v1.heap.size 4 _ HMI.out).alloc _)
      have HZ5 := hid (show w.heap.size ≤ v5.heap.size by have := HC5.out.hM; have := HC5.out.hN; omega)
      have HJL := hid (show j + 1 ≤ 1000000000 by have := HNL.out; have := HLT.out; omega)
      clear hWA
      go_wp2_with (
        at_builtin
        go_loud (refine wpList_append_E insE (o := ⟨some 53, _, _, _, _, _⟩) rfl (.tmp 50) (.tmp 52) 53 rfl w.heap.size w.heap.size 57 _ 40 Try.underlying53 infoIns10 rfl done [⟨m1, m2, m3, m4, wrap64 (last + m5)⟩] HCA.out.own ((OwnE.lit insE _ w.heap.size 57 [⟨m1, m2, m3, m4, wrap64 (last + m5)⟩] _ v5.heap.size 1 (by simp [World.setCell]) HZ5.out rfl rfl (by simp)).sl (Nat.le_refl _) (by simp)) (by have := HJL.out; have := HDL.out; simp; omega) (by have := HJL.out; have := HDL.out; simp only [maxLen]; simp; omega) (by have := HZ5.out; simp [World.setCell]; omega) ?_)
        intro q7 w7 ho7 hg7
        go_loud (obtain ⟨a7, c7, ha7⟩ := ho7.anySlice)
        go_loud (rw [show (done ++ [(⟨m1, m2, m3, m4, wrap64 (last + m5)⟩ : Ins)]).length = j + 1 by simp [HDL.out]] at ha7)
        subst ha7
        have HO7 := hid ho7
        have HG7 := hid hg7
        have hf7 := (HCA.out.grown hg7 (by decide)).2.1
        have k3 := hf7.cell 3 _ rfl
        have kz := hf7.lt
        have kf := hf7.frozen 3
        have HF7 := hid hf7
        clear ho7 hg7 hf7)
      have HJW := hid (show wrap64 ((j : Int) + 1) = ((j + 1 : Nat) : Int) from wrap_succ HLT.out (Nat.le_trans HNL.out (Nat.le_refl _)) hl)
      refine ⟨⟨j + 1, wrap64 (last + m5), done ++ [⟨m1, m2, m3, m4, wrap64 (last + m5)⟩], s5, a7, c7, w7.heap.size, HLT.out, by rw [HJW.out], rfl, by simp [HDL.out], ?_, HCA.out.appended HG7.out HO7.out (by decide) HF7.out⟩, by rw [HJW.out]; exact meas_lt HLT.out⟩
      refine HLR.out.step (x := (⟨m1, m2, m3, m4, wrap64 (last + m5)⟩ : Ins)) (px := rdIns last) (q' := fun x => rdCode (n4 - (j + 1)) x.pos) (by rw [show n4 - j = (n4 - (j + 1)) + 1 by have := HLT.out; omega]; exact rdCode_succ _ _ _) ?_
      exact Stp.bind HS1'.out (Stp.bind HS2'.out (Stp.bind HS3'.out (Stp.bind HS4'.out (Stp.bind HS5'.out (Stp.pure (x := (⟨m1, m2, m3, m4, w64 (last + m5)⟩ : Ins)))))))
    · have HE := hid (show Stp (rdCode n4 0) st4 done stj by
        by_cases hjn : j < n4
        · have hno : stj = none := by
            cases stj with
            | none => rfl
            | some r => exact absurd ⟨hjn, rfl⟩ hgo
          subst hno
          exact HLR.out.end_bad
        · exact HLR.out.fin (fun r => by rw [show n4 - j = 0 by omega]; exact rdCode_zero _ _))
      have f0 := HC.out.box3.cell 0 _ rfl
      have f1 := HC.out.box3.cell 1 _ rfl
      have f2 := HC.out.box3.cell 2 _ rfl
      have f3 := HC.out.box3.cell 3 _ rfl
      have b0 := HC.out.box2.cell 0 _ rfl
      have b1 := HC.out.box2.cell 1 _ rfl
      have b2 := HC.out.box2.cell 2 _ rfl
      have b3 := HC.out.box2.cell 3 _ rfl
      have d0 := HC.out.box2.frozen 0
      have d1 := HC.out.box2.frozen 1
      have d2 := HC.out.box2.frozen 2
      have d3 := HC.out.box2.frozen 3
      have dz := HC.out.box2.lt
      have fz := HC.out.box3.lt
      have HEND := hid (show ∀ W, W = ((((wo.setCell ⟨w.heap.size, 0, none⟩ (.string n1)).setCell ⟨w.heap.size, 1, none⟩ (.int .i64 n2)).setCell ⟨w.heap.size, 2, none⟩ (.int .i64 n3)).setCell ⟨w.heap.size, 3, none⟩ (.slice a j c)) → BoxAt W w.heap.size 55 [.string n1, .int .i64 n2, .int .i64 n3, .slice a j c] ∧ RFunQ b l st w (.returned (.agg #[.string n1, .int .i64 n2, .int .i64 n3, .slice a j c])) W from fun W hW => by
        have e5 : b < w.heap.size := HC.out.hb
        have hbr : BoxAt W w.heap.size 55 [.string n1, .int .i64 n2, .int .i64 n3, .slice a j c] := by rw [hW]; exact (((HC.out.box2.set 0 (.string n1)).set 1 (.int .i64 n2)).set 2 (.int .i64 n3)).set 3 (.slice a j c)
        have hone : ∀ k u (wa : World), KN b w.heap.size [81] wa (wa.setCell ⟨w.heap.size, k, none⟩ u) := fun k u wa => KN.store _ (Nat.le_of_lt e5) (Nat.le_refl _) _ _
        have hkr : KN b w.heap.size [81] w W := by rw [hW]; exact (((HC.out.kn.trans (hone _ _ _)).trans (hone _ _ _)).trans (hone _ _ _)).trans (hone _ _ _)
        have hor : OwnE insE w.heap.size 57 W (.slice a j c) done := by
          have hz : ∀ k, (Value.slice a j c).ownBlock = some k → k ≠ w.heap.size := fun k hk e => HC.out.own.neBox HC.out.box2 (by decide) k hk (congrArg some e)
          rw [hW]
          exact (((HC.out.own.other _ _ hz).other _ _ hz).other _ _ hz).other _ _ hz
        have hrr : RR b W l stj := by
          rw [hW]
          exact (((HC.out.rd.other _ e5).other _ e5).other _ e5).other _ e5
        refine ⟨hbr, ⟨n1, n2, n3, done⟩, ⟨a, j, c⟩, stj, rfl, hor, ?_, ?_, hrr, hkr.kt⟩
        · show done.length ≤ l.length
          have := HDL.out
          have := HNL.out
          omega
        · exact HS1.out.bind (HS2.out.bind (HS3.out.bind (HS4.out.bind (HE.out.bind Stp.pure)))))
      have hexit : (∃ e : ¬ (j : Int) < (n4 : Int), True) ∨ (decide ((j : Int) < (n4 : Int)) = true ∧ decide (j < n4) = true ∧ stj.isNone = true) := by
        by_cases hjn : j < n4
        · refine .inr ⟨decide_eq_true (by omega), decide_eq_true hjn, ?_⟩
          cases stj with
          | none => rfl
          | some r => exact absurd ⟨hjn, rfl⟩ hgo
        · exact .inl ⟨by omega, trivial⟩
      clear hgo
      rcases hexit with ⟨hjn, _⟩ | ⟨h1, h1', h2⟩
      · have hd : decide ((j : Int) < (n4 : Int)) = false := decide_eq_false hjn
        have hd2 : decide (j < n4) = false := decide_eq_false (by omega)
        clear hjn
        go_wp2_with fail
        generalize hR : World.setCell (World.setCell (World.setCell (World.setCell wo _ _) _ _) _ _) _ _ = WR
        obtain ⟨e1, e2⟩ := HEND.out WR hR.symm
        refine bodyPost_ret (v := .agg #[.string n1, .int .i64 n2, .int .i64 n3, .slice a j c]) ?_ rfl e2
        exact results_cell_row (P := Try.prog) rfl _ _ w.heap.size 55 #[.string n1, .int .i64 n2, .int .i64 n3, .slice a j c] (0, 0) _ rfl e1 Try.underlying55 rfl rfl
      · rw [h2] at c2
        clear h2
        go_wp2_with fail
        generalize hR : World.setCell (World.setCell (World.setCell (World.setCell wo _ _) _ _) _ _) _ _ = WR
        obtain ⟨e1, e2⟩ := HEND.out WR hR.symm
        refine bodyPost_ret (v := .agg #[.string n1, .int .i64 n2, .int .i64 n3, .slice a j c]) ?_ rfl e2
        exact results_cell_row (P := Try.prog) rfl _ _ w.heap.size 55 #[.string n1, .int .i64 n2, .int .i64 n3, .slice a j c] (0, 0) _ rfl e1 Try.underlying55 rfl rfl

end Go.Proofs.Ytkfpacklpelefaa
