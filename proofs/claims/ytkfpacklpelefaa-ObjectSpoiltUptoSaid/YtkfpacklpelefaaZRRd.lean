/-
  The reference's reader: its state, and its numbers.
-/
import Derived.BigQuiet
import Derived.Test.YtkfpacklpelefaaZRdFun
namespace Go.Proofs.Ytkfpacklpelefaa
set_option linter.unusedVariables false
set_option linter.unusedSimpArgs false
open Go.RowKit

/-- What is left to read; none: a mistake was met. -/
abbrev St10 := Option (List UInt8)
/-- The reader: a variable with all bytes, the place and the mark. -/
def RRb (b : Nat) (w : World) (l : List UInt8) (at_ : Nat) (bad : Bool) : Prop := ∃ bb bo c, BoxAt w b 81 [.slice (some ⟨bb, bo, none⟩) l.length c, .int .i64 (at_ : Nat), .bool bad] ∧ BytesAt 0 w (.slice (some ⟨bb, bo, none⟩) l.length c) l ∧ bb < b ∧ at_ ≤ l.length ∧ 4 ≤ l.length ∧ l.length ≤ 1000000000
def RR (b : Nat) (w : World) (l : List UInt8) (st : St10) : Prop := ∃ at_, RRb b w l at_ st.isNone ∧ ∀ r, st = some r → l.drop at_ = r
/-- One step of reading. -/
def Stp {α : Type} (p : Rd1 α) (st : St10) (x : α) (st' : St10) : Prop := (st = none → st' = none) ∧ ∀ r, st = some r → (p r = none ∧ st' = none) ∨ ∃ s, p r = some (x, s) ∧ st' = some s
theorem Stp.none {α : Type} {p : Rd1 α} {x : α} : Stp p .none x .none := ⟨fun _ => rfl, fun r h => by cases h⟩
theorem Stp.bad {α : Type} {p : Rd1 α} {r : List UInt8} {x : α} (h : p r = .none) : Stp p (some r) x .none := ⟨fun _ => rfl, fun s hs => .inl ⟨by cases hs; exact h, rfl⟩⟩
theorem Stp.ok {α : Type} {p : Rd1 α} {r s : List UInt8} {x : α} (h : p r = some (x, s)) : Stp p (some r) x (some s) := ⟨fun h => (by cases h), fun t ht => .inr ⟨s, (by cases ht; exact h), rfl⟩⟩
theorem Stp.of_none {α : Type} {p : Rd1 α} {x : α} {st : St10} (h : Stp p .none x st) : st = .none := h.1 rfl
theorem Stp.some_of {α : Type} {p : Rd1 α} {r s : List UInt8} {x : α} (h : Stp p (some r) x (some s)) : p r = some (x, s) := by
  rcases h.2 r rfl with ⟨_, h⟩ | ⟨t, h1, h2⟩
  · cases h
  · cases h2; exact h1
theorem Stp.none_of {α : Type} {p : Rd1 α} {r : List UInt8} {x : α} (h : Stp p (some r) x .none) : p r = .none := by
  rcases h.2 r rfl with ⟨h, _⟩ | ⟨t, h1, h2⟩
  · exact h
  · cases h2
theorem Stp.bind {α β : Type} {p : Rd1 α} {f : α → Rd1 β} {st st1 st2 : St10} {x : α} {y : β} (h1 : Stp p st x st1) (h2 : Stp (f x) st1 y st2) : Stp (rdBind p f) st y st2 := by
  cases st with
  | none =>
    obtain rfl := h1.of_none
    obtain rfl := h2.of_none
    exact .none
  | some r =>
    rcases h1.2 r rfl with ⟨h, rfl⟩ | ⟨s, h, rfl⟩
    · obtain rfl := h2.of_none
      exact .bad (rdBind_none h)
    · refine ⟨fun h => (by cases h), fun t ht => ?_⟩
      cases ht
      rw [rdBind_some h]
      exact h2.2 s rfl
theorem Stp.pure {α : Type} {st : St10} {x : α} : Stp (rdPure x) st x st := ⟨fun h => h, fun r h => .inr ⟨r, rfl, h⟩⟩
theorem own_of (bb bo n c q : Nat) (h : (Value.slice (some ⟨bb, bo, .none⟩) n c).ownBlock = some q) : bb = q := by simpa [Value.ownBlock] using h

theorem RRb.lt {b : Nat} {w : World} {l : List UInt8} {n : Nat} {bad : Bool} (h : RRb b w l n bad) : b < w.heap.size := by obtain ⟨_, _, _, h1, _⟩ := h; exact h1.lt
theorem RR.lt {b : Nat} {w : World} {l : List UInt8} {st : St10} (h : RR b w l st) : b < w.heap.size := by obtain ⟨_, h1, _⟩ := h; exact h1.lt
theorem RRb.kt {b : Nat} {w w' : World} {l : List UInt8} {n : Nat} {bad : Bool} (h : RRb b w l n bad) (hk : w'.heap[b]? = w.heap[b]?) (hb : Below b w w') : RRb b w' l n bad := by
  obtain ⟨bb, bo, c, h1, h2, h3, h4⟩ := h
  exact ⟨bb, bo, c, h1.ofBlock hk, SlE.agree h2 fun h0 q hq => hb.block q (by have := own_of _ _ _ _ _ hq; omega), h3, h4⟩
theorem RR.kt {b : Nat} {w w' : World} {l : List UInt8} {st : St10} (h : RR b w l st) (hk : w'.heap[b]? = w.heap[b]?) (hb : Below b w w') : RR b w' l st := by
  obtain ⟨n, h1, h2⟩ := h
  exact ⟨n, h1.kt hk hb, h2⟩
theorem RR.alloc {b : Nat} {w : World} {l : List UInt8} {st : St10} (h : RR b w l st) (o : Obj) : RR b (w.alloc o) l st := h.kt (((Below.refl _ _).alloc (Nat.le_refl _) o).block b h.lt) ((Below.refl _ _).alloc (by have := h.lt; omega) o)
theorem RR.other {b : Nat} {w : World} {l : List UInt8} {st : St10} (h : RR b w l st) {q k : Nat} (u : Value) (hq : b < q) : RR b (w.setCell ⟨q, k, none⟩ u) l st := h.kt (Below.heap_setCell _ _ _ _ (by show b ≠ q; omega)) ((Below.refl _ _).setCell (by show b ≤ q; omega) u)
theorem RR.grown {α : Type} {E : Enc α} {N b : Nat} {e : TypeId} {w w' : World} {v : Value} {l : List α} {r : List UInt8} {st : St10} (h : RR b w r st) (ho : OwnE E N e w v l) (hg : w.grownBy w' v.ownBlock) (hN : b < N) : RR b w' r st :=
  h.kt (hg.block b h.lt fun e2 => by have := (ho.lt b e2.symm).1; omega) (Below.grownE (Below.refl _ _) ho hg (by have := h.lt; omega) (by omega))
/-- A store into the reader. -/
theorem RRb.setAt {b : Nat} {w : World} {l : List UInt8} {n : Nat} {bad : Bool} (h : RRb b w l n bad) (m : Nat) (hm : m ≤ l.length) : RRb b (w.setCell ⟨b, 1, none⟩ (.int .i64 (m : Nat))) l m bad := by
  obtain ⟨bb, bo, c, h1, h2, h3, h4, h5⟩ := h
  exact ⟨bb, bo, c, h1.set 1 _, SlE.agree h2 fun h0 q hq => Below.heap_setCell _ _ _ _ (by have := own_of _ _ _ _ _ hq; show q ≠ b; omega), h3, hm, h5⟩
theorem RRb.setBad {b : Nat} {w : World} {l : List UInt8} {n : Nat} {bad : Bool} (h : RRb b w l n bad) : RRb b (w.setCell ⟨b, 2, none⟩ (.bool true)) l n true := by
  obtain ⟨bb, bo, c, h1, h2, h3, h4, h5⟩ := h
  exact ⟨bb, bo, c, h1.set 2 _, SlE.agree h2 fun h0 q hq => Below.heap_setCell _ _ _ _ (by have := own_of _ _ _ _ _ hq; show q ≠ b; omega), h3, h4, h5⟩
theorem RRb.store {b : Nat} {w : World} {l : List UInt8} {n : Nat} {bad : Bool} (h : RRb b w l n bad) (k : Nat) (u : Value) : KT b [81] w (w.setCell ⟨b, k, none⟩ u) := by
  obtain ⟨bb, bo, c, h1, _⟩ := h
  exact KT.store h1 (by simp) (Nat.le_refl _) k u

theorem mod128 (c : UInt8) : (c.toNat : Int) % 128 = ((c.toNat % 128 : Nat) : Int) := by omega

/-- A mistake was met before. -/
theorem rrnum_bad (b : Nat) (l : List UInt8) (n : Nat) (w : World) (h : RRb b w l n true) :
    Calls Try.prog 56 #[.pointer (some ⟨b, 0, none⟩)] w fun e w' => e = .returned (.int .i64 0) ∧ RRb b w' l n true ∧ KT b [81] w w' := by
  have H := hid h
  obtain ⟨bb, bo, c, hbox, hby, hbb, hn, h4, h9⟩ := h
  have c0 := hbox.cell 0 _ rfl
  have c1 := hbox.cell 1 _ rfl
  have c2 := hbox.cell 2 _ rfl
  have z0 := hbox.lt
  have f2 := hbox.frozen 2
  clear hbox hby
  go_enter Try.func56, Try.ntmps56
  go_wp2_with fail
  go_loopw [3, 4] (fun uv i wr => uv = .int .u64 0 ∧ i = .int .i64 0 ∧ wr = w) (fun _ i _ => 1)
  case atStart => exact ⟨rfl, rfl, rfl⟩
  case round =>
    obtain ⟨rfl, rfl, rfl⟩ := hrel
    go_wp2_with fail
    go_quiet (fail)
    go_wp2_with fail
    go_ret
    have hq := H.out.kt (w' := wr.drewN nq) rfl (bdraw (Below.refl _ _) nq |>.mono (by omega))
    exact ⟨rfl, hq.setBad, (KT.below _ (bdraw (Below.refl _ _) nq) (by omega)).trans (hq.store 2 _)⟩

/-- What a number gives. -/
def RNumQ (b : Nat) (l : List UInt8) (n : Nat) (w : World) (e : Ending) (w' : World) : Prop := ((∃ m n' r, rdN (l.drop n) = some (m, r) ∧ e = .returned (.int .i64 m) ∧ RRb b w' l n' false ∧ l.drop n' = r) ∨ (rdN (l.drop n) = none ∧ e = .returned (.int .i64 0) ∧ ∃ n', RRb b w' l n' true)) ∧ KT b [81] w w'
set_option maxRecDepth 100000 in
set_option maxHeartbeats 4000000 in
theorem rrnum_step (b : Nat) (l : List UInt8) (n : Nat) (w : World) (h : RRb b w l n false) :
    Calls Try.prog 56 #[.pointer (some ⟨b, 0, none⟩)] w fun e w' => RNumQ b l n w e w' := by
  have H := hid h
  have hn0 : n ≤ l.length := by obtain ⟨_, _, _, _, _, _, h, _⟩ := h; exact h
  clear h
  go_enter Try.func56, Try.ntmps56
  go_wp2_with fail
  go_loopw [3, 4] (fun uv i wr => ∃ (k acc : Nat), k ≤ 10 ∧ n + k ≤ l.length ∧ i = .int .i64 k ∧ uv = .int .u64 acc ∧ acc < 2 ^ (7 * k) ∧ rdU 0 (l.drop n) = (rdU k (l.drop (n + k))).map (fun q => (acc + 2 ^ (7 * k) * q.1, q.2)) ∧ RRb b wr l (n + k) false ∧ KT b [81] w wr) (fun _ i _ => 11 - (intOf i).toNat)
  case atStart => exact ⟨0, 0, by omega, by omega, rfl, rfl, by simp, by rw [Nat.add_zero]; cases rdU 0 (l.drop n) <;> simp, H.out, KT.refl _ _ _⟩
  case round =>
    clear H
    obtain ⟨k, acc, hk, hkl, rfl, rfl, hacc, hrd, hrr, hkt⟩ := hrel
    obtain ⟨wo, hwo⟩ : ∃ wo, wo = wr := ⟨_, rfl⟩
    subst hwo
    obtain ⟨m, hm⟩ : ∃ m, n + k = m := ⟨_, rfl⟩
    rw [hm] at hrr hkl hrd
    have HM := hid hm
    clear hm
    have HR := hid hrr
    have HK := hid hkt
    have HRD := hid hrd
    have HBAD := hid (show ∀ wx, RRb b wx l m false ∨ RRb b wx l (m + 1) false → KT b [81] w wx → rdU k (l.drop m) = none → RNumQ b l n w (.returned (.int .i64 0)) (wx.setCell ⟨b, 2, none⟩ (.bool true)) from fun wx hx hkx hnone => by
      refine ⟨.inr ⟨?_, rfl, ?_⟩, ?_⟩
      · unfold rdN
        rw [HRD.out, hnone]
        rfl
      · rcases hx with hx | hx
        · exact ⟨m, hx.setBad⟩
        · exact ⟨m + 1, hx.setBad⟩
      · rcases hx with hx | hx
        · exact hkx.trans (hx.store 2 _)
        · exact hkx.trans (hx.store 2 _))
    have HDR := hid (fun nq => show RRb b (wo.drewN nq) l m false ∧ KT b [81] w (wo.drewN nq) from ⟨HR.out.kt rfl (bdraw (Below.refl _ _) nq |>.mono (by have := HR.out.lt; omega)), HK.out.trans (KT.below _ (bdraw (Below.refl _ _) nq) (by have := HR.out.lt; omega))⟩)
    obtain ⟨bb, bo, c, hbox, hby, hbb, _, h4, h9⟩ := hrr
    have c0 := hbox.cell 0 _ rfl
    have c1 := hbox.cell 1 _ rfl
    have c2 := hbox.cell 2 _ rfl
    have z0 := hbox.lt
    have f1 := hbox.frozen 1
    have f2 := hbox.frozen 2
    obtain ⟨a', c', bb', bo', he, p1, p2, p3, _, p5, p6, p7⟩ := hby.open
    obtain ⟨e1, _, rfl⟩ := Value.slice.inj he
    have e2 := p1 (by omega)
    rw [← e1] at e2
    simp only [Option.some.injEq, Addr.mk.injEq] at e2
    obtain ⟨rfl, rfl, _⟩ := e2
    have z1 := p3 (by omega)
    have HP := hid p2
    have HBOX := hid hbox
    have HBY := hid hby
    clear p1 p2 p3 he e1 hbox hby hkt hrd
    by_cases hk10 : k = 10
    · subst hk10
      have t0 : ¬ ((10 : Nat) : Int) < 10 := by omega
      go_wp2_with fail
      go_ret
      exact HBAD.out wo (.inl HR.out) HK.out (by cases l.drop m <;> simp [rdU])
    have hk9 : k ≤ 9 := by omega
    have t0 : (k : Int) < 10 := by omega
    by_cases hke : m = l.length
    · have tg : decide ((l.length : Int) ≤ (m : Int)) = true := decide_eq_true (by omega)
      have tg2 : decide (l.length ≤ m) = true := decide_eq_true (by omega)
      have HNIL := hid (show rdU k (l.drop m) = none by rw [List.drop_of_length_le (by omega)]; rfl)
      clear hke
      go_wp2_with fail
      go_quiet (fail)
      go_wp2_with fail
      go_ret
      exact HBAD.out (wo.drewN nq) (.inl (HDR.out nq).1) (HDR.out nq).2 HNIL.out
    have hml : m < l.length := by omega
    have hmlI : (m : Int) < l.length := Int.ofNat_lt.2 hml
    have tg : decide ((l.length : Int) ≤ (m : Int)) = false := decide_eq_false (by omega)
    have tg2 : decide (l.length ≤ m) = false := decide_eq_false (by omega)
    have hdrop : l.drop m = nth l m :: l.drop (m + 1) := by rw [List.drop_eq_getElem_cons hml, nth_eq _ _ hml]
    have cy := HP.out m hml
    obtain ⟨y, hy⟩ : ∃ y, nth l m = y := ⟨_, rfl⟩
    rw [hy] at hdrop cy
    have HD := hid hdrop
    have hyl := byte_lt y
    clear hdrop hy hke hk10
    have HDR2 := hid (fun nq => show RRb b ((wo.drewN nq).setCell ⟨b, 1, none⟩ (.int .i64 ((m + 1 : Nat) : Int))) l (m + 1) false ∧ KT b [81] w ((wo.drewN nq).setCell ⟨b, 1, none⟩ (.int .i64 ((m + 1 : Nat) : Int))) from ⟨(HDR.out nq).1.setAt (m + 1) (by omega), (HDR.out nq).2.trans ((HDR.out nq).1.store 1 _)⟩)
    have hmi : ((m + 1 : Nat) : Int) = (m : Int) + 1 := by omega
    rw [hmi] at HDR2
    clear hmi
    by_cases hcond : (k = 9 ∧ 1 < y.toNat) ∨ (0 < k ∧ y.toNat = 0)
    · have HNONE := hid (show rdU k (l.drop m) = none by
        rw [HD.out]
        unfold rdU
        rw [if_pos (by omega)])
      have hc3 : (k = 9 ∧ 1 < y.toNat) ∨ (k = 9 ∧ ¬ 1 < y.toNat ∧ y.toNat = 0) ∨ (0 < k ∧ k ≠ 9 ∧ y.toNat = 0) := by omega
      clear hcond
      rcases hc3 with ⟨ha, hb⟩ | ⟨ha, hb, hc⟩ | ⟨ha, hb, hc⟩
      · have t3 : ((k : Int) == 9) = true := by simp; omega
        have t4 : decide ((1 : Int) < (y.toNat : Int)) = true := decide_eq_true (by omega)
        have t4' : decide (1 < y.toNat) = true := decide_eq_true (by omega)
        clear ha hb
        go_wp2_with fail
        go_quiet (fail)
        go_wp2_with fail
        go_quiet (fail)
        go_wp2_with fail
        go_ret
        exact HBAD.out _ (.inr (HDR2.out _).1) (HDR2.out _).2 HNONE.out
      · have t3 : ((k : Int) == 9) = true := by simp; omega
        have t4 : decide ((1 : Int) < (y.toNat : Int)) = false := decide_eq_false (by omega)
        have t4' : decide (1 < y.toNat) = false := decide_eq_false (by omega)
        have t5 : ((y.toNat : Int) == 0) = true := by simp; omega
        have t6 : decide ((0 : Int) < (k : Int)) = true := decide_eq_true (by omega)
        have t7 : decide (0 < k) = true := decide_eq_true (by omega)
        clear ha hb hc
        go_wp2_with fail
        go_quiet (fail)
        go_wp2_with fail
        go_quiet (fail)
        go_wp2_with fail
        go_ret
        exact HBAD.out _ (.inr (HDR2.out _).1) (HDR2.out _).2 HNONE.out
      · have t3 : ((k : Int) == 9) = false := by simp; omega
        have t5 : ((y.toNat : Int) == 0) = true := by simp; omega
        have t6 : decide ((0 : Int) < (k : Int)) = true := decide_eq_true (by omega)
        have t7 : decide (0 < k) = true := decide_eq_true (by omega)
        clear ha hb hc
        go_wp2_with fail
        go_quiet (fail)
        go_wp2_with fail
        go_quiet (fail)
        go_wp2_with fail
        go_ret
        exact HBAD.out _ (.inr (HDR2.out _).1) (HDR2.out _).2 HNONE.out
    have hzk : k = 0 ∨ (0 < k ∧ k ≠ 9) ∨ k = 9 := by omega
    have hw7 : IntKind.i64.wrap (7 * (k : Int)) = 7 * (k : Int) := IntWalk.i64_in _ (by omega)
    have HRU := hid (show rdU k (l.drop m) = if y.toNat < 128 then some (y.toNat, l.drop (m + 1)) else match rdU (k + 1) (l.drop (m + 1)) with
        | none => none
        | some (u, s) => some (y.toNat % 128 + 128 * u, s) by
      rw [HD.out]
      conv => lhs; unfold rdU
      rw [if_neg (by omega)]
      rfl)
    have hpow : 2 ^ (7 * (k + 1)) = 2 ^ (7 * k) * 128 := by rw [show 7 * (k + 1) = 7 * k + 7 by omega, Nat.pow_add]
    have hmul : y.toNat % 128 * 2 ^ (7 * k) ≤ 127 * 2 ^ (7 * k) := Nat.mul_le_mul_right _ (by omega)
    have hsum : acc + y.toNat % 128 * 2 ^ (7 * k) < 2 ^ (7 * (k + 1)) := by rw [hpow]; omega
    have h64 : acc + y.toNat % 128 * 2 ^ (7 * k) < 2 ^ 64 := by
      by_cases h9 : k = 9
      · subst h9
        have : y.toNat ≤ 1 := by omega
        simp at hacc ⊢
        omega
      · have h63 : 2 ^ (7 * (k + 1)) ≤ 2 ^ 63 := Nat.pow_le_pow_right (by decide) (by omega)
        omega
    obtain ⟨u, hu⟩ : ∃ u, acc + y.toNat % 128 * 2 ^ (7 * k) = u := ⟨_, rfl⟩
    have hor : IntKind.u64.wrap ((acc : Int) + IntKind.u64.wrap ((y.toNat : Int) % 128 * 2 ^ (7 * k))) = ((u : Nat) : Int) := by
      have h4 : ((y.toNat : Int) % 128 * 2 ^ (7 * k)) = ((y.toNat % 128 * 2 ^ (7 * k) : Nat) : Int) := by push_cast; rfl
      rw [h4, u64w, u64w]
      omega
    have HU := hid hu
    have HUL := hid (show u < 2 ^ 64 by rw [← hu]; exact h64)
    have HUS := hid (show u < 2 ^ (7 * (k + 1)) by rw [← hu]; exact hsum)
    have HACC := hid hacc
    have HYC := hid hcond
    clear hpow hmul hsum h64 hu hacc hcond
    have hk64 : (7 * k) < 64 := by omega
    by_cases h128 : y.toNat < 128
    · have h128I : (y.toNat : Int) < 128 := by omega
      have HEND := hid (show ∀ nq, RNumQ b l n w (.returned (.int .i64 (zag u))) ((wo.drewN nq).setCell ⟨b, 1, none⟩ (.int .i64 ((m : Int) + 1))) from fun nq => by
        refine ⟨.inl ⟨zag u, m + 1, l.drop (m + 1), ?_, rfl, (HDR2.out nq).1, rfl⟩, (HDR2.out nq).2⟩
        unfold rdN
        rw [HRD.out, HRU.out, if_pos h128, ← HU.out, Nat.mod_eq_of_lt h128]
        show some (zag (acc + 2 ^ (7 * k) * y.toNat), _) = _
        rw [Nat.mul_comm (2 ^ (7 * k)) y.toNat])
      have HOD := hid (zag_odd u HUL.out)
      have HEV := hid (zag_even u HUL.out)
      have hodd : u % 2 = 1 ∨ ¬ u % 2 = 1 := Classical.em _
      clear h128
      rcases hodd with ho | ho
      · have o1 : ((u : Int) % 2 == 1) = true := by simp; omega
        rcases hzk with h9 | ⟨h0k, h9⟩ | h9
        all_goals
          first
            | (have t3 : ((k : Int) == 9) = false := by simp; omega
               have t5 : ¬ (0 : Int) < (k : Int) := by omega
               have t6 : decide ((0 : Int) < (k : Int)) = false := decide_eq_false t5
               have t7 : decide (0 < k) = false := decide_eq_false (by omega))
            | (have t3 : ((k : Int) == 9) = false := by simp; omega
               have t5 : ((y.toNat : Int) == 0) = false := by have := HYC.out; simp; omega
               have t6 : decide ((0 : Int) < (k : Int)) = true := decide_eq_true (by omega)
               have t7 : decide (0 < k) = true := decide_eq_true (by omega))
            | (have t3 : ((k : Int) == 9) = true := by simp; omega
               have t4 : decide ((1 : Int) < (y.toNat : Int)) = false := decide_eq_false (by have := HYC.out; omega)
               have t4' : decide (1 < y.toNat) = false := decide_eq_false (by have := HYC.out; omega)
               have t5 : ((y.toNat : Int) == 0) = false := by have := HYC.out; simp; omega
               have t6 : decide ((0 : Int) < (k : Int)) = true := decide_eq_true (by omega)
               have t7 : decide (0 < k) = true := decide_eq_true (by omega))
          clear h9
          go_wp2_with fail
          go_quiet (fail)
          go_wp2_with fail
          go_quiet (fail)
          go_wp2_with fail
          go_ret
          show RNumQ b l n w (.returned (.int .i64 (wrap64 (bits .xor .u64 IntKind.u64.max ((u : Int) / 2))))) _
          rw [HOD.out ho]
          exact HEND.out _
      · have o1 : ((u : Int) % 2 == 1) = false := by simp; omega
        rcases hzk with h9 | ⟨h0k, h9⟩ | h9
        all_goals
          first
            | (have t3 : ((k : Int) == 9) = false := by simp; omega
               have t5 : ¬ (0 : Int) < (k : Int) := by omega
               have t6 : decide ((0 : Int) < (k : Int)) = false := decide_eq_false t5
               have t7 : decide (0 < k) = false := decide_eq_false (by omega))
            | (have t3 : ((k : Int) == 9) = false := by simp; omega
               have t5 : ((y.toNat : Int) == 0) = false := by have := HYC.out; simp; omega
               have t6 : decide ((0 : Int) < (k : Int)) = true := decide_eq_true (by omega)
               have t7 : decide (0 < k) = true := decide_eq_true (by omega))
            | (have t3 : ((k : Int) == 9) = true := by simp; omega
               have t4 : decide ((1 : Int) < (y.toNat : Int)) = false := decide_eq_false (by have := HYC.out; omega)
               have t4' : decide (1 < y.toNat) = false := decide_eq_false (by have := HYC.out; omega)
               have t5 : ((y.toNat : Int) == 0) = false := by have := HYC.out; simp; omega
               have t6 : decide ((0 : Int) < (k : Int)) = true := decide_eq_true (by omega)
               have t7 : decide (0 < k) = true := decide_eq_true (by omega))
          clear h9
          go_wp2_with fail
          go_quiet (fail)
          go_wp2_with fail
          go_quiet (fail)
          go_wp2_with fail
          go_ret
          show RNumQ b l n w (.returned (.int .i64 (wrap64 ((u : Int) / 2)))) _
          rw [HEV.out ho]
          exact HEND.out _
    · have h128I : ¬ (y.toNat : Int) < 128 := by omega
      have HNX := hid (show rdU 0 (l.drop n) = (rdU (k + 1) (l.drop (m + 1))).map (fun q => (u + 2 ^ (7 * (k + 1)) * q.1, q.2)) by
        rw [HRD.out, HRU.out, if_neg h128]
        cases rdU (k + 1) (l.drop (m + 1)) with
        | none => rfl
        | some q =>
          simp only [Option.map_some, Option.some.injEq, Prod.mk.injEq, and_true]
          rw [← HU.out, show 7 * (k + 1) = 7 * k + 7 by omega, Nat.pow_add, Nat.mul_add, Nat.mul_assoc, ← Nat.add_assoc, Nat.mul_comm (2 ^ (7 * k)) (y.toNat % 128)])
      clear h128
      rcases hzk with h9 | ⟨h0k, h9⟩ | h9
      all_goals
        first
          | (have t3 : ((k : Int) == 9) = false := by simp; omega
             have t5 : ¬ (0 : Int) < (k : Int) := by omega
             have t6 : decide ((0 : Int) < (k : Int)) = false := decide_eq_false t5
             have t7 : decide (0 < k) = false := decide_eq_false (by omega))
          | (have t3 : ((k : Int) == 9) = false := by simp; omega
             have t5 : ((y.toNat : Int) == 0) = false := by have := HYC.out; simp; omega
             have t6 : decide ((0 : Int) < (k : Int)) = true := decide_eq_true (by omega)
             have t7 : decide (0 < k) = true := decide_eq_true (by omega))
          | (have t3 : ((k : Int) == 9) = true := by simp; omega
             have t4 : decide ((1 : Int) < (y.toNat : Int)) = false := decide_eq_false (by have := HYC.out; omega)
             have t4' : decide (1 < y.toNat) = false := decide_eq_false (by have := HYC.out; omega)
             have t5 : ((y.toNat : Int) == 0) = false := by have := HYC.out; simp; omega
             have t6 : decide ((0 : Int) < (k : Int)) = true := decide_eq_true (by omega)
             have t7 : decide (0 < k) = true := decide_eq_true (by omega))
        clear h9
        go_wp2_with fail
        go_quiet (fail)
        go_wp2_with fail
        go_quiet (fail)
        go_wp2_with fail
        refine ⟨⟨k + 1, u, by omega, by have := HM.out; omega, by go_num, rfl, HUS.out, ?_, ?_, (HDR2.out _).2⟩, by simp [intOf] <;> omega⟩
        · rw [show n + (k + 1) = m + 1 by have := HM.out; omega]
          exact HNX.out
        · rw [show n + (k + 1) = m + 1 by have := HM.out; omega]
          exact (HDR2.out _).1

end Go.Proofs.Ytkfpacklpelefaa
