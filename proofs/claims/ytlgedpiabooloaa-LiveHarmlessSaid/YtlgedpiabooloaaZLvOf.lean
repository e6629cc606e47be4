/-
  A block of the call's own that holds a struct or a variable: all its cells are known.
-/
import Derived.Test.YtlgedpiabooloaaProg
import Derived.Test.YtlgedpiabooloaaZRow
import Derived.Test.YtlgedpiabooloaaZBit
namespace Go.Proofs.Ytlgedpiabooloaa
set_option linter.unusedVariables false
set_option linter.unusedSimpArgs false
open Go.RowKit

def BoxAt (w : World) (b : Nat) (t : TypeId) (vs : List Value) : Prop := w.heap[b]? = some (.cells vs.toArray t (0, 0))

theorem BoxAt.new (w : World) (cs : Array Value) (t : TypeId) (b : Nat) (vs : List Value) (hb : b = w.heap.size) (hv : cs.toList = vs) : BoxAt (w.alloc (.cells cs t)) b t vs := by
  subst hb hv
  show (w.heap.push _)[w.heap.size]? = _
  simp
theorem BoxAt.lt {w : World} {b : Nat} {t : TypeId} {vs : List Value} (h : BoxAt w b t vs) : b < w.heap.size := (Array.getElem?_eq_some_iff.1 h).1
theorem BoxAt.cell {w : World} {b : Nat} {t : TypeId} {vs : List Value} (h : BoxAt w b t vs) (k : Nat) (u : Value) (hk : vs[k]? = some u) : w.cell? ⟨b, k, none⟩ = some u := by
  unfold BoxAt at h
  simp [World.cell?, h, hk]
theorem BoxAt.frozen {w : World} {b : Nat} {t : TypeId} {vs : List Value} (h : BoxAt w b t vs) (k : Nat) : w.frozen? ⟨b, k, none⟩ = false := by
  unfold BoxAt at h
  simp [World.frozen?, h]
theorem BoxAt.ofBlock {w w' : World} {b : Nat} {t : TypeId} {vs : List Value} (h : BoxAt w b t vs) (hb : w'.heap[b]? = w.heap[b]?) : BoxAt w' b t vs := by
  unfold BoxAt; rw [hb]; exact h
theorem BoxAt.below {w w' : World} {b : Nat} {t : TypeId} {vs : List Value} (h : BoxAt w b t vs) (hb : Below w.heap.size w w') : BoxAt w' b t vs := h.ofBlock (hb.block _ h.lt)
theorem BoxAt.alloc {w : World} {b : Nat} {t : TypeId} {vs : List Value} (h : BoxAt w b t vs) (o : Obj) : BoxAt (w.alloc o) b t vs := h.below ((Below.refl _ _).alloc (Nat.le_refl _) _)
theorem BoxAt.other {w : World} {b : Nat} {t : TypeId} {vs : List Value} (h : BoxAt w b t vs) (a : Addr) (u : Value) (ha : b ≠ a.block) : BoxAt (w.setCell a u) b t vs := h.ofBlock (Below.heap_setCell _ _ _ _ ha)
theorem BoxAt.set {w : World} {b : Nat} {t : TypeId} {vs : List Value} (h : BoxAt w b t vs) (k : Nat) (u : Value) : BoxAt (w.setCell ⟨b, k, none⟩ u) b t (vs.set k u) := by
  unfold BoxAt at h ⊢
  simp [World.setCell, Array.getElem?_modify, h]
theorem BoxAt.drewN {w : World} {b : Nat} {t : TypeId} {vs : List Value} (h : BoxAt w b t vs) (n : Nat) : BoxAt (w.drewN n) b t vs := h
theorem BoxAt.drew {w : World} {b : Nat} {t : TypeId} {vs : List Value} (h : BoxAt w b t vs) : BoxAt w.drew b t vs := h
theorem BoxAt.row {w : World} {b : Nat} {t : TypeId} {vs : List Value} (h : BoxAt w b t vs) : b < w.heap.size ∧ ∀ (k : Nat) (u : Value), vs[k]? = some u → w.cell? ⟨b, k, none⟩ = some u := ⟨h.lt, h.cell⟩

/-- All blocks but perhaps one are as they were. -/
def Only (row : Option Nat) (w w' : World) : Prop := w.heap.size ≤ w'.heap.size ∧ ∀ k, k < w.heap.size → some k ≠ row → w'.heap[k]? = w.heap[k]?
theorem Only.refl (row : Option Nat) (w : World) : Only row w w := ⟨Nat.le_refl _, fun _ _ _ => rfl⟩
theorem Only.trans {row : Option Nat} {a b c : World} (h : Only row a b) (k : Only row b c) : Only row a c :=
  ⟨Nat.le_trans h.1 k.1, fun q hq hr => (k.2 q (Nat.lt_of_lt_of_le hq h.1) hr).trans (h.2 q hq hr)⟩
theorem Only.weak {row : Option Nat} {a b : World} (h : Only none a b) : Only row a b := ⟨h.1, fun k hk _ => h.2 k hk (by simp)⟩
theorem Only.below {w w' : World} (h : Below w.heap.size w w') (row : Option Nat) : Only row w w' := ⟨h.size, fun k hk _ => h.block k hk⟩
theorem Only.alloc (row : Option Nat) (w : World) (o : Obj) : Only row w (w.alloc o) := Only.below ((Below.refl _ _).alloc (Nat.le_refl _) _) _
theorem Only.store (w : World) (b k : Nat) (u : Value) : Only (some b) w (w.setCell ⟨b, k, none⟩ u) :=
  ⟨by simp [World.setCell], fun q _ hr => Below.heap_setCell _ _ _ _ (fun h => hr (by rw [h]))⟩
theorem Only.grown {row : Option Nat} {w w' : World} (h : w.grownBy w' row) : Only row w w' := ⟨h.size, fun k hk hr => h.block k hk hr⟩
theorem BoxAt.only {w w' : World} {b : Nat} {t : TypeId} {vs : List Value} {row : Option Nat} (h : BoxAt w b t vs) (ho : Only row w w') (hr : some b ≠ row) : BoxAt w' b t vs := h.ofBlock (ho.2 b h.lt hr)
theorem OwnE.only {α : Type} {E : Enc α} {base : Nat} {e : TypeId} {w w' : World} {v : Value} {l : List α} {row : Option Nat} (h : OwnE E base e w v l) (ho : Only row w w') (hr : ∀ k, v.ownBlock = some k → some k ≠ row) : OwnE E base e w' v l := by
  refine ⟨h.1, ?_⟩
  rcases h.2 with h0 | ⟨g, cap, cur, hv, hb, hg, r⟩
  · exact .inl h0
  · refine .inr ⟨g, cap, cur, hv, hb, ?_, r⟩
    rw [ho.2 g (Array.getElem?_eq_some_iff.1 hg).1 (hr g (by rw [hv]; rfl))]
    exact hg
/-- A row's block is one of its elements' type. -/
theorem OwnE.typed {α : Type} {E : Enc α} {base : Nat} {e : TypeId} {w : World} {v : Value} {l : List α} (h : OwnE E base e w v l) (k : Nat) (hk : v.ownBlock = some k) : ∃ cur, w.heap[k]? = some (.cells cur e (0, 0)) := by
  rcases h.2 with ⟨rfl, _⟩ | ⟨g, cap, cur, rfl, hb, hg, r⟩
  · cases hk
  · obtain rfl : g = k := by simpa [Value.ownBlock] using hk
    exact ⟨cur, hg⟩
theorem OwnE.neBox {α : Type} {E : Enc α} {base : Nat} {e : TypeId} {w : World} {v : Value} {l : List α} {b : Nat} {t : TypeId} {vs : List Value} (h : OwnE E base e w v l) (hb : BoxAt w b t vs) (hne : e ≠ t) : ∀ k, v.ownBlock = some k → some k ≠ some b := by
  intro k hk he
  cases he
  obtain ⟨cur, hc⟩ := h.typed b hk
  unfold BoxAt at hb
  rw [hc] at hb
  simp at hb
  exact hne hb.2
theorem OwnE.neRow {α β : Type} {E : Enc α} {E' : Enc β} {base base' : Nat} {e e' : TypeId} {w : World} {v v' : Value} {l : List α} {l' : List β} (h : OwnE E base e w v l) (h' : OwnE E' base' e' w v' l') (hne : e ≠ e') : ∀ k, v.ownBlock = some k → some k ≠ v'.ownBlock := by
  intro k hk he
  obtain ⟨cur, hc⟩ := h.typed k hk
  obtain ⟨cur', hc'⟩ := h'.typed k he.symm
  rw [hc] at hc'
  simp at hc'
  exact hne hc'.2
theorem BoxAt.neRow {α : Type} {E : Enc α} {base : Nat} {e : TypeId} {w : World} {v : Value} {l : List α} {b : Nat} {t : TypeId} {vs : List Value} (hb : BoxAt w b t vs) (h : OwnE E base e w v l) (hne : e ≠ t) : some b ≠ v.ownBlock := fun he => h.neBox hb hne b he.symm rfl
theorem BoxAt.neBox {w : World} {b b' : Nat} {t t' : TypeId} {vs vs' : List Value} (h : BoxAt w b t vs) (h' : BoxAt w b' t' vs') (hne : t ≠ t') : some b ≠ some b' := by
  intro he
  cases he
  unfold BoxAt at h h'
  rw [h] at h'
  simp at h'
  exact hne h'.2

end Go.Proofs.Ytlgedpiabooloaa

/-
  Package live's sets: from lists to bits and back.
-/
namespace Go.Proofs.Ytlgedpiabooloaa
set_option linter.unusedVariables false
set_option linter.unusedSimpArgs false
open Go.RowKit

set_option maxHeartbeats 1000000 in
theorem of_calls (lo : Nat) (v : Value) (l : List Int) (w : World) (hl : IntsAt lo w v l) (hr : ∀ r ∈ l, 0 ≤ r ∧ r < 64) :
    Calls Try.prog 52 #[v] w fun e w' => e = .returned (.int .u64 (setB l).toNat) ∧ w = w' := by
  obtain ⟨a, c, b, o, rfl, p1, q1, k1, _, _, m1, n1⟩ := hl.open
  have HR := hid hr
  have HQ := hid (And.intro p1 (And.intro q1 k1))
  clear p1 q1 k1 hr hl
  go_enter Try.func52, Try.ntmps52
  go_wp2_with fail
  go_loop [3, 8] (fun s i => ∃ k : Nat, k ≤ l.length ∧ i = .int .i64 k ∧ s = .int .u64 (setB (l.take k)).toNat) (fun _ i => l.length - (intOf i).toNat)
  case atStart => exact ⟨0, Nat.zero_le _, rfl, rfl⟩
  case round =>
    obtain ⟨k, hk, rfl, rfl⟩ := hrel
    by_cases hlt : k < l.length
    · obtain ⟨p1, q1, k1⟩ := HQ.out
      have e1 := p1 (by omega)
      subst e1
      have d0 := q1 k hlt
      have z1 := k1 (by omega)
      have hlt2 : (k : Int) < l.length := by omega
      have hm := HR.out _ (nth_mem l k hlt)
      have HSN := hid (show setB (l.take (k + 1)) = setB (l.take k) ||| bitB (nth l k) by
        rw [List.take_add_one, List.getElem?_eq_getElem hlt, nth_eq _ _ hlt]
        exact setB_snoc _ _)
      obtain ⟨r, hre⟩ : ∃ r, nth l k = r := ⟨_, rfl⟩
      rw [hre] at d0 hm HSN
      have hr0 : 0 ≤ r := hm.1
      have hr1 : r ≤ 64 := by omega
      have hr2 : r < 64 := hm.2
      have hsh := bits_bit r hr0 hr2
      clear p1 q1 k1 hm hre
      go_wp2_with fail
      go_round
      case rel => exact ⟨k + 1, by omega, by go_num, by rw [HSN.out, ← bits_or]⟩
      case measure => simp [intOf] <;> omega
    · go_wp2_with fail
      go_ret
      exact ⟨by rw [List.take_of_length_le (by omega)]; rfl, rfl⟩

theorem infoI14 : (Try.prog.info? 3).map (fun i => (i.zero, i.size, i.bytes)) = some (some (.int .i64 0), intE.sz, 8) := by kernel_rfl

set_option maxHeartbeats 1000000 in
theorem list_calls (m : BitVec 64) (w : World) :
    Calls Try.prog 32 #[.int .u64 m.toNat] w fun e w' => ∃ v', e = .returned v' ∧ IntsAt w.heap.size w' v' (listB m 64) ∧ Below w.heap.size w w' := by
  go_enter Try.func32, Try.ntmps32
  go_wp2_with fail
  go_loopw [3, 5] (fun v i wr => ∃ k : Nat, k ≤ 64 ∧ i = .int .i64 k ∧ OwnE intE w.heap.size 3 wr v (listB m k) ∧ Below w.heap.size w wr) (fun _ i _ => 64 - (intOf i).toNat)
  case atStart => exact ⟨0, by omega, rfl, OwnE.nil _ _ _ _, Below.refl _ _⟩
  case round =>
    obtain ⟨k, hk, rfl, hown, hbl⟩ := hrel
    obtain ⟨wo, hwo⟩ : ∃ wo, wo = wr := ⟨_, rfl⟩
    subst hwo
    have HO := hid hown
    have HB := hid hbl
    have HZ := hid hbl.size
    have HLN := hid (listB_len m k)
    have HSU := hid (listB_succ m k)
    clear hown hbl
    by_cases hlt : k < 64
    · have hlt2 : (k : Int) < 64 := by omega
      have h0 : 0 ≤ (k : Int) := by omega
      have h1 : (k : Int) ≤ 64 := by omega
      have hsh := bits_shrB m k
      have hb1 := bits_oneB m k
      cases hb : m.getLsbD k with
      | true =>
        rw [hb] at HSU hb1
        obtain ⟨L, hL⟩ : ∃ L, listB m k = L := ⟨_, rfl⟩
        rw [hL] at HO HLN HSU
        clear hb
        go_wp2_with (
          at_builtin
          go_loud (refine wpList_append_one intE (o := ⟨some 16, _, _, _, _, _⟩) rfl (.tmp 13) (.tmp 15) 30 rfl w.heap.size wo.heap.size 3 _ 8 Try.underlying30 infoI14 rfl L k (HO.out.alloc _) ((OwnE.lit intE wo wo.heap.size 3 [(k : Int)] _ wo.heap.size 1 rfl (Nat.le_refl _) rfl rfl (by simp)).sl (Nat.le_refl _) (by simp)) (by have := HLN.out; omega) (by have := HLN.out; simp only [maxLen]; omega) (by simp; have := HZ.out; omega) ?_)
          intro g2 cap2 w3 ho2 hg2 hl2 hb4
          have HO2 := hid ho2
          have HB4 := hid hb4
          clear ho2 hb4)
        go_roundw
        case rel => exact ⟨k + 1, by omega, by go_num, by rw [HSU.out]; exact HO2.out, HB.out.trans (((Below.refl _ _).alloc HZ.out _).trans HB4.out)⟩
        case measure => simp [intOf] <;> omega
      | false =>
        rw [hb] at HSU hb1
        clear hb
        go_wp2_with fail
        go_roundw
        case rel => exact ⟨k + 1, by omega, by go_num, by rw [HSU.out]; simpa using HO.out, HB.out⟩
        case measure => simp [intOf] <;> omega
    · have HK := hid (show k = 64 by omega)
      go_wp2_with fail
      go_ret
      rw [HK.out] at HO HLN
      exact ⟨_, rfl, HO.out.sl (Nat.le_refl _) (by have := HLN.out; omega), HB.out⟩

end Go.Proofs.Ytlgedpiabooloaa
