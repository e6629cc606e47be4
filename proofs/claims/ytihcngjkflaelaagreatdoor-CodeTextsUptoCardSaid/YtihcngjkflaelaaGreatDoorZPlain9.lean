/-
  law09.plain walked: a copy without Main and offsets; whether a name holds a blank or a line feed.
-/
import Derived.Test.YtihcngjkflaelaaGreatDoorZCopy
import Derived.Test.YtihcngjkflaelaaGreatDoorZPut
import Derived.Test.YtihcngjkflaelaaGreatDoorZTxtQ
import Derived.Test.YtihcngjkflaelaaGreatDoorZTxtR
import Derived.Test.YtihcngjkflaelaaGreatDoorZLine9
namespace Go.Proofs.YtihcngjkflaelaaGreatDoor
set_option linter.unusedVariables false
set_option linter.unusedSimpArgs false
open Go.RowKit

/-- All names, one behind the other. -/
def namesL (p : Prg) : List UInt8 := p.globals.flatMap (fun g => bl g.name) ++ p.funcs.flatMap (fun f => bl f.name)
def okC (c : UInt8) : Bool := !(c == 32 || c == 10)
def plainB (p : Prg) : Bool := (namesL p).all okC

/-- The functions in front of F are bare. -/
def zF (p : Prg) (F : Nat) : List Fun := (p.funcs.take F).map bareF ++ p.funcs.drop F
def zK (f : Fun) (K : Nat) : Fun := { f with code := (f.code.take K).map bareI ++ f.code.drop K }
theorem zF_len (p : Prg) (F : Nat) (h : F ≤ p.funcs.length) : (zF p F).length = p.funcs.length := by
  unfold zF; simp; omega
theorem zF_zero (p : Prg) : zF p 0 = p.funcs := by simp [zF]
theorem zF_end (p : Prg) : zF p p.funcs.length = p.funcs.map bareF := by simp [zF]
theorem zF_nth (p : Prg) (F : Nat) (h : F < p.funcs.length) : nth (zF p F) F = nth p.funcs F := by
  unfold zF nth
  rw [List.getD_eq_getElem?_getD, List.getD_eq_getElem?_getD, List.getElem?_append_right (by simp; omega)]
  simp [Nat.min_eq_left (Nat.le_of_lt h)]
theorem zK_len (f : Fun) (K : Nat) (h : K ≤ f.code.length) : (zK f K).code.length = f.code.length := by
  unfold zK; simp; omega
theorem zK_zero (f : Fun) : zK f 0 = f := by simp [zK]
theorem zK_end (f : Fun) : zK f f.code.length = bareF f := by simp [zK, bareF]
theorem zK_nth (f : Fun) (K : Nat) (h : K < f.code.length) : nth (zK f K).code K = nth f.code K := by
  unfold zK nth
  rw [List.getD_eq_getElem?_getD, List.getD_eq_getElem?_getD, List.getElem?_append_right (by simp; omega)]
  simp [Nat.min_eq_left (Nat.le_of_lt h)]
theorem set_app_right {α : Type} (a b : List α) (n : Nat) (x : α) (h : a.length = n) : (a ++ b).set n x = a ++ b.set 0 x := by
  subst h; simp
theorem take_succ_nth {α : Type} [Inhabited α] (l : List α) (k : Nat) (h : k < l.length) : l.take (k + 1) = l.take k ++ [nth l k] := by
  rw [nth_eq _ _ h, List.take_succ_eq_append_getElem h]
theorem drop_nth {α : Type} [Inhabited α] (l : List α) (k : Nat) (h : k < l.length) : l.drop k = nth l k :: l.drop (k + 1) := by
  rw [nth_eq _ _ h, List.drop_eq_getElem_cons h]
theorem zK_set (f : Fun) (K : Nat) (h : K < f.code.length) : (zK f K).code.set K (bareI (nth f.code K)) = (zK f (K + 1)).code := by
  unfold zK
  simp only
  rw [set_app_right _ _ _ _ (by simp; omega), drop_nth _ _ h, take_succ_nth _ _ h]
  simp
theorem zF_set (p : Prg) (F : Nat) (h : F < p.funcs.length) : (zF p F).set F (bareF (nth p.funcs F)) = zF p (F + 1) := by
  unfold zF
  rw [set_app_right _ _ _ _ (by simp; omega), drop_nth _ _ h, take_succ_nth _ _ h]
  simp
theorem zF_self (p : Prg) (F : Nat) (h : F < p.funcs.length) : (zF p F).set F (nth p.funcs F) = zF p F := by
  unfold zF
  rw [set_app_right _ _ _ _ (by simp; omega), drop_nth _ _ h]
  simp
theorem zF_name (p : Prg) (F : Nat) (f : Fun) (h : f.name = (nth p.funcs F).name) (hF : F < p.funcs.length) : f.name = (nth p.funcs F).name := h

theorem OwnFuns.mono {base base' : Nat} {w : World} {v : Value} {l : List Fun} {ss : List Slc} (h : OwnFuns base w v l ss) (hb : base' ≤ base) : OwnFuns base' w v l ss := ⟨h.len, h.row.mono hb, fun i hi => (h.code i hi).mono hb, h.apart⟩
/-- The state: the copy q in its box, its rows the call's own. -/
structure PlSt (base b : Nat) (wr : World) (fv gv lv : Value) (L : List Fun) (p : Prg) (ss rs : List Slc) : Prop where
  funcs : OwnFuns base wr fv L ss
  globs : OwnE globE base 45 wr gv p.globals
  lays : OwnLays base wr lv p.layouts rs
  box : BoxAt wr b 26 [fv, gv, lv, .int .i64 0]
  res : BoxAt wr (base + 1) 26 [.slice none 0 0, .slice none 0 0, .slice none 0 0, .int .i64 0]
theorem PlSt.fresh {base b : Nat} {w w' : World} {fv gv lv : Value} {L : List Fun} {p : Prg} {ss rs : List Slc} (h : PlSt base b w fv gv lv L p ss rs) (ho : Only none w w') : PlSt base b w' fv gv lv L p ss rs :=
  ⟨h.funcs.fresh ho, h.globs.fresh ho, h.lays.fresh ho, h.box.fresh ho, h.res.fresh ho⟩
/-- One offset is put to 0. -/
theorem PlSt.put {base b : Nat} {w : World} {fv gv lv : Value} {p : Prg} {ss rs : List Slc} (F K g n cap : Nat) (hF : F < p.funcs.length) (hK : K < (nth p.funcs F).code.length) (hs : (nth ss F).val = .slice (some ⟨g, 0, none⟩) n cap)
    (h : PlSt base b w fv gv lv ((zF p F).set F (zK (nth p.funcs F) K)) p ss rs) : PlSt base b (w.setCell ⟨g, K * 5 + 4, none⟩ (.int .i64 0)) fv gv lv ((zF p F).set F (zK (nth p.funcs F) (K + 1))) p ss rs := by
  have hzl := zF_len p F (Nat.le_of_lt hF)
  have hn : nth ((zF p F).set F (zK (nth p.funcs F) K)) F = zK (nth p.funcs F) K := nth_set_eq _ _ _ (by omega)
  have hcode := h.funcs.code F (by rw [List.length_set]; omega)
  rw [hs, hn] at hcode
  have hS : Only (some g) w (w.setCell ⟨g, K * 5 + 4, none⟩ (.int .i64 0)) := Only.store w g (K * 5 + 4) (.int .i64 0)
  have hput := h.funcs.put F g n cap K 4 (.int .i64 0) (bareI (nth (nth p.funcs F).code K)) (by rw [List.length_set]; omega) hs (by rw [hn, zK_len _ _ (Nat.le_of_lt hK)]; exact hK) (by decide) (by rw [hn, zK_nth _ _ hK]; rfl)
  rw [hn, zK_set _ _ hK, List.set_set] at hput
  exact ⟨hput, h.globs.only hS (h.globs.neRow hcode (by decide)), h.lays.only hS (h.lays.row.neRow hcode (by decide)) (fun i hi => (h.lays.each i hi).neRow hcode (by decide)),
    h.box.only hS (h.box.neRow hcode (by decide)), h.res.only hS (h.res.neRow hcode (by decide))⟩

theorem plain_results (tmps : Array Value) (w : World) (b : Nat) (x y z m : Value) (e : Bool) (h2 : tmps.getD 2 undef = .pointer (some ⟨b, 0, none⟩)) (h3 : tmps.getD 3 undef = .bool e) (hx : BoxAt w b 26 [x, y, z, m]) :
    (results Tryz.f9 tmps).run Tryz.prog w = .ok (.tuple #[.agg #[x, y, z, m], .bool e]) w := by
  have g0 := hx.cell 0 _ rfl
  have g1 := hx.cell 1 _ rfl
  have g2 := hx.cell 2 _ rfl
  have g3 := hx.cell 3 _ rfl
  have h2' : tmps[2]?.getD undef = .pointer (some ⟨b, 0, none⟩) := by simpa using h2
  have h3' : tmps[3]?.getD undef = .bool e := by simpa using h3
  simp [results, Tryz.results9, h2', h3', asAddr, go_sem, g0, g1, g2, g3]
set_option maxRecDepth 100000 in
set_option maxHeartbeats 8000000 in
theorem plain_calls (lo : Nat) (vf vg vl : Value) (p : Prg) (w : World) (hp : ProgAt lo w vf vg vl p) (hwf : PrgWf p) (hN : (namesL p).length ≤ 140737488355328) :
    Calls Tryz.prog 9 #[.agg #[vf, vg, vl, .int .i64 p.main]] w fun e w' => ∃ uf ug ul, e = .returned (.tuple #[.agg #[uf, ug, ul, .int .i64 0], .bool (plainB p)]) ∧ OwnPrg w.heap.size w' uf ug ul (bareP p) ∧ Below w.heap.size w w' := by
  have HP := hid hp
  have HWF := hid hwf
  have HN := hid hN
  clear hp hwf hN
  go_enter Tryz.func9, Tryz.ntmps9
  go_wp2_with fail
  generalize hW : World.alloc _ _ = W
  have hbW : Below w.heap.size w W := by rw [← hW]; exact ((Below.refl _ _).alloc (Nat.le_refl _) _).alloc (by simp) _
  have R2 := hid (show BoxAt W (w.heap.size + 1) 26 [.slice none 0 0, .slice none 0 0, .slice none 0 0, .int .i64 0] by rw [← hW]; exact BoxAt.new _ _ _ _ _ (by simp) rfl)
  have HBW := hid hbW
  have hWz : w.heap.size + 2 = W.heap.size := by rw [← hW]; simp
  have HWZ := hid hWz
  clear hW hbW hWz
  refine (copy_calls lo vf vg vl p W (HP.out.below HBW.out) HWF.out).mono ?_
  rintro e w3 ⟨uf, ug, ul, rfl, ho3, hb3⟩
  have HB3 := hid (bvia HBW.out hb3)
  have R3 := hid (R2.out.below hb3)
  obtain ⟨ss, hfs⟩ := ho3.funcs
  obtain ⟨rs, hls⟩ := ho3.lays
  obtain ⟨fa', fc', hfe⟩ := hfs.row.anySlice
  obtain ⟨ga', gc', rfl⟩ := ho3.globs.anySlice
  obtain ⟨la', lc', rfl⟩ := hls.row.anySlice
  rw [hls.len] at ho3 hls ⊢
  have hzl : (p.funcs.zip ss).length = p.funcs.length := by rw [List.length_zip, hfs.len]; simp
  rw [hzl] at hfe
  subst hfe
  have hb3z := hb3.size
  have hle2 : w.heap.size ≤ W.heap.size := by have := HWZ.out; omega
  have HFS := hid (hfs.mono hle2)
  have HLS := hid (hls.mono hle2)
  have HGS := hid (ho3.globs.mono hle2)
  clear hb3 ho3 hfs hls hzl hle2
  go_wp2_with fail
  generalize hW4 : World.alloc _ _ = W4
  have hb4 : Below w3.heap.size w3 W4 := by rw [← hW4]; exact (Below.refl _ _).alloc (Nat.le_refl _) _
  have PL0 := hid (show PlSt w.heap.size w3.heap.size W4 (.slice fa' p.funcs.length fc') (.slice ga' p.globals.length gc') (.slice la' p.layouts.length lc') (zF p 0) p ss rs by
    rw [zF_zero]
    exact ⟨HFS.out.fresh (Only.below hb4 _), OwnE.fresh HGS.out (Only.below hb4 _), HLS.out.fresh (Only.below hb4 _), by rw [← hW4]; exact BoxAt.new _ _ _ _ _ rfl rfl, R3.out.fresh (Only.below hb4 _)⟩)
  have HB4 := hid (bvia HB3.out hb4)
  obtain ⟨b, hb⟩ : ∃ b, w3.heap.size = b := ⟨_, rfl⟩
  rw [hb] at PL0 ⊢
  have hbB : w.heap.size + 2 ≤ b := by rw [← hb, HWZ.out]; exact hb3z
  have HbB := hid hbB
  clear hW4 hb4 HFS HLS HGS R2 R3 HB3 hb hb3z hbB HWZ HBW
  go_loopw [6, 5] (fun iv sv wr => ∃ (k : Nat) (S : ByteArray), k ≤ p.globals.length ∧ iv = .int .i64 k ∧ sv = .string S ∧ bl S = (p.globals.take k).flatMap (fun g => bl g.name) ∧ Below W4.heap.size W4 wr) (fun iv _ _ => p.globals.length - (intOf iv).toNat)
  case atStart => exact ⟨0, ⟨#[]⟩, Nat.zero_le _, rfl, rfl, rfl, Below.refl _ _⟩
  case round =>
  obtain ⟨k, S, hk, rfl, rfl, hS, hbl⟩ := hrel
  obtain ⟨wo, hwo⟩ : ∃ wo, wo = wr := ⟨_, rfl⟩
  subst hwo
  have HS := hid hS
  have PL := hid (PL0.out.fresh (Only.below hbl none))
  have HBL := hid hbl
  have c1 := PL.out.box.cell 1 _ rfl
  have cz := PL.out.box.lt
  have hSz : S.size ≤ (p.globals.flatMap (fun g => bl g.name)).length := by
    rw [bl_size, hS]; exact take_flat _ _ _
  clear hS hbl
  by_cases hlt : k < p.globals.length
  · have hlt2 : (k : Int) < p.globals.length := Int.ofNat_lt.2 hlt
    have hki : ¬ ((k : Int) < 0) := by omega
    obtain ⟨gg, gcap, hge, hg1, hg2⟩ := PL.out.globs.open (by omega)
    obtain ⟨rfl, -, rfl⟩ := Value.slice.inj hge
    obtain ⟨g, hg⟩ : ∃ g, nth p.globals k = g := ⟨_, rfl⟩
    have y0 := PL.out.globs.cellAt k 0 hlt (by decide)
    rw [hg] at y0
    have y0' : wo.cell? ⟨gg, k * 2, none⟩ = some (.string g.name) := y0
    have hnm : g.name.size ≤ 140737488355328 := by rw [← hg]; exact (HWF.out.glob _ (nth_mem p.globals k hlt)).1
    have hpl : (p.globals.flatMap (fun g => bl g.name)).length ≤ 140737488355328 := by have := HN.out; unfold namesL at this; rw [List.length_append] at this; omega
    have hs1 : ¬ (9223372036854775807 < S.size + g.name.size) := by omega
    have HL := hid (take_flat_succ (fun g => bl g.name) p.globals k hlt)
    rw [hg] at HL
    have hgl := HWF.out.globs
    clear hg hge y0 hSz hnm hpl
    go_wp2_with fail
    go_roundw
    case rel =>
      refine ⟨k + 1, _, by omega, by go_num, rfl, ?_, HBL.out⟩
      rw [HL.out, ← HS.out, bl_append]
    case measure => simp [intOf] <;> omega
  · have hke : k = p.globals.length := by omega
    subst hke
    obtain ⟨GL, hGL⟩ : ∃ GL, p.globals.flatMap (fun g => bl g.name) = GL := ⟨_, rfl⟩
    have HGL := hid hGL
    have hS1 := HS.out
    rw [List.take_length, hGL] at hS1
    have HS1 := hid hS1
    have hNN : GL.length + (p.funcs.flatMap (fun f => bl f.name)).length ≤ 140737488355328 := by
      have := HN.out
      unfold namesL at this
      rw [List.length_append, hGL] at this
      exact this
    have HNN := hid hNN
    have HBW4 := hid (bvia HB4.out HBL.out)
    clear hGL hS1 hNN
    go_wp2_with fail
    go_loopw [7, 5] (fun iv sv wr => ∃ (F : Nat) (S : ByteArray), F ≤ p.funcs.length ∧ iv = .int .i64 F ∧ sv = .string S ∧ bl S = GL ++ (p.funcs.take F).flatMap (fun f => bl f.name) ∧ PlSt w.heap.size b wr (.slice fa' p.funcs.length fc') (.slice ga' p.globals.length gc') (.slice la' p.layouts.length lc') (zF p F) p ss rs ∧ Below w.heap.size w wr) (fun iv _ _ => p.funcs.length - (intOf iv).toNat)
    case atStart => exact ⟨0, S, Nat.zero_le _, rfl, rfl, by rw [HS1.out]; simp, PL.out, HBW4.out⟩
    case round =>
    clear c1 cz HS HBL HS1 hSz PL PL0 HB4 HBW4 hlt hk
    obtain ⟨F, S, hF, rfl, rfl, hS, hpl, hbl⟩ := hrel
    obtain ⟨wo, hwo⟩ : ∃ wo, wo = wr := ⟨_, rfl⟩
    subst hwo
    have HS := hid hS
    have PL := hid hpl
    have HBL := hid hbl
    have c0 := hpl.box.cell 0 _ rfl
    have cz := hpl.box.lt
    have hSz : S.size ≤ GL.length + (p.funcs.flatMap (fun f => bl f.name)).length := by
      rw [bl_size, hS, List.length_append]; have := take_flat (fun f => bl f.name) p.funcs F; omega
    clear hS hbl hpl
    by_cases hlt : F < p.funcs.length
    · have hlt2 : (F : Int) < p.funcs.length := Int.ofNat_lt.2 hlt
      have hki : ¬ ((F : Int) < 0) := by omega
      have hzl := zF_len p F (by omega)
      have hfs := PL.out.funcs
      have hzz : ((zF p F).zip ss).length = p.funcs.length := by rw [List.length_zip, hfs.len, hzl]; simp
      obtain ⟨fg, fcap, hge, hg1, hg2⟩ := hfs.row.open (by rw [hzz]; omega)
      obtain ⟨rfl, -, rfl⟩ := Value.slice.inj hge
      obtain ⟨f, hf⟩ : ∃ f, nth p.funcs F = f := ⟨_, rfl⟩
      have hnz := nth_zip (zF p F) ss F (by omega) (by rw [hfs.len]; omega)
      rw [zF_nth _ _ hlt, hf] at hnz
      obtain ⟨ca, cc, hcs⟩ := (hfs.code F (by omega)).anySlice
      rw [zF_nth _ _ hlt, hf] at hcs
      have y0 := hfs.row.cellAt F 0 (by rw [hzz]; exact hlt) (by decide)
      rw [hnz] at y0
      have y0' : wo.cell? ⟨fg, F * 4, none⟩ = some (.string f.name) := y0
      have hnm : f.name.size ≤ 140737488355328 := by rw [← hf]; exact (HWF.out.func _ (nth_mem p.funcs F hlt)).name
      have hN2 := HNN.out
      have hs1 : ¬ (9223372036854775807 < S.size + f.name.size) := by omega
      have HL := hid (take_flat_succ (fun f => bl f.name) p.funcs F hlt)
      rw [hf] at HL
      have HF := hid hf
      have HCS := hid hcs
      have PL1 := hid (show PlSt w.heap.size b wo (.slice (some ⟨fg, 0, none⟩) p.funcs.length fc') (.slice ga' p.globals.length gc') (.slice la' p.layouts.length lc') ((zF p F).set F (zK (nth p.funcs F) 0)) p ss rs by
        rw [zK_zero, zF_self _ _ hlt]; exact PL.out)
      clear hf hge y0 hSz hnm hN2 hfs hzz hnz hcs hzl PL hg1
      go_wp2_with fail
      go_loopw [8] (fun kv wr => ∃ (K : Nat), K ≤ f.code.length ∧ kv = .int .i64 K ∧ PlSt w.heap.size b wr (.slice (some ⟨fg, 0, none⟩) p.funcs.length fc') (.slice ga' p.globals.length gc') (.slice la' p.layouts.length lc') ((zF p F).set F (zK (nth p.funcs F) K)) p ss rs ∧ Below w.heap.size w wr) (fun kv _ => f.code.length - (intOf kv).toNat)
      case atStart => exact ⟨0, Nat.zero_le _, rfl, PL1.out, HBL.out⟩
      case round =>
      clear c0 cz y0' PL1 HBL hg2
      obtain ⟨K, hK, rfl, hpl, hbl⟩ := hrel
      obtain ⟨wi, hwi⟩ : ∃ wi, wi = wr := ⟨_, rfl⟩
      subst hwi
      have PL := hid hpl
      have HBL := hid hbl
      have c0 := hpl.box.cell 0 _ rfl
      have cz := hpl.box.lt
      have hzl : ((zF p F).set F (zK (nth p.funcs F) K)).length = p.funcs.length := by rw [List.length_set]; exact zF_len p F (by omega)
      have hfs := hpl.funcs
      have hzz : (((zF p F).set F (zK (nth p.funcs F) K)).zip ss).length = p.funcs.length := by rw [List.length_zip, hfs.len, hzl]; simp
      have hgo := hfs.row.open (by rw [hzz]; omega)
      have hg2 : fg < wi.heap.size := by
        obtain ⟨fg', _, hge, _, hg2⟩ := hgo
        obtain ⟨e, -, -⟩ := Value.slice.inj hge
        simp at e
        rw [e]; exact hg2
      have hnl : nth ((zF p F).set F (zK (nth p.funcs F) K)) F = zK (nth p.funcs F) K := nth_set_eq _ _ _ (by rw [zF_len p F (by omega)]; omega)
      have hnz := nth_zip ((zF p F).set F (zK (nth p.funcs F) K)) ss F (by omega) (by rw [hfs.len]; omega)
      rw [hnl] at hnz
      have y3 := hfs.row.cellAt F 3 (by rw [hzz]; exact hlt) (by decide)
      rw [hnz] at y3
      have y3' : wi.cell? ⟨fg, F * 4 + 3, none⟩ = some (nth ss F).val := y3
      rw [HCS.out] at y3'
      have hcode := hfs.code F (by omega)
      rw [HCS.out, hnl] at hcode
      clear hbl hpl hzl hfs hzz hgo hnl hnz y3
      by_cases hKl : K < f.code.length
      · have hKl2 : (K : Int) < f.code.length := Int.ofNat_lt.2 hKl
        have hki2 : ¬ ((K : Int) < 0) := by omega
        have hkl : (zK (nth p.funcs F) K).code.length = f.code.length := by rw [HF.out]; exact zK_len _ _ hK
        obtain ⟨cg, ccap, hce, hcg1, hcg2⟩ := hcode.open (by omega)
        obtain ⟨rfl, -, rfl⟩ := Value.slice.inj hce
        have y4 := hcode.cellAt K 4 (by omega) (by decide)
        rw [HF.out, zK_nth _ _ hKl] at y4
        obtain ⟨x, hx⟩ : ∃ x, nth f.code K = x := ⟨_, rfl⟩
        rw [hx] at y4
        have y4' : wi.cell? ⟨cg, K * 5 + 4, none⟩ = some (.int .i64 x.pos) := y4
        have y7 := hcode.frozenAt (K * 5 + 4)
        have hcg3 : w.heap.size ≤ cg := hcg1
        clear hkl hce y4 hx hcode hcg1
        go_wp2_with fail
        have hw1 : wrap64 ((K : Int) + 1) = ((K + 1 : Nat) : Int) := by
          have h1 := (HWF.out.func _ (nth_mem p.funcs F hlt)).code
          rw [HF.out] at h1
          unfold wrap64; omega
        rw [hw1]
        have hput := PL.out.put F K cg f.code.length cc hlt (by rw [HF.out]; exact hKl) HCS.out
        have hbs : Below w.heap.size w (wi.setCell ⟨cg, K * 5 + 4, none⟩ (.int .i64 0)) := HBL.out.setCell hcg3 _
        refine ⟨⟨K + 1, hKl, rfl, hput, hbs⟩, ?_⟩
        simp only [intOf, Int.toNat_natCast]
        exact Nat.sub_lt_sub_left hKl (Nat.lt_succ_self K)
      · have hke : K = f.code.length := by omega
        subst hke
        have hPE : PlSt w.heap.size b wi (.slice (some ⟨fg, 0, none⟩) p.funcs.length fc') (.slice ga' p.globals.length gc') (.slice la' p.layouts.length lc') (zF p (F + 1)) p ss rs := by
          have h1 := PL.out
          rw [HF.out, zK_end, ← HF.out, zF_set _ _ hlt] at h1
          exact h1
        have HPE := hid hPE
        have hfl := HWF.out.funcs
        clear hPE PL
        go_wp2_with fail
        go_roundw
        case rel =>
          refine ⟨F + 1, _, by omega, by go_num, rfl, ?_, HPE.out, HBL.out⟩
          rw [HL.out, ← List.append_assoc, ← HS.out, bl_append]
        case measure => simp [intOf] <;> omega
    · have hke : F = p.funcs.length := by omega
      subst hke
      have hSL : bl S = namesL p := by rw [HS.out, List.take_length, HGL.out.symm]; rfl
      have HSL := hid hSL
      have hPE := PL.out
      rw [zF_end] at hPE
      have HPE := hid hPE
      have hS2 : S.size ≤ 140737488355328 := by have := HNN.out; omega
      clear hSL hPE PL HS hSz
      go_wp2_with fail
      go_loopw [9] (fun iv wr => ∃ (i : Nat), i ≤ S.size ∧ iv = .int .i64 i ∧ (∀ c ∈ (bl S).take i, okC c = true) ∧ Below wo.heap.size wo wr) (fun iv _ => S.size - (intOf iv).toNat)
      case atStart => exact ⟨0, Nat.zero_le _, rfl, by simp, Below.refl _ _⟩
      case round =>
      clear c0 cz
      obtain ⟨i, hi, rfl, hok, hbl⟩ := hrel
      obtain ⟨wi, hwi⟩ : ∃ wi, wi = wr := ⟨_, rfl⟩
      subst hwi
      have HOK := hid hok
      have PLi := hid (HPE.out.fresh (Only.below hbl none))
      have HBLi := hid (bvia HBL.out hbl)
      have HBLO := hid hbl
      have c0 := PLi.out.box.cell 0 _ rfl
      have c1 := PLi.out.box.cell 1 _ rfl
      have c2 := PLi.out.box.cell 2 _ rfl
      have c3 := PLi.out.box.cell 3 _ rfl
      have cz := PLi.out.box.lt
      have r0 := PLi.out.res.cell 0 _ rfl
      have r1 := PLi.out.res.cell 1 _ rfl
      have r2 := PLi.out.res.cell 2 _ rfl
      have r3 := PLi.out.res.cell 3 _ rfl
      have rz := PLi.out.res.lt
      have f0 := PLi.out.res.frozen 0
      have f1 := PLi.out.res.frozen 1
      have f2 := PLi.out.res.frozen 2
      have f3 := PLi.out.res.frozen 3
      clear hok hbl
      have HEND := hid (show ∀ r : Act, r.tmps.getD 2 undef = .pointer (some ⟨w.heap.size + 1, 0, none⟩) → r.tmps.getD 3 undef = .bool (plainB p) → r.defers = [] → bodyPost Tryz.prog Tryz.f9 (fun e w' => ∃ uf ug ul, e = .returned (.tuple #[.agg #[uf, ug, ul, .int .i64 0], .bool (plainB p)]) ∧ OwnPrg w.heap.size w' uf ug ul (bareP p) ∧ Below w.heap.size w w') .ret r ((((wi.setCell ⟨w.heap.size + 1, 0, none⟩ (.slice fa' p.funcs.length fc')).setCell ⟨w.heap.size + 1, 1, none⟩ (.slice ga' p.globals.length gc')).setCell ⟨w.heap.size + 1, 2, none⟩ (.slice la' p.layouts.length lc')).setCell ⟨w.heap.size + 1, 3, none⟩ (.int .i64 0)) from fun r h2 h3 hd => by
        have hx1 := (((PLi.out.res.set 0 (.slice fa' p.funcs.length fc')).set 1 (.slice ga' p.globals.length gc')).set 2 (.slice la' p.layouts.length lc')).set 3 (.int .i64 0)
        have hO : ∀ (u : Value) (k : Nat) (x : World), Only (some (w.heap.size + 1)) x (x.setCell ⟨w.heap.size + 1, k, none⟩ u) := fun u k x => Only.store x _ _ _
        have hS : Only (some (w.heap.size + 1)) wi ((((wi.setCell ⟨w.heap.size + 1, 0, none⟩ (.slice fa' p.funcs.length fc')).setCell ⟨w.heap.size + 1, 1, none⟩ (.slice ga' p.globals.length gc')).setCell ⟨w.heap.size + 1, 2, none⟩ (.slice la' p.layouts.length lc')).setCell ⟨w.heap.size + 1, 3, none⟩ (.int .i64 0)) := (((hO _ _ _).trans (hO _ _ _)).trans (hO _ _ _)).trans (hO _ _ _)
        have hB : Below w.heap.size w ((((wi.setCell ⟨w.heap.size + 1, 0, none⟩ (.slice fa' p.funcs.length fc')).setCell ⟨w.heap.size + 1, 1, none⟩ (.slice ga' p.globals.length gc')).setCell ⟨w.heap.size + 1, 2, none⟩ (.slice la' p.layouts.length lc')).setCell ⟨w.heap.size + 1, 3, none⟩ (.int .i64 0)) := (((HBLi.out.setCell (Nat.le_succ _) _).setCell (Nat.le_succ _) _).setCell (Nat.le_succ _) _).setCell (Nat.le_succ _) _
        exact bodyPost_ret (v := .tuple #[.agg #[.slice fa' p.funcs.length fc', .slice ga' p.globals.length gc', .slice la' p.layouts.length lc', .int .i64 0], .bool (plainB p)]) (plain_results _ _ (w.heap.size + 1) _ _ _ _ _ h2 h3 hx1) hd
          ⟨_, _, _, rfl, ⟨⟨_, PLi.out.funcs.only hS (PLi.out.funcs.row.neBox PLi.out.res (by decide)) (fun i hi => (PLi.out.funcs.code i hi).neBox PLi.out.res (by decide))⟩, PLi.out.globs.only hS (PLi.out.globs.neBox PLi.out.res (by decide)), ⟨_, PLi.out.lays.only hS (PLi.out.lays.row.neBox PLi.out.res (by decide)) (fun i hi => (PLi.out.lays.each i hi).neBox PLi.out.res (by decide))⟩⟩, hB⟩)
      by_cases hlt : i < S.size
      · have hlt2 : (i : Int) < S.size := Int.ofNat_lt.2 hlt
        have hki : ¬ ((i : Int) < 0) := by omega
        have hlb : i < (bl S).length := by rw [← bl_size]; exact hlt
        have hce : S[i] = (bl S)[i] := by simp [bl]; rfl
        have hbad : ((S[i].toNat : Int) = 32 ∨ (S[i].toNat : Int) = 10) → plainB p = false := fun hh => by
          unfold plainB
          rw [← HSL.out]
          refine List.all_eq_false.2 ⟨(bl S)[i], List.getElem_mem _, ?_⟩
          rw [← hce]
          have h2 : S[i] = 32 ∨ S[i] = 10 := hh.imp (fun h => UInt8.toNat_inj.1 (by simpa using Int.ofNat.inj h)) (fun h => UInt8.toNat_inj.1 (by simpa using Int.ofNat.inj h))
          rcases h2 with h2 | h2 <;> rw [h2] <;> decide
        have hgood : ¬ ((S[i].toNat : Int) = 32) → ¬ ((S[i].toNat : Int) = 10) → ∀ c ∈ (bl S).take (i + 1), okC c = true := fun h1 h2 c hc => by
          rw [List.take_succ_eq_append_getElem hlb, List.mem_append, List.mem_singleton] at hc
          rcases hc with hc | rfl
          · exact HOK.out c hc
          · rw [← hce]
            have e1 : S[i] ≠ 32 := fun e => h1 (by rw [e]; rfl)
            have e2 : S[i] ≠ 10 := fun e => h2 (by rw [e]; rfl)
            simp [okC, e1, e2]
        have HBAD := hid hbad
        have HGOOD := hid hgood
        clear hbad hgood hce
        have hsz63 : S.size < 9223372036854775807 := by omega
        go_wp2_with fail
        · rename_i h
          exact HEND.out _ rfl (by rw [HBAD.out (.inl h)]; rfl) rfl
        · rename_i h1 h2
          refine HEND.out _ rfl ?_ rfl
          rw [HBAD.out]
          · rfl
          · exact h2.imp (fun h => eq_of_beq h) (fun h => eq_of_beq h)
        · rename_i h1 h2
          have h3 := HGOOD.out h1 (ne_of_beq_false h2.2)
          refine ⟨⟨i + 1, by omega, by rfl, h3, HBLO.out⟩, ?_⟩
          simp only [intOf, Int.toNat_natCast]
          exact Nat.sub_lt_sub_left hlt (Nat.lt_succ_self i)
      · have hke : i = S.size := by omega
        subst hke
        have hall : plainB p = true := by
          unfold plainB
          rw [← HSL.out, List.all_eq_true]
          intro c hc
          exact HOK.out c (by rw [bl_size, List.take_length]; exact hc)
        have HALL := hid hall
        clear hall
        go_wp2_with fail
        exact HEND.out _ rfl (by rw [HALL.out]; rfl) rfl

end Go.Proofs.YtihcngjkflaelaaGreatDoor
