/-
  The reference's Valid of layer 12 walked: whether a program is a part.
-/
import Derived.Test.YtealeofgfgbheaaZValid
import Derived.Test.YtealeofgfgbheaaZLkS
import Derived.Test.YtealeofgfgbheaaZCopy
namespace Go.Proofs.Ytealeofgfgbheaa
set_option linter.unusedVariables false
set_option linter.unusedSimpArgs false
open Go.RowKit

/-- The first k functions closed. -/
def zR (p : Prg) (k : Nat) : List Fun := (p.funcs.take k).map closeR ++ p.funcs.drop k
theorem zR_len (p : Prg) (k : Nat) (h : k ≤ p.funcs.length) : (zR p k).length = p.funcs.length := by unfold zR; simp; omega
theorem zR_zero (p : Prg) : zR p 0 = p.funcs := by simp [zR]
theorem zR_end (p : Prg) : zR p p.funcs.length = p.funcs.map closeR := by simp [zR]
theorem zR_nth (p : Prg) (k : Nat) (h : k < p.funcs.length) : nth (zR p k) k = nth p.funcs k := by
  unfold zR nth
  rw [List.getD_eq_getElem?_getD, List.getD_eq_getElem?_getD, List.getElem?_append_right (by simp; omega)]
  simp [Nat.min_eq_left (Nat.le_of_lt h)]
theorem zR_set (p : Prg) (k : Nat) (h : k < p.funcs.length) : (zR p k).set k (closeR (nth p.funcs k)) = zR p (k + 1) := by
  unfold zR
  have e : p.funcs.drop k = nth p.funcs k :: p.funcs.drop (k + 1) := by rw [nth_eq _ _ h, List.drop_eq_getElem_cons h]
  have hl : ((p.funcs.take k).map closeR).length = k := by simp; omega
  rw [List.set_append_right _ _ (by omega), hl, Nat.sub_self, e, take_succ_at _ _ h]
  simp
theorem zR_same (p : Prg) (k : Nat) (h : k < p.funcs.length) (hc : closeR (nth p.funcs k) = nth p.funcs k) : zR p (k + 1) = zR p k := by
  rw [← zR_set p k h, hc, ← zR_nth p k h]
  rw [nth_eq _ _ (by rw [zR_len p k (by omega)]; exact h)]
  exact List.set_getElem_self _
theorem zR_mem (p : Prg) (k : Nat) : ∀ f ∈ zR p k, f.code.length ≤ 1 ∨ f ∈ p.funcs := fun f hf => by
  unfold zR at hf
  rcases List.mem_append.1 hf with h | h
  · obtain ⟨g, hg, rfl⟩ := List.mem_map.1 h
    unfold closeR
    split
    · exact .inl (by simp)
    · exact .inr (List.mem_of_mem_take hg)
  · exact .inr (List.mem_of_mem_drop h)
theorem OwnFuns.toQ {base : Nat} {lo : Nat} {w0 wr : World} {v : Value} {l : List Fun} {ss : List Slc} (h : OwnFuns base wr v l ss) (hb : w0.heap.size ≤ base) (hl : Below w0.heap.size w0 wr) : QFuns lo w0 wr v l ss :=
  ⟨h.len, h.row.mono hb, fun i hi => .inr ((h.code i hi).mono hb), hl⟩

def nameN (p : Prg) (k : Nat) : ByteArray := ⟨(120 :: (p.funcs.take k).flatMap fun f => f.name.data.toList).toArray⟩
theorem nameN_end (p : Prg) : nameN p p.funcs.length = freshN p := by unfold nameN freshN; rw [List.take_length]
theorem nameN_succ (p : Prg) (k : Nat) (h : k < p.funcs.length) : nameN p k ++ (nth p.funcs k).name = nameN p (k + 1) := by
  refine ba_ext ?_
  unfold nameN
  rw [take_succ_at _ _ h]
  simp
theorem nameN_size (p : Prg) (k : Nat) : (nameN p k).size ≤ 1 + (p.funcs.flatMap fun f => f.name.data.toList).length := by
  have e : (nameN p k).size = (120 :: (p.funcs.take k).flatMap fun f => f.name.data.toList).length := rfl
  rw [e, List.length_cons]
  have : ((p.funcs.take k).flatMap fun f => f.name.data.toList).length ≤ (p.funcs.flatMap fun f => f.name.data.toList).length := by
    conv => rhs; rw [← List.take_append_drop k p.funcs, List.flatMap_append, List.length_append]
    omega
  omega

/-- The state of the loop. -/
structure RvSt (lo : Nat) (w0 wr : World) (bQ : Nat) (vf vg vl uf ug ul : Value) (p : Prg) (k : Nat) (ss rs : List Slc) : Prop where
  q : QFuns lo w0 wr uf (zR p k) ss
  globs : OwnE globE w0.heap.size 60 wr ug p.globals
  lays : OwnLays w0.heap.size wr ul p.layouts rs
  box : BoxAt wr bQ 26 [uf, ug, ul, .int .i64 p.main]
  arg : BoxAt wr w0.heap.size 26 [vf, vg, vl, .int .i64 p.main]
  ne : w0.heap.size < bQ
theorem RvSt.fresh {lo : Nat} {w0 wr w' : World} {bQ : Nat} {vf vg vl uf ug ul : Value} {p : Prg} {k : Nat} {ss rs : List Slc} (h : RvSt lo w0 wr bQ vf vg vl uf ug ul p k ss rs) (hb : Below wr.heap.size wr w') : RvSt lo w0 w' bQ vf vg vl uf ug ul p k ss rs :=
  ⟨h.q.fresh hb, h.globs.fresh (Only.below hb none), h.lays.fresh (Only.below hb none), h.box.below hb, h.arg.below hb, h.ne⟩
/-- One function gets code. -/
theorem RvSt.code {lo : Nat} {w0 wr : World} {bQ : Nat} {vf vg vl ug ul : Value} {p : Prg} {k g n cap : Nat} {ss rs : List Slc} {s : Slc} (h : RvSt lo w0 wr bQ vf vg vl (.slice (some ⟨g, 0, none⟩) n cap) ug ul p k ss rs) (hk : k < p.funcs.length)
    (hi : (nth p.funcs k).code = [] ∧ (nth p.funcs k).regs = (nth p.funcs k).params) (hc : OwnE insE w0.heap.size 43 wr s.val [retI]) :
    RvSt lo w0 (wr.setCell ⟨g, k * 4 + 3, none⟩ s.val) bQ vf vg vl (.slice (some ⟨g, 0, none⟩) n cap) ug ul p (k + 1) (ss.set k s) rs := by
  have hS : Only (some g) wr (wr.setCell ⟨g, k * 4 + 3, none⟩ s.val) := Only.store wr g _ _
  have hq := h.q.setCode k (by rw [zR_len p k (by omega)]; exact hk) hc
  rw [zR_nth p k hk] at hq
  have e : ({ nth p.funcs k with code := [retI] } : Fun) = closeR (nth p.funcs k) := by unfold closeR; rw [if_pos hi]
  rw [e, zR_set p k hk] at hq
  exact ⟨hq, h.globs.only hS (h.globs.neRow h.q.row (by decide)), h.lays.only hS (h.lays.row.neRow h.q.row (by decide)) (fun i hi => (h.lays.each i hi).neRow h.q.row (by decide)), h.box.only hS (h.box.neRow h.q.row (by decide)), h.arg.only hS (h.arg.neRow h.q.row (by decide)), h.ne⟩

set_option maxRecDepth 100000 in
set_option maxHeartbeats 8000000 in
theorem rlpart_calls (lo : Nat) (vf vg vl : Value) (p : Prg) (w : World) (hp : ProgAt lo w vf vg vl p) (hwf : PrgWf p) (hN : (p.funcs.flatMap fun f => f.name.data.toList).length ≤ 140737488355328) :
    Calls Try.prog 13 #[.agg #[vf, vg, vl, .int .i64 p.main]] w fun e w' => e = .returned (.bool (partB p)) ∧ Below w.heap.size w w' := by
  have HP := hid hp
  have HWF := hid hwf
  have hfz := hwf.funcs
  obtain ⟨fa, fc, _, _, _, rfl, -⟩ := hp.funcs.open
  obtain ⟨ga, gc, _, _, rfl, -⟩ := hp.globs.open
  obtain ⟨la, lc, _, _, _, rfl, -⟩ := hp.lays.open
  clear hp hwf
  go_enter Try.func13, Try.ntmps13
  go_wp2_with fail
  generalize hW : World.alloc _ _ = W
  have hbW : Below w.heap.size w W := by rw [← hW]; exact (Below.refl _ _).alloc (Nat.le_refl _) _
  have R1 := hid (show BoxAt W w.heap.size 26 [.slice fa p.funcs.length fc, .slice ga p.globals.length gc, .slice la p.layouts.length lc, .int .i64 p.main] by rw [← hW]; exact BoxAt.new _ _ _ _ _ rfl rfl)
  have HBW := hid hbW
  have hWz : w.heap.size + 1 = W.heap.size := by rw [← hW]; simp
  have HWZ := hid hWz
  clear hW hbW hWz
  refine (copy_calls lo _ _ _ p W (HP.out.below HBW.out) HWF.out).mono ?_
  rintro e w3 ⟨uf, ug, ul, rfl, ho3, hb3⟩
  have HB3 := hid (bvia HBW.out hb3)
  have R3 := hid (R1.out.below hb3)
  obtain ⟨ss0, hfs⟩ := ho3.funcs
  obtain ⟨rs, hls⟩ := ho3.lays
  obtain ⟨fa', fc', hfe⟩ := hfs.row.anySlice
  obtain ⟨ga', gc', rfl⟩ := ho3.globs.anySlice
  obtain ⟨la', lc', rfl⟩ := hls.row.anySlice
  rw [hls.len] at ho3 hls ⊢
  have hzl : (p.funcs.zip ss0).length = p.funcs.length := by rw [List.length_zip, hfs.len]; simp
  rw [hzl] at hfe
  subst hfe
  have hle2 : w.heap.size ≤ W.heap.size := by have := HWZ.out; omega
  have hb3z := hb3.size
  have HQ0 := hid (OwnFuns.toQ (lo := lo) (w0 := w) hfs hle2 HB3.out)
  have HLS := hid (hls.mono hle2)
  have HGS := hid (ho3.globs.mono hle2)
  clear hb3 ho3 hfs hls hzl hle2
  go_wp2_with fail
  generalize hW4 : World.alloc _ _ = W4
  have hb4 : Below w3.heap.size w3 W4 := by rw [← hW4]; exact (Below.refl _ _).alloc (Nat.le_refl _) _
  have hst : RvSt lo w W4 w3.heap.size (.slice fa p.funcs.length fc) (.slice ga p.globals.length gc) (.slice la p.layouts.length lc) (.slice fa' p.funcs.length fc') (.slice ga' p.globals.length gc') (.slice la' p.layouts.length lc') p 0 ss0 rs := by
    refine ⟨by rw [zR_zero]; exact HQ0.out.fresh hb4, OwnE.fresh HGS.out (Only.below hb4 _), HLS.out.fresh (Only.below hb4 _), by rw [← hW4]; exact BoxAt.new _ _ _ _ _ rfl rfl, R3.out.below hb4, by have := HWZ.out; omega⟩
  obtain ⟨b, hb⟩ : ∃ b, w3.heap.size = b := ⟨_, rfl⟩
  rw [hb] at hst ⊢
  have HST := hid hst
  clear hW4 hb4 HQ0 HLS HGS R1 R3 HB3 hb hb3z HWZ HBW hst
  go_loopw [5, 4] (fun iv nv wr => ∃ (k : Nat) (ss : List Slc), k ≤ p.funcs.length ∧ iv = .int .i64 k ∧ nv = .string (nameN p k) ∧ RvSt lo w wr b (.slice fa p.funcs.length fc) (.slice ga p.globals.length gc) (.slice la p.layouts.length lc) (.slice fa' p.funcs.length fc') (.slice ga' p.globals.length gc') (.slice la' p.layouts.length lc') p k ss rs ∧ ∀ i, i < k → ¬ ((nth p.funcs i).code = [] ∧ (nth p.funcs i).regs = (nth p.funcs i).params ∧ (i : Int) = p.main)) (fun iv _ _ => p.funcs.length - (intOf iv).toNat)
  case atStart => exact ⟨0, ss0, Nat.zero_le _, rfl, rfl, HST.out, fun i hi => by omega⟩
  case round =>
  clear HST
  obtain ⟨k, ss, hk, rfl, rfl, hst, himp⟩ := hrel
  obtain ⟨wo, hwo⟩ : ∃ wo, wo = wr := ⟨_, rfl⟩
  subst hwo
  have HST := hid hst
  have HIMP := hid himp
  have c0 := hst.box.cell 0 _ rfl
  have cz := hst.box.lt
  have a3 := hst.arg.cell 3 _ rfl
  have az := hst.arg.lt
  clear hst himp
  by_cases hlt : k < p.funcs.length
  · have hlt2 : (k : Int) < p.funcs.length := Int.ofNat_lt.2 hlt
    have hki : ¬ ((k : Int) < 0) := by omega
    have hq := HST.out.q
    obtain ⟨fg, fcap, hge, hg1, hg2⟩ := hq.row.open (by rw [hq.zlen, zR_len p k hk]; omega)
    obtain ⟨rfl, -, rfl⟩ := Value.slice.inj hge
    have hnz := nth_zip (zR p k) ss k (by rw [zR_len p k hk]; exact hlt) (by rw [hq.len, zR_len p k hk]; exact hlt)
    rw [zR_nth p k hlt] at hnz
    have hcd := hq.code k (by rw [zR_len p k hk]; exact hlt)
    rw [zR_nth p k hlt] at hcd
    obtain ⟨f, hf⟩ : ∃ f, nth p.funcs k = f := ⟨_, rfl⟩
    rw [hf] at hnz hcd
    have hfw := HWF.out.func _ (nth_mem p.funcs k hlt)
    rw [hf] at hfw
    have hC : CodeAt 0 wo (nth ss k).val f.code := by
      rcases hcd with h | h
      · exact SlE.mono (h.below hq.low) (Nat.zero_le _)
      · exact h.sl (Nat.zero_le _) (by have := hfw.code; omega)
    obtain ⟨ca, cc, _, _, hcv, -⟩ := hC.open
    have y0 := hq.row.cellAt k 0 (by rw [hq.zlen, zR_len p k hk]; exact hlt) (by decide)
    have y1 := hq.row.cellAt k 1 (by rw [hq.zlen, zR_len p k hk]; exact hlt) (by decide)
    have y2 := hq.row.cellAt k 2 (by rw [hq.zlen, zR_len p k hk]; exact hlt) (by decide)
    have y3 := hq.row.cellAt k 3 (by rw [hq.zlen, zR_len p k hk]; exact hlt) (by decide)
    rw [hnz] at y0 y1 y2 y3
    have y0' : wo.cell? ⟨fg, k * 4, none⟩ = some (.string f.name) := y0
    have y1' : wo.cell? ⟨fg, k * 4 + 1, none⟩ = some (.int .i64 f.params) := y1
    have y2' : wo.cell? ⟨fg, k * 4 + 2, none⟩ = some (.int .i64 f.regs) := y2
    have y3' : wo.cell? ⟨fg, k * 4 + 3, none⟩ = some (nth ss k).val := y3
    rw [hcv] at y3' hC
    have HC := hid hC
    have HF := hid hf
    have hns := nameN_size p k
    have hfn := hfw.name
    have hs1 : ¬ (9223372036854775807 < (nameN p k).size + f.name.size) := by omega
    have HNM := hid (nameN_succ p k hlt)
    rw [hf] at HNM
    have y7 := hq.row.frozenAt (k * 4 + 3)
    clear hq hge hnz hcd hfw hC y0 y1 y2 y3 hns hfn hf
    go_wp2_with fail
    refine (rimport_calls 0 _ f wo HC.out).mono ?_
    rintro e w2 ⟨rfl, hb2⟩
    have HS2 := hid (HST.out.fresh hb2)
    have hbc : ∀ (a : Addr) (u : Value), a.block < wo.heap.size → wo.cell? a = some u → w2.cell? a = some u := fun a u ha h => (hb2.cell (p := a) ha).trans h
    have z3 := hbc _ _ hg2 y3'
    have z7 : w2.frozen? ⟨fg, k * 4 + 3, none⟩ = false := HS2.out.q.row.frozenAt (k * 4 + 3)
    have gl2 : fg < w2.heap.size := by have := hb2.size; omega
    clear hbc hb2 y0' y1' y2' y3' y7 c0 cz a3 az
    have c0 := HS2.out.box.cell 0 _ rfl
    have cz := HS2.out.box.lt
    have a3 := HS2.out.arg.cell 3 _ rfl
    have az := HS2.out.arg.lt
    cases hie : (f.code.isEmpty && (f.regs == f.params)) with
    | true =>
      have hie2 : f.code = [] ∧ f.regs = f.params := by
        simp only [Bool.and_eq_true, List.isEmpty_iff, beq_iff_eq] at hie
        exact hie
      have HIE := hid hie2
      clear hie hie2
      by_cases hm : (k : Int) = p.main
      · have hmn : ((k : Int) == p.main) = true := by simp [hm]
        have hno : partB p = false := by
          rw [← partR_eq]
          have : impR p = false := by
            unfold impR
            rw [List.all_eq_false]
            refine ⟨k, List.mem_range.2 hlt, ?_⟩
            rw [HF.out, HIE.out.1, HIE.out.2, hm]
            simp
          rw [this]; rfl
        have HNO := hid hno
        clear hm hno
        go_wp2_with fail
        go_ret
        exact ⟨by rw [HNO.out]; rfl, HS2.out.q.low⟩
      · have hmn : ((k : Int) == p.main) = false := by simp [hm]
        have HM := hid hm
        clear hm
        go_wp2_with fail
        have ha : Below w2.heap.size w2 (w2.alloc (.cells #[.int .i64 30, .int .i64 (-1), .int .i64 0, .int .i64 0, .int .i64 0] 43)) := (Below.refl _ _).alloc (Nat.le_refl _) _
        have hst2 := (HS2.out.fresh ha).code (s := ⟨some ⟨w2.heap.size, 0, none⟩, 1, 1⟩) hlt (by rw [HF.out]; exact HIE.out) (OwnE.lit insE w2 w.heap.size 43 [retI] _ w2.heap.size 1 rfl HS2.out.q.low.size rfl rfl (by simp))
        rw [World.setCell_alloc_past _ _ _ _ gl2] at hst2
        refine ⟨⟨k + 1, _, by omega, rfl, by rw [HNM.out], hst2, fun i hi => ?_⟩, ?_⟩
        · rcases Nat.lt_or_ge i k with h5 | h5
          · exact HIMP.out i h5
          · rw [show i = k by omega]
            exact fun h => HM.out h.2.2
        · simp only [intOf]
          omega
    | false =>
      have hsame : closeR f = f := by
        unfold closeR
        rw [if_neg]
        intro h
        rw [h.1, h.2] at hie
        simp at hie
      have HSM := hid (zR_same p k hlt (by rw [HF.out]; exact hsame))
      have HIE := hid hie
      clear hie hsame
      go_wp2_with fail
      go_roundw
      case rel =>
        have h := HS2.out
        refine ⟨k + 1, ss, by omega, by go_num, by rw [HNM.out], ⟨by rw [HSM.out]; exact h.q, h.globs, h.lays, h.box, h.arg, h.ne⟩, fun i hi => ?_⟩
        rcases Nat.lt_or_ge i k with h5 | h5
        · exact HIMP.out i h5
        · rw [show i = k by omega, HF.out]
          rintro ⟨h1, h2, _⟩
          have := HIE.out
          rw [h1, h2] at this
          simp at this
      case measure => simp [intOf] <;> omega
  · have hke : k = p.funcs.length := by omega
    subst hke
    have hq := HST.out.q
    rw [zR_end] at hq
    have HQ := hid hq
    have himp : impR p = true := by
      unfold impR
      rw [List.all_eq_true]
      intro i hi
      have h1 := HIMP.out i (List.mem_range.1 hi)
      by_cases h2 : (nth p.funcs i).code = []
      · by_cases h3 : (nth p.funcs i).regs = (nth p.funcs i).params
        · have h4 : ¬ ((i : Int) = p.main) := fun e => h1 ⟨h2, h3, e⟩
          simp [h4]
        · simp [h3]
      · simp [h2]
    have HIM := hid himp
    have hmem := zR_mem p p.funcs.length
    rw [zR_end] at hmem
    have hcl1 : ∀ f ∈ p.funcs.map closeR, f.code.length ≤ 140737488355328 := fun f hf => by
      rcases hmem f hf with h | h
      · omega
      · have := (HWF.out.func f h).code; omega
    have HCL1 := hid hcl1
    have hlw : ∀ r ∈ p.layouts, r.length ≤ 140737488355328 := fun r hr => by have := (HWF.out.lay r hr).1; omega
    have HLW := hid hlw
    have hgz := HWF.out.globs
    have hlz := HWF.out.lays
    clear hq himp hmem hcl1 hlw
    by_cases hmain : p.main = -1
    · have hmn : (p.main == -1) = true := by simp [hmain]
      have HMAIN := hid hmain
      have c0 := HST.out.box.cell 0 _ rfl
      have c1 := HST.out.box.cell 1 _ rfl
      have c2 := HST.out.box.cell 2 _ rfl
      have c3 := HST.out.box.cell 3 _ rfl
      have c3f := HST.out.box.frozen 3
      have hxq := HST.out.box.set 3 (.int .i64 p.funcs.length)
      have hbB := HST.out.ne
      have hX : Below w.heap.size wo (wo.setCell ⟨b, 3, none⟩ (.int .i64 p.funcs.length)) := (Below.refl _ _).setCell (Nat.le_of_lt hbB) _
      have hq2 := HQ.out.onlyBox (Only.store wo b 3 (.int .i64 p.funcs.length)) hX HST.out.box (by decide) (by decide)
      have hg2 := HST.out.globs.only (Only.store wo b 3 (.int .i64 p.funcs.length)) (HST.out.globs.neBox HST.out.box (by decide))
      have hl2 := HST.out.lays.onlyBox (Only.store wo b 3 (.int .i64 p.funcs.length)) HST.out.box (by decide) (by decide)
      have HXQ := hid hxq
      have HQ2 := hid hq2
      have HG2 := hid hg2
      have HL2 := hid hl2
      have HX := hid hX
      have HNE := hid (nameN_end p)
      clear hmain hxq hX hq2 hg2 hl2
      have hxz : (wo.setCell ⟨b, 3, none⟩ (.int .i64 p.funcs.length)).heap.size = wo.heap.size := by simp [World.setCell]
      have hal : Below (wo.setCell ⟨b, 3, none⟩ (.int .i64 p.funcs.length)).heap.size (wo.setCell ⟨b, 3, none⟩ (.int .i64 p.funcs.length)) (((wo.setCell ⟨b, 3, none⟩ (.int .i64 p.funcs.length)).alloc (.cells #[.int .i64 30, .int .i64 (-1), .int .i64 0, .int .i64 0, .int .i64 0] 43)).alloc (.cells #[.string (nameN p p.funcs.length), .int .i64 0, .int .i64 0, .slice (some ⟨wo.heap.size, 0, none⟩) 1 1] 41)) := ((Below.refl _ _).alloc (Nat.le_refl _) _).alloc (by simp) _
      have HAL := hid hal
      have HQ3 := hid (HQ2.out.fresh hal)
      have hzl : ((p.funcs.map closeR).zip ss).length = p.funcs.length := by rw [HQ2.out.zlen, List.length_map]
      have hretS : OwnE insE w.heap.size 43 (((wo.setCell ⟨b, 3, none⟩ (.int .i64 p.funcs.length)).alloc (.cells #[.int .i64 30, .int .i64 (-1), .int .i64 0, .int .i64 0, .int .i64 0] 43)).alloc (.cells #[.string (nameN p p.funcs.length), .int .i64 0, .int .i64 0, .slice (some ⟨wo.heap.size, 0, none⟩) 1 1] 41)) (.slice (some ⟨wo.heap.size, 0, none⟩) 1 1) [retI] :=
        (OwnE.lit insE (wo.setCell ⟨b, 3, none⟩ (.int .i64 p.funcs.length)) w.heap.size 43 [retI] _ wo.heap.size 1 hxz HST.out.q.low.size rfl rfl (by simp)).alloc _
      have HRS := hid hretS
      have hfs2 : OwnE funE w.heap.size 41 (((wo.setCell ⟨b, 3, none⟩ (.int .i64 p.funcs.length)).alloc (.cells #[.int .i64 30, .int .i64 (-1), .int .i64 0, .int .i64 0, .int .i64 0] 43)).alloc (.cells #[.string (nameN p p.funcs.length), .int .i64 0, .int .i64 0, .slice (some ⟨wo.heap.size, 0, none⟩) 1 1] 41)) (.slice (some ⟨wo.heap.size + 1, 0, none⟩) 1 1) [(mainF (nameN p p.funcs.length), (⟨some ⟨wo.heap.size, 0, none⟩, 1, 1⟩ : Slc))] :=
        OwnE.lit funE _ w.heap.size 41 [(mainF (nameN p p.funcs.length), (⟨some ⟨wo.heap.size, 0, none⟩, 1, 1⟩ : Slc))] _ (wo.heap.size + 1) 1 (by simp [World.setCell]) (by have := HST.out.q.low.size; omega) rfl rfl (by simp)
      have HFS2 := hid hfs2
      have HWL := hid HST.out.q.low.size
      clear hal hretS hfs2
      go_wp2_with (
        at_builtin
        go_loud (refine wpList_append_G funE (o := ⟨some 54, _, _, _, _, _⟩) rfl (.tmp 48) (.tmp 53) 22 rfl w.heap.size w.heap.size 41 _ 56 Try.underlying22 infoFun12 rfl ((p.funcs.map closeR).zip ss) (mainF (nameN p p.funcs.length), (⟨some ⟨wo.heap.size, 0, none⟩, 1, 1⟩ : Slc)) HQ3.out.row (HFS2.out.sl (Nat.le_refl _) (by simp)) (by rw [hzl]; omega) (by rw [hzl]; simp only [maxLen]; omega) (by have := HWL.out; simp [World.setCell]; omega) ?_)
        intro g5 cap5 w5 ho5 hg5 _ _ _
        rw [hzl] at ho5 ⊢
        have hx3 := HXQ.out.below HAL.out
        have hx5 := hx3.only (Only.grown hg5) (hx3.neRow HQ3.out.row (by decide))
        have hq5 := HQ3.out.snoc (f := mainF (nameN p p.funcs.length)) (s := ⟨some ⟨wo.heap.size, 0, none⟩, 1, 1⟩) hg5 ho5 (.inr HRS.out)
        have hg5' := (OwnE.fresh HG2.out (Only.below HAL.out none)).only (Only.grown hg5) ((OwnE.fresh HG2.out (Only.below HAL.out none)).neRow HQ3.out.row (by decide))
        have hl3 := HL2.out.fresh (Only.below HAL.out none)
        have hl5 := hl3.only (Only.grown hg5) (hl3.row.neRow HQ3.out.row (by decide)) (fun i hi => (hl3.each i hi).neRow HQ3.out.row (by decide))
        have HX5 := hid hx5
        have HQ5 := hid hq5
        have HG5 := hid hg5'
        have HL5 := hid hl5
        have q0 := hx5.cell 0 _ rfl
        have qf := hx5.frozen 0
        have qz := hx5.lt
        have hx6 := hx5.set 0 (.slice (some ⟨g5, 0, none⟩) (p.funcs.length + 1) cap5)
        have z0 := hx6.cell 0 _ rfl
        have z1 := hx6.cell 1 _ rfl
        have z2 := hx6.cell 2 _ rfl
        have z3 := hx6.cell 3 _ rfl
        clear hx3 hx5 hx6 hq5 hg5' hl3 hl5 ho5 hg5)
      have hb5 : w.heap.size ≤ b := Nat.le_of_lt hbB
      have hq6 := HQ5.out.onlyBox (Only.store w5 b 0 (.slice (some ⟨g5, 0, none⟩) (p.funcs.length + 1) cap5)) ((Below.refl _ _).setCell hb5 _) HX5.out (by decide) (by decide)
      have hg6 := HG5.out.only (Only.store w5 b 0 (.slice (some ⟨g5, 0, none⟩) (p.funcs.length + 1) cap5)) (HG5.out.neBox HX5.out (by decide))
      have hl6 := HL5.out.onlyBox (Only.store w5 b 0 (.slice (some ⟨g5, 0, none⟩) (p.funcs.length + 1) cap5)) HX5.out (by decide) (by decide)
      have hcp : validB { p with funcs := p.funcs.map closeR ++ [mainF (nameN p p.funcs.length)], main := p.funcs.length } = partB p := by
        have e : partR (freshN p) p = { p with funcs := p.funcs.map closeR ++ [mainF (nameN p p.funcs.length)], main := p.funcs.length } := by unfold partR; rw [if_pos HMAIN.out, nameN_end]
        rw [← e, ← partR_eq, HIM.out]; rfl
      refine (valid_calls 0 _ _ _ { p with funcs := p.funcs.map closeR ++ [mainF (nameN p p.funcs.length)], main := p.funcs.length } _ ⟨by
        have := hq6.at (by simp; omega) (fun f hf => by
          rcases List.mem_append.1 hf with h | h
          · exact HCL1.out f h
          · rw [List.mem_singleton.1 h]; simp [mainF])
        simpa using this, hg6.sl (Nat.zero_le _) (by omega), hl6.at (Nat.zero_le _) (by omega) HLW.out⟩).mono ?_
      rintro e w7 ⟨rfl, hb7⟩
      have HB7 := hid (bvia hq6.low hb7)
      rw [hcp]
      clear hb7 hq6 hg6 hl6 hcp q0 qf qz z0 z1 z2 z3
      go_wp2_with fail
      go_ret
      exact ⟨rfl, HB7.out⟩
    · have hmn : (p.main == -1) = false := by simp [hmain]
      have hcp : validB { p with funcs := p.funcs.map closeR } = partB p := by
        have e : partR (freshN p) p = { p with funcs := p.funcs.map closeR } := by unfold partR; rw [if_neg hmain]
        rw [← e, ← partR_eq, HIM.out]; rfl
      have HCP := hid hcp
      have c1 := HST.out.box.cell 1 _ rfl
      have c2 := HST.out.box.cell 2 _ rfl
      have c3 := HST.out.box.cell 3 _ rfl
      clear hmain hcp
      go_wp2_with fail
      refine (valid_calls 0 _ _ _ { p with funcs := p.funcs.map closeR } wo ⟨by have := HQ.out.at (by rw [List.length_map]; omega) HCL1.out; exact this, HST.out.globs.sl (Nat.zero_le _) (by omega), HST.out.lays.at (Nat.zero_le _) (by omega) HLW.out⟩).mono ?_
      rintro e w2 ⟨rfl, hb2⟩
      have HB2 := hid (bvia HST.out.q.low hb2)
      rw [HCP.out]
      clear hb2
      go_wp2_with fail
      go_ret
      exact ⟨rfl, HB2.out⟩

end Go.Proofs.Ytealeofgfgbheaa
