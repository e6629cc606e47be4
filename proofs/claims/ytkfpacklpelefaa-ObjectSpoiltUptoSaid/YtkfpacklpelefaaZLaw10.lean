/-
  The law's own functions: awake, decoded, sealed.
-/
import Derived.Test.YtkfpacklpelefaaZCost10
import Derived.Test.YtkfpacklpelefaaZSame10
namespace Go.Proofs.Ytkfpacklpelefaa
set_option linter.unusedVariables false
set_option linter.unusedSimpArgs false
open Go.RowKit

theorem run_append_empty (w : World) (ty : TypeId) (g n : Nat) (ao : Option Addr) (c : Nat) (h : ao = none → c = 0) :
    (Builtin.append_ #[22, 22] ty #[.slice (some ⟨g, 0, none⟩) n n, .slice ao 0 c]).run Try.prog w = .ok (.slice (some ⟨g, 0, none⟩) n n) w := by
  obtain ⟨i, hi, hz, hs, hb⟩ := infoByte2
  cases ao with
  | none =>
    obtain rfl := h rfl
    simp [Builtin.append_, run_underlying Try.underlying22, sizeOf, typeInfo, hi, Builtin.lenOf, Builtin.firstCells, storeCells]
  | some a =>
    have h0 := run_firstCells_some (P := Try.prog) w i.size 0 a 0 c [] (by simp) (fun j v hj => by simp at hj)
    simp [Builtin.append_, run_underlying Try.underlying22, sizeOf, typeInfo, hi, Builtin.lenOf, h0, storeCells]
/-- append, at the operation, of a row that may be empty. -/
theorem wpList_append_any {w : World} {ops : Array Oper} {rest : List Oper} {o : Oper} {a : Act} {Q : Exit → Act → World → Prop} (hgd : o.guard = none) (s x : Operand)
    (ho : o.op = .call { callee := .builtin .append, args := #[s, x], argTypes := #[22, 22] })
    (base lo : Nat) (l r : List UInt8) (hown : FullM base w (a.eval s) l) (hsrc : SlE byteE lo w (a.eval x) r) (hb : l.length + r.length ≤ 140737488355328) (hbase : base ≤ w.heap.size)
    (hK : ∀ v' w', OwnM base w' v' (l ++ r) → KT base [5] w w' → wpList Try.prog ops Q rest (a.put o.dst v') w') : wpList Try.prog ops Q (o :: rest) a w := by
  rcases Nat.eq_zero_or_pos r.length with h0 | h0
  · have hr : r = [] := List.eq_nil_of_length_eq_zero h0
    subst hr
    refine wpList_plain hgd fun K hK' => ?_
    obtain ⟨g, cur, fz, hv, hbg, hg, hl⟩ := hown
    obtain ⟨ao, c, b, of, hx, hnil, _⟩ := hsrc
    have h1 := run_append_empty w o.type g l.length ao c hnil
    unfold Oper.wp
    have hx' : a.eval x = .slice ao 0 c := hx
    simp [execOp, ho, resolve, invoke, builtin, hv, hx', h1, Result.andThen]
    exact hK' _ _ (hK _ w (by rw [List.append_nil]; exact .inr ⟨g, cur, fz, rfl, hbg, hg, hl⟩) (KT.refl _ _ _))
  · exact wpList_append_M hgd s x ho base lo l r h0 (.inr hown) hsrc hb hbase fun v' w' h1 h2 => hK v' w' (.inl h1) h2
theorem OwnM.sl {base : Nat} {w : World} {v : Value} {l : List UInt8} (h : OwnM base w v l) (hn : l.length ≤ 140737488351232) : BytesAt 0 w v l := by
  rcases h with h | ⟨g, cur, fz, rfl, hb, hg, hl⟩
  · exact h.sl (Nat.zero_le _) (by omega)
  · refine ⟨_, l.length, g, 0, rfl, (fun h => by cases h), fun h0 => ⟨rfl, Nat.zero_le _⟩, fun i k hi hk => ?_, Nat.le_refl _, by simp only [maxLen]; omega, by omega⟩
    obtain rfl : k = 0 := by have : k < 1 := hk; omega
    show w.cell? ⟨g, 0 + i * 1 + 0, none⟩ = some (Value.int .u8 ((nth l i).toNat : Nat))
    have e : cur[i]? = some (Value.int .u8 ((nth l i).toNat : Nat)) := by
      rw [← Array.getElem?_toList, hl, nth_eq _ _ hi]
      clear hl hg
      induction l generalizing i with
      | nil => simp at hi
      | cons x l ih =>
        cases i with
        | zero => rfl
        | succ i =>
          rw [List.flatMap_cons]
          show ([Value.int .u8 (x.toNat : Nat)] ++ l.flatMap byteE.enc)[i + 1]? = _
          rw [List.singleton_append, List.getElem?_cons_succ]
          exact ih (by simp at hn; omega) i (by simp at hi; omega)
    simp only [World.cell?, hg]
    simpa using e

theorem tiny_wf : PrgWf tinyP := by
  have h0 : ∀ n : Int, -10 ≤ n → n ≤ 100 → I64 n := fun n h1 h2 => by unfold I64; omega
  refine ⟨by decide, fun f hf => ?_, by decide, fun g hg => by simp [tinyP] at hg, by decide, fun y hy => by simp [tinyP] at hy, h0 _ (by decide) (by decide)⟩
  obtain rfl : f = ⟨⟨#[109, 97, 105, 110]⟩, 0, 0, [⟨30, -1, 0, 0, 0⟩]⟩ := by simpa [tinyP] using hf
  refine ⟨by decide, h0 _ (by decide) (by decide), h0 _ (by decide) (by decide), by decide, fun x hx => ?_⟩
  obtain rfl : x = ⟨30, -1, 0, 0, 0⟩ := by simpa using hx
  exact ⟨h0 _ (by decide) (by decide), h0 _ (by decide) (by decide), h0 _ (by decide) (by decide), h0 _ (by decide) (by decide), h0 _ (by decide) (by decide)⟩
theorem tiny_len : (bodyL tinyP).length ≤ 1000 := Nat.le_trans (body_le tinyP tiny_wf) (by decide)
theorem no_wf : PrgWf noPrg := ⟨by decide, fun f hf => by simp [noPrg] at hf, by decide, fun g hg => by simp [noPrg] at hg, by decide, fun y hy => by simp [noPrg] at hy, by unfold I64 noPrg; decide⟩
theorem no_len : (bodyL noPrg).length ≤ 1000 := Nat.le_trans (body_le noPrg no_wf) (by decide)
theorem dec_tiny : decS (fileL tinyP) = (tinyP, 0) := by rw [dec_file tinyP tiny_wf, tiny_valid]; rfl
theorem sum_nil : natS (sumB []) = 2166136261 := rfl

theorem dec_wf (l : List UInt8) (hl : l.length ≤ 1000000000) : PrgWf (decS l).1 := by
  by_cases h : (decS l).2 = 0
  · obtain ⟨_, _, r, hr, hrl⟩ := dec_onto l h
    exact rd_wf hr (by omega)
  · rw [dec_bad l h]
    exact no_wf
/-- A program in rows of the call's own, its slices written out. -/
theorem own_open {N : Nat} {w : World} {vf vg vl : Value} {p : Prg} (h : OwnPrg N w vf vg vl p) : ∃ fa fc ga gc ya yc, vf = .slice fa p.funcs.length fc ∧ vg = .slice ga p.globals.length gc ∧ vl = .slice ya p.layouts.length yc := by
  obtain ⟨⟨ss, hf⟩, hg, ⟨rs, hy⟩⟩ := h
  obtain ⟨fa, fc, hfv⟩ := hf.row.anySlice
  rw [show (p.funcs.zip ss).length = p.funcs.length by simp [hf.len]] at hfv
  obtain ⟨ga, gc, hgv⟩ := hg.anySlice
  obtain ⟨ya, yc, hyv⟩ := hy.row.anySlice
  rw [hy.len] at hyv
  exact ⟨fa, fc, ga, gc, ya, yc, hfv, hgv, hyv⟩

noncomputable def planA4 : Plan := mkPlan (regionOf Try.f11 4) [(12, .new), (13, .new), (16, .new)] []

set_option maxRecDepth 100000 in
set_option maxHeartbeats 8000000 in
theorem awake10_calls (w : World) : Calls Try.prog 11 #[] w fun e w' => e = .returned (.bool true) ∧ Below w.heap.size w w' := by
  go_enter Try.func11, Try.ntmps11
  go_wp2_with fail
  refine (tiny_calls w).mono ?_
  rintro e w1 ⟨vf, rfl, hp, hb⟩
  have HP := hid hp
  have HB1 := hid hb
  clear hp hb
  go_wp2_with fail
  refine (oencode_calls _ _ _ _ tinyP w1 HP.out tiny_wf (by have := tiny_len; omega)).mono ?_
  rintro e w2 ⟨v2, rfl, ho, hb⟩
  rw [tiny_valid]
  rw [tiny_valid, if_pos rfl] at ho
  have HO2 := hid ho
  have HB2 := hid (bvia HB1.out hb)
  clear ho hb
  go_wp2_with fail
  refine (odecode_calls _ v2 (fileL tinyP) w2 (HO2.out.sl (Nat.zero_le _) (by have := tiny_len; rw [file_len]; omega)) (by have := tiny_len; rw [file_len]; omega)).mono ?_
  rintro e w3 ⟨uf, ug, ul, rfl, ho, hb⟩
  rw [dec_tiny] at ho
  rw [dec_tiny]
  obtain ⟨⟨ss, hf⟩, hg, ⟨rs, hy⟩⟩ := ho
  obtain ⟨fa, fc, hfv⟩ := hf.row.anySlice
  rw [show (tinyP.funcs.zip ss).length = 1 by simp [hf.len, tinyP]] at hfv
  obtain ⟨ga, gc, hgv⟩ := hg.anySlice
  obtain ⟨ya, yc, hyv⟩ := hy.row.anySlice
  rw [hy.len] at hyv
  subst hfv hgv hyv
  have HPQ := hid (OwnPrg.at (lo := 0) (p := tinyP) ⟨⟨ss, hf⟩, hg, ⟨rs, hy⟩⟩ (Nat.zero_le _) tiny_wf)
  have HB3 := hid (bvia HB2.out hb)
  clear hf hg hy hb
  go_wp2_with fail
  generalize hW : World.alloc w3 _ = W
  have hbx : BoxAt W w3.heap.size 31 [.slice fa 1 fc, .slice ga 0 gc, .slice ya 0 yc, .int .i64 0] := by rw [← hW]; exact BoxAt.new w3 _ _ _ _ rfl rfl
  have hbw : Below w3.heap.size w3 W := by rw [← hW]; exact (Below.refl _ _).alloc (Nat.le_refl _) _
  have HBX := hid hbx
  have HB4 := hid (bvia HB3.out hbw)
  have HPW := hid (HPQ.out.below hbw)
  clear hW hbx hbw
  refine (oencode_calls 0 _ _ _ noPrg W (nil_at 0 W) no_wf (by have := no_len; omega)).mono ?_
  rintro e w5 ⟨v5, rfl, ho, hb⟩
  rw [no_valid]
  have hx5 := HBX.out.below hb
  have q0 := hx5.cell 0 _ rfl
  have q1 := hx5.cell 1 _ rfl
  have q2 := hx5.cell 2 _ rfl
  have q3 := hx5.cell 3 _ rfl
  have qz := hx5.lt
  have HB5 := hid (bvia HB4.out hb)
  have HP5 := hid (HPW.out.below hb)
  clear ho hb hx5
  go_wp2_with fail
  refine Plan.wp_chain planA4 w5.heap.size (by kernel_rfl) rfl (by kernel_rfl) (by kernel_rfl) ?_
  repeat (first | (apply Plan.chain_skip rfl rfl; simp only [Act.put, List.setIfInBounds_toArray, List.set_cons_zero, List.set_cons_succ]) | (apply Plan.chain_det rfl rfl; (· intro w' hb; obtain ⟨hcl, hfz⟩ := bcellB hb; go_simp; rfl); simp only [Act.put, List.setIfInBounds_toArray, List.set_cons_zero, List.set_cons_succ]))
  refine Plan.chain_call 23 #[] (fun v w' => ∃ vf, v = .agg #[vf, .slice none 0 0, .slice none 0 0, .int .i64 0] ∧ ProgAt w5.drew.heap.size w' vf (.slice none 0 0) (.slice none 0 0) tinyP ∧ Below w5.heap.size w5 w') rfl rfl rfl (by go_simp) ?_ (fun v w' h => by obtain ⟨_, _, _, h⟩ := h; exact h) (fun va w6 h => ?_)
  · refine (tiny_calls w5.drew).mono ?_
    rintro e w' ⟨vf, rfl, hp, hb⟩
    exact ⟨_, rfl, vf, rfl, hp, (Below.refl _ _).drew.trans hb⟩
  obtain ⟨vf6, rfl, hp6, hb6⟩ := h
  simp only [Act.put, List.setIfInBounds_toArray, List.set_cons_zero, List.set_cons_succ]
  have HP6 := hid hp6
  have HB6 := hid hb6
  have HZ6 := hid hb6.size
  clear hp6 hb6
  repeat (first | (apply Plan.chain_skip rfl rfl; simp only [Act.put, List.setIfInBounds_toArray, List.set_cons_zero, List.set_cons_succ]) | (apply Plan.chain_det rfl rfl; (· intro w' hb; obtain ⟨hcl, hfz⟩ := bcellB hb; go_simp; rfl); simp only [Act.put, List.setIfInBounds_toArray, List.set_cons_zero, List.set_cons_succ]))
  refine Plan.chain_call 22 #[.agg #[.slice fa 1 fc, .slice ga 0 gc, .slice ya 0 yc, .int .i64 0], .agg #[vf6, .slice none 0 0, .slice none 0 0, .int .i64 0]] (fun v w' => v = .bool true ∧ Below w5.heap.size w5 w') rfl rfl rfl (by go_simp) ?_ (fun v w' h => h.2) (fun va w7 h => ?_)
  · refine (requal_calls _ _ _ _ _ _ _ _ tinyP tinyP w6 (HP5.out.below HB6.out) HP6.out).mono ?_
    rintro e w' ⟨rfl, hb⟩
    exact ⟨_, rfl, by rw [eqC_true rfl], HB6.out.trans (hb.mono HZ6.out)⟩
  obtain ⟨rfl, hb7⟩ := h
  simp only [Act.put, List.setIfInBounds_toArray, List.set_cons_zero, List.set_cons_succ]
  have HB7 := hid hb7
  have HZ7 := hid hb7.size
  clear hb7
  repeat (first | (apply Plan.chain_skip rfl rfl; simp only [Act.put, List.setIfInBounds_toArray, List.set_cons_zero, List.set_cons_succ]) | (apply Plan.chain_det rfl rfl; (· intro w' hb; obtain ⟨hcl, hfz⟩ := bcellB hb; go_simp; rfl); simp only [Act.put, List.setIfInBounds_toArray, List.set_cons_zero, List.set_cons_succ]))
  refine Plan.chain_call 12 #[.slice none 0 0] (fun v w' => v = .int .u32 2166136261 ∧ Below w5.heap.size w5 w') rfl rfl rfl (by go_simp) ?_ (fun v w' h => h.2) (fun va w8 h => ?_)
  · refine (osum_calls 0 _ [] w7 (SlE.nil _ _ _)).mono ?_
    rintro e w' ⟨rfl, hb⟩
    exact ⟨_, rfl, by rw [sum_nil]; rfl, HB7.out.trans (hb.mono HZ7.out)⟩
  obtain ⟨rfl, hb8⟩ := h
  simp only [Act.put, List.setIfInBounds_toArray, List.set_cons_zero, List.set_cons_succ]
  have HB8 := hid (bvia HB5.out hb8)
  clear hb8
  repeat (first | (apply Plan.chain_skip rfl rfl; simp only [Act.put, List.setIfInBounds_toArray, List.set_cons_zero, List.set_cons_succ]) | (apply Plan.chain_det rfl rfl; (· intro w' hb; obtain ⟨hcl, hfz⟩ := bcellB hb; go_simp; rfl); simp only [Act.put, List.setIfInBounds_toArray, List.set_cons_zero, List.set_cons_succ]))
  refine Plan.chain_nil ?_
  go_wp2_with fail
  go_ret
  exact ⟨rfl, HB8.out⟩

set_option maxRecDepth 100000 in
set_option maxHeartbeats 4000000 in
theorem decoded_calls (lo : Nat) (v : Value) (l : List UInt8) (w : World) (h : BytesAt lo w v l) (hl : l.length ≤ 1000000000) :
    Calls Try.prog 17 #[v] w fun e w' => e = .returned (.bool true) ∧ Below w.heap.size w w' := by
  have H := hid h
  obtain ⟨a, c, b, o, rfl, _⟩ := h.open
  clear h
  go_enter Try.func17, Try.ntmps17
  go_wp2_with (
    at_builtin
    go_loud (refine wpList_append_E byteE (o := ⟨some 10, _, _, _, _, _⟩) rfl (.tmp 8) (.tmp 9) 22 rfl w.heap.size lo 5 _ 1 Try.underlying22 infoByte rfl [] l ((OwnE.lit byteE w w.heap.size 5 [] #[] w.heap.size 0 rfl (Nat.le_refl _) rfl rfl (by simp))) (SlE.below H.out ((Below.refl _ _).alloc (Nat.le_refl _) _)) (by simp; omega) (by simp only [maxLen]; simp; omega) (by simp) ?_)
    intro v7 w7 ho7 hg7
    have HO7 := hid ho7
    have HG7 := hid hg7
    clear ho7 hg7)
  have HB7 := hid (Below.grownE ((Below.refl w.heap.size w).alloc (Nat.le_refl _) _) (OwnE.lit byteE w w.heap.size 5 [] #[] w.heap.size 0 rfl (Nat.le_refl _) rfl rfl (by simp)) HG7.out (by simp) (Nat.le_refl _))
  clear HG7
  obtain ⟨p, hp⟩ : ∃ p, (decS l).1 = p := ⟨_, rfl⟩
  obtain ⟨ec, hec⟩ : ∃ ec, (decS l).2 = ec := ⟨_, rfl⟩
  have HDP := hid hp
  have HDE := hid hec
  have HWF := hid (hp ▸ dec_wf l hl)
  clear hp hec
  refine (odecode_calls w.heap.size v7 l w7 (HO7.out.sl (Nat.le_refl _) (by show l.length ≤ _; omega)) hl).mono ?_
  rintro e w8 ⟨uf, ug, ul, rfl, ho, hb⟩
  rw [HDP.out] at ho
  rw [HDP.out, HDE.out]
  obtain ⟨fa, fc, ga, gc, ya, yc, rfl, rfl, rfl⟩ := own_open ho
  have HP8 := hid (OwnPrg.at (lo := 0) ho (Nat.zero_le _) HWF.out)
  have HB8 := hid (bvia HB7.out hb)
  clear ho hb
  go_wp2_with fail
  generalize hW : World.alloc w8 _ = W
  have hbx : BoxAt W w8.heap.size 31 [.slice fa p.funcs.length fc, .slice ga p.globals.length gc, .slice ya p.layouts.length yc, .int .i64 p.main] := by rw [← hW]; exact BoxAt.new w8 _ _ _ _ rfl rfl
  have hbw : Below w8.heap.size w8 W := by rw [← hW]; exact (Below.refl _ _).alloc (Nat.le_refl _) _
  have HBX := hid hbx
  have HB9 := hid (bvia HB8.out hbw)
  have HP9 := hid (HP8.out.below hbw)
  clear hW hbx hbw
  refine (rdecode_calls lo _ l W (H.out.below HB9.out) hl).mono ?_
  rintro e w10 ⟨tf, tg, tl, rfl, ho, hb⟩
  rw [HDP.out] at ho
  rw [HDP.out, HDE.out]
  obtain ⟨fa', fc', ga', gc', ya', yc', rfl, rfl, rfl⟩ := own_open ho
  have hx := HBX.out.below hb
  have q0 := hx.cell 0 _ rfl
  have q1 := hx.cell 1 _ rfl
  have q2 := hx.cell 2 _ rfl
  have q3 := hx.cell 3 _ rfl
  have qz := hx.lt
  have HB10 := hid (bvia HB9.out hb)
  have HP10 := hid (HP9.out.below hb)
  have HQ10 := hid (OwnPrg.at (lo := 0) ho (Nat.zero_le _) HWF.out)
  have hee : (ec == ec) = true := by simp
  clear ho hb hx
  go_wp2_with fail
  generalize hW : World.alloc w10 _ = W2
  have hbw : Below w10.heap.size w10 W2 := by rw [← hW]; exact (Below.refl _ _).alloc (Nat.le_refl _) _
  have HB11 := hid (bvia HB10.out hbw)
  have HP11 := hid (HP10.out.below hbw)
  have HQ11 := hid (HQ10.out.below hbw)
  clear hW hbw
  refine (requal_calls _ _ _ _ _ _ _ _ p p W2 HP11.out HQ11.out).mono ?_
  rintro e w12 ⟨rfl, hb⟩
  rw [eqC_true rfl]
  have HB12 := hid (bvia HB11.out hb)
  clear hb
  go_wp2_with fail
  go_ret
  exact ⟨rfl, HB12.out⟩

def sealL (l : List UInt8) : List UInt8 := (magicL ++ l) ++ sumBytes (sumB (magicL ++ l))
theorem seal_len (l : List UInt8) : (sealL l).length = l.length + 8 := by
  unfold sealL
  rw [List.length_append, List.length_append, sumBytes_len]
  show 4 + l.length + 4 = _
  omega

set_option maxRecDepth 100000 in
set_option maxHeartbeats 4000000 in
theorem sealed_calls (lo : Nat) (v : Value) (l : List UInt8) (w : World) (h : BytesAt lo w v l) (hl : l.length ≤ 100000000) :
    Calls Try.prog 18 #[v] w fun e w' => ∃ v', e = .returned v' ∧ BytesAt 0 w' v' (sealL l) ∧ Below w.heap.size w w' := by
  have H := hid h
  obtain ⟨a, c, b, o, rfl, _⟩ := h.open
  clear h
  have kc : ∀ (C : Array Value) (n c : Nat), (convert 22 22 (.slice (some ⟨w.heap.size, 0, none⟩) n c)).run Try.prog (w.alloc (.cells C 5)) = .ok (.slice (some ⟨w.heap.size, 0, none⟩) n c) (w.alloc (.cells C 5 (C.size, C.size + 1))) := fun C n c => Go.Lib.run_convert_bytes_const (P := Try.prog) w 22 5 C n c Try.underlying22 Try.underlying5
  go_enter Try.func18, Try.ntmps18
  go_wp2_with (
    at_builtin
    go_loud (refine wpList_append_any (o := ⟨some 8, _, _, _, _, _⟩) rfl (.tmp 6) (.tmp 7) rfl w.heap.size lo magicL l ⟨w.heap.size, #[.int .u8 105, .int .u8 108, .int .u8 118, .int .u8 49], (4, 5), rfl, Nat.le_refl _, heap_alloc_new _ _, rfl⟩ (SlE.below H.out ((Below.refl _ _).alloc (Nat.le_refl _) _)) (by show 4 + _ ≤ _; omega) (by simp) ?_)
    intro v7 w7 ho7 hk7
    have HO7 := hid ho7
    have HK7 := hid hk7
    clear ho7 hk7)
  have hll : (magicL ++ l).length = 4 + l.length := by rw [List.length_append]; rfl
  obtain ⟨L, hL⟩ : ∃ L, magicL ++ l = L := ⟨_, rfl⟩
  have HL := hid hL
  rw [hL] at hll HO7
  have HLL := hid hll
  have HZ7 := hid (show w.heap.size ≤ w7.heap.size by have := HK7.out.2.1; simp at this; omega)
  have HB7 := hid (show Below w.heap.size w w7 from (((Below.refl _ _).alloc (Nat.le_refl _) _)).trans HK7.out.1)
  clear hL hll HK7
  obtain ⟨a7, c7, rfl⟩ := HO7.out.anySlice
  refine (rsum_calls 0 _ L w7 (HO7.out.sl (by have := HLL.out; omega))).mono ?_
  rintro e w8 ⟨rfl, hb8⟩
  have HO8 := hid (HO7.out.ofBlock fun k hk => hb8.block k (HO7.out.lt k hk).2.1)
  have HB8 := hid (bvia HB7.out hb8)
  have HZ8 := hid (Nat.le_trans HZ7.out hb8.size)
  clear hb8
  go_wp2_with (
    at_builtin
    go_loud (
      refine wpList_append_M (o := ⟨some 24, _, _, _, _, _⟩) rfl (.tmp 11) (.tmp 23) rfl w.heap.size w8.heap.size L (sumBytes (sumB L)) (by simp [sumBytes]) (HO8.out.alloc _) ((OwnE.lit byteE w8 w8.heap.size 5 (sumBytes (sumB L)) #[Value.int .u8 ((natS (sumB L) : Nat) / 16777216 % 256), Value.int .u8 ((natS (sumB L) : Nat) / 65536 % 256), Value.int .u8 ((natS (sumB L) : Nat) / 256 % 256), Value.int .u8 ((natS (sumB L) : Nat) % 256)] w8.heap.size 4 rfl (Nat.le_refl _) rfl (lit_sum _) (by simp [sumBytes])).sl (Nat.le_refl _) (by simp [sumBytes])) (by have := HLL.out; simp [sumBytes]; omega) (by have := HZ8.out; simp; omega) ?_
      intro v11 w11 ho11 hk11
      have HO11 := hid ho11
      have HK11 := hid ((KT.alloc [5] w8 (.cells #[Value.int .u8 ((natS (sumB L) : Nat) / 16777216 % 256), Value.int .u8 ((natS (sumB L) : Nat) / 65536 % 256), Value.int .u8 ((natS (sumB L) : Nat) / 256 % 256), Value.int .u8 ((natS (sumB L) : Nat) % 256)] 5) HZ8.out).trans hk11)
      clear ho11 hk11))
  go_ret
  refine ⟨_, rfl, ?_, HB8.out.trans HK11.out.1⟩
  unfold sealL
  rw [HL.out]
  exact HO11.out.sl (Nat.zero_le _) (by rw [List.length_append, sumBytes_len]; have := HLL.out; omega)

end Go.Proofs.Ytkfpacklpelefaa
