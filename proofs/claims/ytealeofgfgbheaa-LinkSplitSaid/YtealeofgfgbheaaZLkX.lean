/-
  link.Link walked, for a list of parts that fit.
-/
import Derived.Test.YtealeofgfgbheaaZLkE
import Derived.Test.YtealeofgfgbheaaZLkF
import Derived.Test.YtealeofgfgbheaaZLkH
import Derived.Test.YtealeofgfgbheaaZLkO
import Derived.Test.YtealeofgfgbheaaZLkV
namespace Go.Proofs.Ytealeofgfgbheaa
set_option linter.unusedVariables false
set_option linter.unusedSimpArgs false
open Go.RowKit

theorem link_results (tmps : Array Value) (w : World) (b : Nat) (x y z m e : Value) (h2 : tmps.getD 2 undef = .pointer (some ⟨b, 0, none⟩)) (h3 : tmps.getD 3 undef = e) (hx : BoxAt w b 26 [x, y, z, m]) :
    (results Try.f15 tmps).run Try.prog w = .ok (.tuple #[.agg #[x, y, z, m], e]) w := by
  have g0 := hx.cell 0 _ rfl
  have g1 := hx.cell 1 _ rfl
  have g2 := hx.cell 2 _ rfl
  have g3 := hx.cell 3 _ rfl
  have h2' : tmps[2]?.getD undef = .pointer (some ⟨b, 0, none⟩) := by simpa using h2
  have h3' : tmps[3]?.getD undef = e := by simpa using h3
  simp [results, Try.results15, h2', h3', asAddr, go_sem, g0, g1, g2, g3]

theorem link_end {Q : Ending → World → Prop} (w X : World) (o0 o1 o2 o3 x y z m e : Value) (r : Act) (hx : BoxAt X w.heap.size 26 [o0, o1, o2, o3]) (hb : Below w.heap.size w X)
    (h2 : r.tmps.getD 2 undef = .pointer (some ⟨w.heap.size, 0, none⟩)) (h3 : r.tmps.getD 3 undef = e) (hd : r.defers = [])
    (hQ : ∀ X', Only (some w.heap.size) X X' → Below w.heap.size w X' → Q (.returned (.tuple #[.agg #[x, y, z, m], e])) X') :
    bodyPost Try.prog Try.f15 Q .ret r ((((X.setCell ⟨w.heap.size, 0, none⟩ x).setCell ⟨w.heap.size, 1, none⟩ y).setCell ⟨w.heap.size, 2, none⟩ z).setCell ⟨w.heap.size, 3, none⟩ m) := by
  have hx1 := (((hx.set 0 x).set 1 y).set 2 z).set 3 m
  have hO : ∀ (u : Value) (k : Nat) (x : World), Only (some (w.heap.size)) x (x.setCell ⟨w.heap.size, k, none⟩ u) := fun u k x => Only.store x _ k u
  have hB0 : ∀ (u : Value) (k : Nat) (x : World), Below w.heap.size x (x.setCell ⟨w.heap.size, k, none⟩ u) := fun u k x => (Below.refl w.heap.size x).setCell (p := ⟨w.heap.size, k, none⟩) (Nat.le_refl _) u
  exact bodyPost_ret (link_results _ _ _ _ _ _ _ _ h2 h3 hx1) hd (hQ _ (((hO x 0 X).trans (hO y 1 _)).trans (hO z 2 _) |>.trans (hO m 3 _)) (hb.trans ((((hB0 x 0 X).trans (hB0 y 1 _)).trans (hB0 z 2 _)).trans (hB0 m 3 _))))

/-- The linker at its beginning. -/
theorem LkSt.begin (lo : Nat) (w0 wr : World) (bK bF bG : Nat) (hb : Below w0.heap.size w0 wr) (hx : BoxAt wr bK tLk [.slice none 0 0, .slice none 0 0, .slice none 0 0, .int .i64 (-1), .map (some bF), .map (some bG)])
    (hF : MapN strK wr bF 0 (fun _ => none)) (hG : MapN strK wr bG 0 (fun _ => none)) (hne : bF ≠ bG) (h1 : w0.heap.size ≤ bK) (h2 : w0.heap.size ≤ bF) (h3 : w0.heap.size ≤ bG) :
    LkSt lo w0 wr bK bF bG 0 0 (.slice none 0 0) (.slice none 0 0) (.slice none 0 0) [] [] [] [] [] (-1) :=
  ⟨QFuns.nil _ _ _ hb, OwnE.nil _ _ _ _, OwnLays.nil _ _, hx, hF.congr (fun k => rfl), hG.congr (fun k => rfl), Nat.le_refl _, Nat.le_refl _, hne, h1, h2, h3⟩

/-- The worlds at the beginning of Link. -/
theorem link_start (lo : Nat) (w W0 W3 : World) (h0 : w.alloc (.cells #[.slice none 0 0, .slice none 0 0, .slice none 0 0, .int .i64 0] 26) = W0)
    (h3 : ((W0.alloc (.map #[] 0)).alloc (.map #[] 0)).alloc (.cells #[.slice none 0 0, .slice none 0 0, .slice none 0 0, .int .i64 (-1), .map (some (w.heap.size + 1)), .map (some (w.heap.size + 1 + 1))] tLk) = W3) :
    Below w.heap.size w W0 ∧ BoxAt W0 w.heap.size 26 [.slice none 0 0, .slice none 0 0, .slice none 0 0, .int .i64 0] ∧ LkSt lo W0 W3 (w.heap.size + 1 + 1 + 1) (w.heap.size + 1) (w.heap.size + 1 + 1) 0 0 (.slice none 0 0) (.slice none 0 0) (.slice none 0 0) [] [] [] [] [] (-1) := by
  have hz0 : W0.heap.size = w.heap.size + 1 := by rw [← h0]; exact Array.size_push _
  have hb0 : Below w.heap.size w W0 := by rw [← h0]; exact (Below.refl _ _).alloc (Nat.le_refl _) _
  have hx0 : BoxAt W0 w.heap.size 26 [.slice none 0 0, .slice none 0 0, .slice none 0 0, .int .i64 0] := by rw [← h0]; exact BoxAt.new _ _ _ _ _ rfl rfl
  refine ⟨hb0, hx0, ?_⟩
  have hz1 : (W0.alloc (.map #[] 0)).heap.size = w.heap.size + 1 + 1 := (Array.size_push _).trans (by rw [hz0])
  have hz2 : ((W0.alloc (.map #[] 0)).alloc (.map #[] 0)).heap.size = w.heap.size + 1 + 1 + 1 := (Array.size_push _).trans (by rw [hz1])
  have a1 : Below W0.heap.size W0 (W0.alloc (.map #[] 0)) := (Below.refl _ _).alloc (Nat.le_refl _) _
  have a2 : Below (W0.alloc (.map #[] 0)).heap.size (W0.alloc (.map #[] 0)) ((W0.alloc (.map #[] 0)).alloc (.map #[] 0)) := (Below.refl _ _).alloc (Nat.le_refl _) _
  have a3 : Below ((W0.alloc (.map #[] 0)).alloc (.map #[] 0)).heap.size ((W0.alloc (.map #[] 0)).alloc (.map #[] 0)) W3 := by rw [← h3]; exact (Below.refl _ _).alloc (Nat.le_refl _) _
  have m1 : MapN strK (W0.alloc (.map #[] 0)) (w.heap.size + 1) 0 (fun _ => none) := by rw [← hz0]; exact MapN.made W0
  have m2 : MapN strK ((W0.alloc (.map #[] 0)).alloc (.map #[] 0)) (w.heap.size + 1 + 1) 0 (fun _ => none) := by rw [← hz1]; exact MapN.made _
  have hx3 : BoxAt W3 (w.heap.size + 1 + 1 + 1) tLk [.slice none 0 0, .slice none 0 0, .slice none 0 0, .int .i64 (-1), .map (some (w.heap.size + 1)), .map (some (w.heap.size + 1 + 1))] := by rw [← h3, ← hz2]; exact BoxAt.new _ _ _ _ _ rfl rfl
  refine LkSt.begin lo W0 W3 _ _ _ ((a1.trans (a2.mono (by omega))).trans (a3.mono (by omega))) hx3 ((m1.below a2).below a3) (m2.below a3) (by omega) (by omega) (by omega) (by omega)

/-- Instructions don't lie in a block of four cells. -/
theorem code_off {lo : Nat} {W X : World} {v : Value} {c : List Ins} {b : Nat} {t : TypeId} {x0 x1 x2 x3 : Value} (h : SlE insE lo W v c) (hx : BoxAt W b t [x0, x1, x2, x3]) (hO : Only (some b) W X) : SlE insE lo X v c := by
  obtain ⟨a, cc, b', o, rfl, hnil, hp, hc, h1, h2, h3⟩ := h
  refine ⟨a, cc, b', o, rfl, hnil, hp, fun i k hi hk => ?_, h1, h2, h3⟩
  have h4 := hc i 4 hi (by decide)
  have hne : b' ≠ b := by
    rintro rfl
    unfold BoxAt at hx
    simp [World.cell?, hx] at h4
  have hr := hc i k hi hk
  have hlt := World.block_lt_of_cell? _ _ hr
  rw [World.cell?_of_block (w := W) (hO.2 b' hlt (fun e => hne (by simpa using e)))]
  exact hr
theorem relStep_codes (g : Int → Int → Int) (D : List Fun) (f : Fun) (n : Nat) (hD : ∀ x ∈ D, x.code.length ≤ n) (hf : f.code.length ≤ n) : ∀ x ∈ relStep g D f, x.code.length ≤ n := by
  intro x hx
  unfold relStep at hx
  rcases List.mem_or_eq_of_mem_set hx with h | rfl
  · exact hD x h
  · simpa using hf
theorem relK_codes (g : Int → Int → Int) (n : Nat) : ∀ (l : List Fun) (D : List Fun), (∀ x ∈ D, x.code.length ≤ n) → (∀ x ∈ l, x.code.length ≤ n) → ∀ x ∈ l.foldl (relStep g) D, x.code.length ≤ n
  | [], D, hD, _ => hD
  | f :: l, D, hD, hl => relK_codes g n l (relStep g D f) (relStep_codes g D f n hD (hl f (by simp))) (fun x hx => hl x (by simp [hx]))
theorem dK_codes {L : List Prg} (hL : LOk L) : ∀ x ∈ dL L, x.code.length ≤ 1000000 := by
  intro x hx
  unfold dL dK at hx
  rw [List.take_length] at hx
  obtain ⟨P, hP, hm⟩ := List.mem_flatMap.1 hx
  exact hL.code P hP x (List.mem_filter.1 hm).1
theorem rK_codes {L : List Prg} (hL : LOk L) : ∀ k, k ≤ L.length → ∀ x ∈ rK L k, x.code.length ≤ 1000000
  | 0, _ => dK_codes hL
  | k + 1, h => by
    rw [rK_succ h]
    exact relK_codes _ _ _ _ (rK_codes hL k (by omega)) (fun x hx => hL.code _ (nth_mem L k h) x (by
      unfold defsK at hx
      exact List.mem_of_mem_take (List.mem_filter.1 hx).1))
theorem res_fnd {D : List Fun} {P : Prg} (h : resB D P = true) (j : Nat) (hj : j < P.funcs.length) : ∃ i : Nat, i < D.length ∧ fnd (D.map fun f => f.name) (nth P.funcs j).name = some (i : Int) := by
  unfold resB at h
  have h1 := List.all_eq_true.1 h j (List.mem_range.2 hj)
  unfold hasB at h1
  by_cases hm : (nth P.funcs j).name ∈ D.map fun f => f.name
  · obtain ⟨i, h2, h3, -⟩ := fnd_some _ _ hm
    exact ⟨i, by simpa using h2, h3⟩
  · rw [memB_false hm] at h1
    cases h1
/-- Where the functions of the result lie. -/
theorem LkSt.result {lo lo' : Nat} {w W0 Wf X : World} {bK bF bG cF cG : Nat} {vq vg vl o0 o1 o2 o3 : Value} {D : List Fun} {ss : List Slc} {G : List Glob} {Y : List (List Int)} {rs : List Slc} {m : Int} (h : LkSt lo W0 Wf bK bF bG cF cG vq vg vl D ss G Y rs m)
    (hlo : lo' ≤ W0.heap.size) (hown : ∀ i, i < D.length → OwnC W0.heap.size Wf D ss i) (hx : BoxAt Wf w.heap.size 26 [o0, o1, o2, o3]) (hO : Only (some w.heap.size) Wf X)
    (hD : D.length ≤ 64) (hc : ∀ f ∈ D, f.code.length ≤ 1000000) (hG : G.length ≤ 64) (hY : Y.length ≤ 32) (hr : ∀ r ∈ Y, r.length ≤ 1000000) : ProgAt lo' X vq vg vl ⟨D, G, Y, m⟩ := by
  refine ⟨⟨ss, h.q.len, (h.q.row.only hO (h.q.row.neBox hx (by decide))).sl hlo (by rw [h.q.zlen]; omega), fun i hi => ?_⟩, (h.globs.only hO (h.globs.neBox hx (by decide))).sl hlo (by omega), ?_⟩
  · have hy := hown i hi
    exact (OwnE.only hy hO (OwnE.neBox hy hx (by decide))).sl hlo (by have := hc _ (nth_mem D i hi); omega)
  · exact OwnLays.at (base := W0.heap.size) (ss := rs) (h.lays.onlyBox hO hx (by decide) (by decide)) hlo (by show Y.length ≤ _; omega) (fun f hf => by have := hr f hf; omega)
theorem idx_covers {L : List Prg} (hN : ((dL L).map fun f => f.name).Nodup) (i : Nat) (hi : i < (dL L).length) : ∃ k, k < L.length ∧ ∃ f ∈ defsP (nth L k), idxD (dL L) f.name = i := by
  have hm : nth (dL L) i ∈ dL L := nth_mem _ i hi
  have he : dL L = L.flatMap defsP := by unfold dL dK; rw [List.take_length]
  have hm2 : nth (dL L) i ∈ L.flatMap defsP := he ▸ hm
  obtain ⟨P, hP, hf⟩ := List.mem_flatMap.1 hm2
  obtain ⟨k, hk, rfl⟩ := List.getElem_of_mem hP
  refine ⟨k, hk, nth (dL L) i, by rw [nth_eq _ _ hk]; exact hf, ?_⟩
  unfold idxD
  rw [fnd_at _ hN i _ (by rw [nth_eq _ _ hi]; simp [hi])]
  simp

set_option maxRecDepth 100000 in
set_option maxHeartbeats 8000000 in
theorem link_calls (lo : Nat) (w : World) (v : Value) (L : List Prg) (T : List PV) (h : ProgsAt lo w v L T) (hL : LOk L) :
    Calls Try.prog 15 #[v] w fun e w' => ((missB L = true ∧ e = .returned (.tuple #[.agg #[.slice none 0 0, .slice none 0 0, .slice none 0 0, .int .i64 0], .int .i64 5])) ∨
      (missB L = false ∧ ∃ uf ug ul, e = .returned (.tuple #[.agg #[uf, ug, ul, .int .i64 (mL L)], .int .i64 0]) ∧ ProgAt w.heap.size w' uf ug ul (linkL L))) ∧ Below w.heap.size w w' := by
  have H := hid h
  have HL := hid hL
  have hv : ∃ ta tc, v = .slice ta L.length tc := by
    obtain ⟨ta, tc, _, _, e, -⟩ := h.row
    exact ⟨ta, tc, by rw [e, h.len]⟩
  obtain ⟨ta, tc, rfl⟩ := hv
  have hln : L.length ≤ 1000 := Nat.le_trans hL.len (by omega)
  clear h hL
  have hmm := @run_makeMap Try.prog
  go_enter Try.func15, Try.ntmps15
  go_wp2_with fail
  generalize hW0 : World.alloc w _ = W0
  generalize hW3 : World.alloc (World.alloc (World.alloc W0 _) _) _ = W3
  obtain ⟨hb0, hx0, hs0⟩ := link_start lo w W0 W3 hW0 hW3
  clear hW0 hW3 hmm
  have HB0 := hid hb0
  have HX0 := hid hx0
  have HS0 := hid hs0
  have HA := hid (H.out.below hb0)
  clear hb0 hx0 hs0
  refine (all0_calls lo W0 W3 _ L T 11 (fun _ w' => LkSt lo W0 w' (w.heap.size + 1 + 1 + 1) (w.heap.size + 1) (w.heap.size + 1 + 1) 0 0 (.slice none 0 0) (.slice none 0 0) (.slice none 0 0) [] [] [] [] [] (-1)) (fun k => partB (nth L k)) HA.out hln (fun args w => by go_simp) (fun k w' h => h.q.low) (fun k w' w'' h hb => h.fresh hb) HS0.out (fun k uf ug ul w' hk hI hP => ?_)).mono ?_
  · refine (lpart_calls lo uf ug ul (nth L k) w' (hP.below hI.q.low) (HL.out.wf _ (nth_mem L k hk))).mono ?_
    rintro e w'' ⟨rfl, hb⟩
    exact ⟨rfl, hI.fresh hb⟩
  rintro e W4 ⟨b, k, rfl, hI, hk, -, hbf⟩
  have hbt : b = true := by
    cases b with
    | true => rfl
    | false =>
      obtain ⟨j, h1, h2⟩ := hbf rfl
      have := HL.out.part _ (nth_mem L j h1)
      rw [this] at h2
      cases h2
  subst hbt
  have HS4 := hid hI
  clear hI hk hbf HS0
  go_wp2_with fail
  refine (all1_calls lo W0 W4 _ L T 30 (.pointer (some ⟨w.heap.size + 1 + 1 + 1, 0, none⟩)) (fun k w' => ∃ cF va vc ss, LkSt lo W0 w' (w.heap.size + 1 + 1 + 1) (w.heap.size + 1) (w.heap.size + 1 + 1) cF 0 (.slice va (dK L k).length vc) (.slice none 0 0) (.slice none 0 0) (dK L k) ss [] [] [] (mK L k)) (fun k => true) HA.out hln (fun args w => by go_simp) (fun k w' h => by obtain ⟨_, _, _, _, h⟩ := h; exact h.q.low) (fun k w' w'' h hb => by obtain ⟨c1, c2, c3, c4, h⟩ := h; exact ⟨c1, c2, c3, c4, h.fresh hb⟩) ⟨0, none, 0, [], HS4.out⟩ (fun k uf ug ul w' hk hI hP => ?_)).mono ?_
  · obtain ⟨c1, c2, c3, c4, hI⟩ := hI
    have hmem := nth_mem L k hk
    refine (define_calls lo W0 w' _ _ _ c1 0 c2 c3 _ _ uf ug ul (dK L k) c4 [] [] [] (mK L k) (nth L k) hI hP (HL.out.wf _ hmem) ?_ (fun j hj hd => new_name HL.out.names hk j hj hd) (fun hm => mK_before HL.out hk hm) (HL.out.maind _ hmem)).mono ?_
    · have := dK_len HL.out k (by omega)
      have := (HL.out.small _ hmem).1
      have := HL.out.len
      omega
    · rintro e w'' ⟨rfl, d1, d2, d3, d4, hd⟩
      refine ⟨rfl, d1, d2, d3, d4, ?_⟩
      rw [dK_succ hk]
      exact hd
  rintro e W5 ⟨b, k, rfl, hI, hk, hbt, hbf⟩
  have hbt2 : b = true := by
    cases b with
    | true => rfl
    | false =>
      obtain ⟨j, h1, h2⟩ := hbf rfl
      cases h2
  subst hbt2
  obtain ⟨rfl, -⟩ := hbt rfl
  obtain ⟨cF, va, vc, ss, hI⟩ := hI
  have HS5 := hid hI
  clear hI hk hbf hbt HS4
  have b3 := HS5.out.box.cell 3 _ rfl
  have bz := HS5.out.box.lt
  by_cases hm : mK L L.length < 0
  · have HMI := hid (show missB L = true by unfold missB; rw [decide_eq_true hm]; rfl)
    have hmd : decide (mK L L.length < 0) = true := decide_eq_true hm
    have hx5 := HX0.out.below HS5.out.q.low
    have HX5 := hid hx5
    have HBW := hid (HB0.out.trans (HS5.out.q.low.mono HB0.out.size))
    have x0 := hx5.cell 0 _ rfl
    have x1 := hx5.cell 1 _ rfl
    have x2 := hx5.cell 2 _ rfl
    have x3 := hx5.cell 3 _ rfl
    have xz := hx5.lt
    have t0 := hx5.frozen 0
    have t1 := hx5.frozen 1
    have t2 := hx5.frozen 2
    have t3 := hx5.frozen 3
    clear hx5
    go_wp2_with fail
    refine link_end w W5 _ _ _ _ _ _ _ _ _ _ HX5.out HBW.out rfl rfl rfl (fun X' _ hb => ⟨.inl ⟨HMI.out, rfl⟩, hb⟩)
  · have hmd : decide (mK L L.length < 0) = false := decide_eq_false hm
    have HMN := hid hm
    go_wp2_with fail
    refine (all1_calls lo W0 W5 _ L T 31 (.pointer (some ⟨w.heap.size + 1 + 1 + 1, 0, none⟩)) (fun k w' => LkSt lo W0 w' (w.heap.size + 1 + 1 + 1) (w.heap.size + 1) (w.heap.size + 1 + 1) cF 0 (.slice va (dK L L.length).length vc) (.slice none 0 0) (.slice none 0 0) (dK L L.length) ss [] [] [] (mK L L.length)) (fun k => resB (dK L L.length) (nth L k)) HA.out hln (fun args w => by go_simp) (fun k w' h => h.q.low) (fun k w' w'' h hb => h.fresh hb) HS5.out (fun k uf ug ul w' hk hI hP => ?_)).mono ?_
    · refine (resolved_calls lo W0 w' _ _ _ cF 0 _ _ _ uf ug ul _ ss [] [] [] _ (nth L k) hI hP (HL.out.wf _ (nth_mem L k hk))).mono ?_
      rintro e w'' ⟨rfl, hb⟩
      exact ⟨rfl, hI.fresh hb⟩
    rintro e W6 ⟨b, k, rfl, hI, hk, hbt, hbf⟩
    have HS6 := hid hI
    clear hI hk hm hmd HS5 b3 bz
    cases b with
    | false =>
      have HMI := hid (show missB L = true by
        obtain ⟨j, h1, h2⟩ := hbf rfl
        unfold missB
        rw [Bool.or_eq_true]
        right
        rw [Bool.not_eq_true', List.all_eq_false]
        exact ⟨j, List.mem_range.2 h1, by rw [h2]; simp⟩)
      have hx5 := HX0.out.below HS6.out.q.low
      have HX5 := hid hx5
      have HBW := hid (HB0.out.trans (HS6.out.q.low.mono HB0.out.size))
      have x0 := hx5.cell 0 _ rfl
      have x1 := hx5.cell 1 _ rfl
      have x2 := hx5.cell 2 _ rfl
      have x3 := hx5.cell 3 _ rfl
      have xz := hx5.lt
      have t0 := hx5.frozen 0
      have t1 := hx5.frozen 1
      have t2 := hx5.frozen 2
      have t3 := hx5.frozen 3
      clear hx5 hbt hbf
      go_wp2_with fail
      refine link_end w W6 _ _ _ _ _ _ _ _ _ _ HX5.out HBW.out rfl rfl rfl (fun X' _ hb => ⟨.inl ⟨HMI.out, rfl⟩, hb⟩)
    | true =>
      obtain ⟨rfl, hall⟩ := hbt rfl
      have HALL := hid hall
      have HMI := hid (show missB L = false by
        unfold missB
        rw [decide_eq_false (show ¬ (mK L L.length < 0) by have := HMN.out; omega), Bool.false_or, Bool.not_eq_false', List.all_eq_true]
        exact fun j hj => hall j (List.mem_range.1 hj))
      clear hall hbt hbf
      go_wp2_with fail
      refine (all1_calls lo W0 W6 _ L T 32 (.pointer (some ⟨w.heap.size + 1 + 1 + 1, 0, none⟩)) (fun k w' => ∃ cG ga gc, LkSt lo W0 w' (w.heap.size + 1 + 1 + 1) (w.heap.size + 1) (w.heap.size + 1 + 1) cF cG (.slice va (dK L L.length).length vc) (.slice ga (gK L k).length gc) (.slice none 0 0) (dK L L.length) ss (gK L k) [] [] (mK L L.length)) (fun k => true) HA.out hln (fun args w => by go_simp) (fun k w' h => by obtain ⟨_, _, _, h⟩ := h; exact h.q.low) (fun k w' w'' h hb => by obtain ⟨c1, c2, c3, h⟩ := h; exact ⟨c1, c2, c3, h.fresh hb⟩) ⟨0, none, 0, HS6.out⟩ (fun k uf ug ul w' hk hI hP => ?_)).mono ?_
      · obtain ⟨c1, c2, c3, hI⟩ := hI
        have hmem := nth_mem L k hk
        have hgl := gK_len HL.out k (by omega)
        have hsm := HL.out.small _ hmem
        have hln2 := HL.out.len
        have hlF : (dK L L.length).length ≤ 64 := HL.out.limF
        refine (fits_calls lo W0 w' _ _ _ cF c1 va c2 vc c3 _ uf ug ul (dK L L.length) ss (gK L k) [] [] _ (nth L k) hI hP (HL.out.wf _ hmem) (by omega) (by omega) (fun j hj => ?_) (fun j hj g' hg' he => ?_)).mono ?_
        · obtain ⟨i, h1, h2⟩ := res_fnd (HALL.out k hk) j hj
          exact ⟨i, h1, h2, HL.out.par _ hmem _ (nth_mem _ j hj) i h2⟩
        · rcases hg' with h1 | h1
          · obtain ⟨Q, hQ, h2⟩ := gK_sub k (by omega) g' h1
            exact HL.out.kind _ hQ _ hmem _ h2 _ (nth_mem _ j hj) he
          · exact HL.out.kind _ hmem _ hmem _ h1 _ (nth_mem _ j hj) he
        · rintro e w'' ⟨rfl, d1, d2, d3, hd⟩
          refine ⟨rfl, d1, d2, d3, ?_⟩
          rw [gK_succ hk]
          exact hd
      rintro e W7 ⟨b, k, rfl, hI, hk, hbt, hbf⟩
      have hbt2 : b = true := by
        cases b with
        | true => rfl
        | false =>
          obtain ⟨j, h1, h2⟩ := hbf rfl
          cases h2
      subst hbt2
      obtain ⟨rfl, -⟩ := hbt rfl
      obtain ⟨cG, ga, gc, hI⟩ := hI
      have HS7 := hid hI
      clear hI hk hbf hbt HS6
      go_wp2_with fail
      have hvl : LkSt lo W0 W7 (w.heap.size + 1 + 1 + 1) (w.heap.size + 1) (w.heap.size + 1 + 1) cF cG (.slice va (dK L L.length).length vc) (.slice ga (gK L L.length).length gc) (.slice none (yK L 0).length 0) (dK L L.length) ss (gK L L.length) (yK L 0) [] (mK L L.length) := HS7.out
      have HVL := hid hvl
      clear hvl HS7
      go_loopw [52] (fun iv wr => ∃ (k : Nat) (ya : Option Addr) (yc : Nat) (rs : List Slc), k ≤ L.length ∧ iv = .int .i64 k ∧ LkSt lo W0 wr (w.heap.size + 1 + 1 + 1) (w.heap.size + 1) (w.heap.size + 1 + 1) cF cG (.slice va (dK L L.length).length vc) (.slice ga (gK L L.length).length gc) (.slice ya (yK L k).length yc) (dK L L.length) ss (gK L L.length) (yK L k) rs (mK L L.length)) (fun iv _ => L.length - (intOf iv).toNat)
      case atStart => exact ⟨0, none, 0, [], Nat.zero_le _, rfl, HVL.out⟩
      case round =>
      clear HVL
      obtain ⟨k, ya, yc, rs, hk, rfl, hI⟩ := hrel
      obtain ⟨wo, hwo⟩ : ∃ wo, wo = wr := ⟨_, rfl⟩
      subst hwo
      have HI := hid hI
      clear hI
      by_cases hlt : k < L.length
      · have hlt2 : (k : Int) < L.length := Int.ofNat_lt.2 hlt
        have hki : ¬ ((k : Int) < 0) := by omega
        obtain ⟨a, c, b, o, hae, hp, hcell, hbl⟩ := HA.out.row.open4
        obtain ⟨rfl, -, rfl⟩ := Value.slice.inj hae
        rw [HA.out.len] at hp hcell hbl
        obtain rfl := hp (by omega)
        have hbw := HI.out.q.low
        have gl := hbl (by omega)
        have y0 := (hbw.cell (p := ⟨b, _, none⟩) gl).trans (hcell k 0 hlt (by decide))
        have y1 := (hbw.cell (p := ⟨b, _, none⟩) gl).trans (hcell k 1 hlt (by decide))
        have y2 := (hbw.cell (p := ⟨b, _, none⟩) gl).trans (hcell k 2 hlt (by decide))
        have y3 := (hbw.cell (p := ⟨b, _, none⟩) gl).trans (hcell k 3 hlt (by decide))
        obtain ⟨t, ht⟩ : ∃ t, nth T k = t := ⟨_, rfl⟩
        have hmn := HA.out.main k hlt
        have hpr := HA.out.each k hlt
        rw [ht] at y0 y1 y2 y3 hmn hpr
        obtain ⟨tf, tg, tl, tm⟩ := t
        simp only at hmn hpr
        subst hmn
        obtain ⟨la, lc, lb, lo', LS, hle, lp, l0, li, lbl, -, -, -⟩ := hpr.lays.open
        have z0 : wo.cell? ⟨b, o + k * 4, none⟩ = some (.slice tf.a tf.n tf.c) := y0
        have z1 : wo.cell? ⟨b, o + k * 4 + 1, none⟩ = some (.slice tg.a tg.n tg.c) := y1
        have z2 : wo.cell? ⟨b, o + k * 4 + 2, none⟩ = some (.slice la (nth L k).layouts.length lc) := by rw [← hle]; exact y2
        have z3 : wo.cell? ⟨b, o + k * 4 + 3, none⟩ = some (.int .i64 (nth L k).main) := y3
        have gl2 : b < wo.heap.size := Nat.lt_of_lt_of_le gl hbw.size
        have HLQ := hid (And.intro lp (And.intro l0 (And.intro li lbl)))
        clear hae hp hcell hbl hbw gl y0 y1 y2 y3 hpr ht hle lp l0 li lbl
        go_wp2_with fail
        generalize hX : World.alloc _ _ = X
        have hal : Below wo.heap.size wo X := by rw [← hX]; exact (Below.refl _ _).alloc (Nat.le_refl _) _
        have HIX := hid (HI.out.fresh hal)
        clear hX hal z0 z1 z2 z3 gl2 HI
        have hst : ∃ ya' yc' rs', LkSt lo W0 X (w.heap.size + 1 + 1 + 1) (w.heap.size + 1) (w.heap.size + 1 + 1) cF cG (.slice va (dK L L.length).length vc) (.slice ga (gK L L.length).length gc) (.slice ya' (yJ (yK L k) (nth L k) 0).length yc') (dK L L.length) ss (gK L L.length) (yJ (yK L k) (nth L k) 0) rs' (mK L L.length) := ⟨ya, yc, rs, HIX.out⟩
        have HST := hid hst
        clear hst HIX
        go_loopw [59] (fun iv wr => ∃ (j : Nat) (ya' : Option Addr) (yc' : Nat) (rs' : List Slc), j ≤ (nth L k).layouts.length ∧ iv = .int .i64 j ∧ LkSt lo W0 wr (w.heap.size + 1 + 1 + 1) (w.heap.size + 1) (w.heap.size + 1 + 1) cF cG (.slice va (dK L L.length).length vc) (.slice ga (gK L L.length).length gc) (.slice ya' (yJ (yK L k) (nth L k) j).length yc') (dK L L.length) ss (gK L L.length) (yJ (yK L k) (nth L k) j) rs' (mK L L.length)) (fun iv _ => (nth L k).layouts.length - (intOf iv).toNat)
        case atStart =>
          obtain ⟨d1, d2, d3, d4⟩ := HST.out
          exact ⟨0, d1, d2, d3, Nat.zero_le _, rfl, d4⟩
        case round =>
        clear HST
        obtain ⟨j, ya', yc', rs', hj, rfl, hI⟩ := hrel
        obtain ⟨wl, hwl⟩ : ∃ wl, wl = wr := ⟨_, rfl⟩
        subst hwl
        have HI := hid hI
        clear hI
        by_cases hjlt : j < (nth L k).layouts.length
        · have hjlt2 : (j : Int) < (nth L k).layouts.length := Int.ofNat_lt.2 hjlt
          have hji : ¬ ((j : Int) < 0) := by omega
          obtain ⟨lp, l0, li, lbl⟩ := HLQ.out
          obtain rfl := lp (by omega)
          have hbw := HI.out.q.low
          have gl := lbl (by omega)
          have z0 := (hbw.cell (p := ⟨lb, _, none⟩) gl).trans (l0 j hjlt)
          have gl2 : lb < wl.heap.size := Nat.lt_of_lt_of_le gl hbw.size
          have HLI := hid ((li j hjlt).below hbw)
          have hmem := nth_mem L k hlt
          have hsm := (HL.out.small _ hmem).2.2
          have hrl := HL.out.rowl _ hmem _ (nth_mem _ j hjlt)
          have hyl := yJ_len (yK L k) (nth L k) j (by omega)
          have hyk := yK_len HL.out k (by omega)
          have hlL := HL.out.len
          have hYr : ∀ c ∈ yJ (yK L k) (nth L k) j, c.length ≤ 1000000 := by
            intro c hc
            rcases yJ_sub _ _ _ (by omega) c hc with h1 | h1
            · obtain ⟨Q, hQ, h2⟩ := yK_sub k (by omega) c h1
              exact HL.out.rowl _ hQ _ h2
            · exact HL.out.rowl _ hmem _ h1
          have HYR := hid hYr
          have HMEM := hid hmem
          clear lp l0 li lbl gl hbw hYr hmem
          go_wp2_with fail
          refine (layout_calls lo lo W0 wl _ _ _ cF cG ya' yc' _ _ _ (dK L L.length) ss (gK L L.length) (yJ (yK L k) (nth L k) j) rs' (mK L L.length) (nth (nth L k).layouts j) HI.out HLI.out (by omega) HYR.out hrl).mono ?_
          rintro e w2 ⟨n, rfl, -, -, d1, d2, d3, hd⟩
          rw [← yJ_succ _ _ j hjlt] at hd
          have HD := hid hd
          clear hd
          go_wp2_with fail
          refine ⟨⟨j + 1, d1, d2, d3, hjlt, rfl, HD.out⟩, ?_⟩
          simp only [intOf]
          omega
        · have hje : j = (nth L k).layouts.length := by omega
          subst hje
          have hI2 := HI.out
          rw [← yK_succ hlt] at hI2
          have HI2 := hid hI2
          clear hI2
          go_wp2_with fail
          refine ⟨⟨k + 1, ya', yc', rs', hlt, rfl, HI2.out⟩, ?_⟩
          simp only [intOf]
          omega
      · have hke : k = L.length := by omega
        subst hke
        have k0 := HI.out.box.cell 0 _ rfl
        have k1 := HI.out.box.cell 1 _ rfl
        have k2 := HI.out.box.cell 2 _ rfl
        have kz := HI.out.box.lt
        have hlF : (dK L L.length).length ≤ 64 := HL.out.limF
        have hlG : (gK L L.length).length ≤ 64 := HL.out.limG
        have hlY : (yK L L.length).length ≤ 32 := HL.out.limY
        have g1 : decide ((64 : Int) < (dK L L.length).length) = false := decide_eq_false (by omega)
        have g2 : decide ((64 : Int) < (gK L L.length).length) = false := decide_eq_false (by omega)
        have g3 : decide ((32 : Int) < (yK L L.length).length) = false := decide_eq_false (by omega)
        go_wp2_with fail
        clear k0 k1 k2 kz g1 g2 g3
        have hpos : 0 < (dK L L.length).length := by
          rcases mK_neg (L := L) L.length (Nat.le_refl _) with h1 | ⟨j, h1, h2⟩
          · have := HMN.out; omega
          · have hmr := HL.out.mainr _ (nth_mem L j h1)
            obtain ⟨i, h3, -⟩ := res_fnd (HALL.out j h1) 0 (by omega)
            omega
        obtain ⟨g, cap, hge, -, -⟩ := HI.out.q.row.open (by rw [HI.out.q.zlen]; exact hpos)
        obtain ⟨rfl, -, rfl⟩ := Value.slice.inj hge
        clear hge
        have hr0 : ∃ ss', LkSt lo W0 wo (w.heap.size + 1 + 1 + 1) (w.heap.size + 1) (w.heap.size + 1 + 1) cF cG (.slice (some ⟨g, 0, none⟩) (dK L L.length).length vc) (.slice ga (gK L L.length).length gc) (.slice ya (yK L L.length).length yc) (rK L 0) ss' (gK L L.length) (yK L L.length) rs (mK L L.length) := ⟨ss, HI.out⟩
        have HR0 := hid hr0
        clear hr0 HI hpos
        go_loopw [96] (fun iv wr => ∃ (k : Nat) (ss' : List Slc), k ≤ L.length ∧ iv = .int .i64 k ∧ LkSt lo W0 wr (w.heap.size + 1 + 1 + 1) (w.heap.size + 1) (w.heap.size + 1 + 1) cF cG (.slice (some ⟨g, 0, none⟩) (dK L L.length).length vc) (.slice ga (gK L L.length).length gc) (.slice ya (yK L L.length).length yc) (rK L k) ss' (gK L L.length) (yK L L.length) rs (mK L L.length) ∧ ∀ i, i < (dL L).length → (∃ k', k' < k ∧ ∃ f ∈ defsP (nth L k'), idxD (dL L) f.name = i) → OwnC W0.heap.size wr (rK L k) ss' i) (fun iv _ => L.length - (intOf iv).toNat)
        case atStart =>
          obtain ⟨d1, d2⟩ := HR0.out
          exact ⟨0, d1, Nat.zero_le _, rfl, d2, fun i _ h => by obtain ⟨_, h1, _⟩ := h; omega⟩
        case round =>
        clear HR0
        obtain ⟨k, ss', hk, rfl, hI, hoc⟩ := hrel
        have HOC := hid hoc
        clear hoc
        obtain ⟨wl, hwl⟩ : ∃ wl, wl = wr := ⟨_, rfl⟩
        subst hwl
        have HI := hid hI
        clear hI
        by_cases hlt : k < L.length
        · have hlt2 : (k : Int) < L.length := Int.ofNat_lt.2 hlt
          have hki : ¬ ((k : Int) < 0) := by omega
          obtain ⟨a, c, b, o, hae, hp, hcell, hbl⟩ := HA.out.row.open4
          obtain ⟨rfl, -, rfl⟩ := Value.slice.inj hae
          rw [HA.out.len] at hp hcell hbl
          obtain rfl := hp (by omega)
          have hbw := HI.out.q.low
          have gl := hbl (by omega)
          have y0 := (hbw.cell (p := ⟨b, _, none⟩) gl).trans (hcell k 0 hlt (by decide))
          have y1 := (hbw.cell (p := ⟨b, _, none⟩) gl).trans (hcell k 1 hlt (by decide))
          have y2 := (hbw.cell (p := ⟨b, _, none⟩) gl).trans (hcell k 2 hlt (by decide))
          have y3 := (hbw.cell (p := ⟨b, _, none⟩) gl).trans (hcell k 3 hlt (by decide))
          obtain ⟨t, ht⟩ : ∃ t, nth T k = t := ⟨_, rfl⟩
          have hmn := HA.out.main k hlt
          have hpr := HA.out.each k hlt
          rw [ht] at y0 y1 y2 y3 hmn hpr
          obtain ⟨tf, tg, tl, tm⟩ := t
          simp only at hmn hpr
          subst hmn
          have z0 : wl.cell? ⟨b, o + k * 4, none⟩ = some (.slice tf.a tf.n tf.c) := y0
          have z1 : wl.cell? ⟨b, o + k * 4 + 1, none⟩ = some (.slice tg.a tg.n tg.c) := y1
          have z2 : wl.cell? ⟨b, o + k * 4 + 2, none⟩ = some (.slice tl.a tl.n tl.c) := y2
          have z3 : wl.cell? ⟨b, o + k * 4 + 3, none⟩ = some (.int .i64 (nth L k).main) := y3
          have gl2 : b < wl.heap.size := Nat.lt_of_lt_of_le gl hbw.size
          have HPR := hid hpr
          clear hae hp hcell hbl hbw gl y0 y1 y2 y3 hpr ht
          have hal : Below wl.heap.size wl (wl.alloc (.cells #[.slice tf.a tf.n tf.c, .slice tg.a tg.n tg.c, .slice tl.a tl.n tl.c, .int .i64 (nth L k).main] 26)) := (Below.refl _ _).alloc (Nat.le_refl _) _
          have HIX := hid (HI.out.fresh hal)
          have HOX := hid (show ∀ i, i < (dL L).length → (∃ k', k' < k ∧ ∃ f ∈ defsP (nth L k'), idxD (dL L) f.name = i) → OwnC W0.heap.size _ (rK L k) ss' i from fun i hi hc => (HOC.out i hi hc).fresh hal)
          have hmem := nth_mem L k hlt
          have hrl := rK_len (L := L) k (by omega)
          have hrn := rK_names (L := L) k (by omega)
          have HRN := hid hrn
          have HRL := hid hrl
          have HMEM := hid hmem
          have hlY : (yK L L.length).length ≤ 10000 := Nat.le_trans HL.out.limY (by omega)
          have hlD : (rK L k).length ≤ 10000 := by rw [hrl]; exact Nat.le_trans HL.out.limF (by omega)
          clear hal hrl hrn hmem HI
          go_wp2_with fail
          have hrc := relocate_calls lo W0 _ (w.heap.size + 1 + 1 + 1) (w.heap.size + 1) (w.heap.size + 1 + 1) cF cG g vc ya yc (.slice ga (gK L L.length).length gc) tf.val tg.val tl.val (rK L k) ss' (gK L L.length) (yK L L.length) rs (mK L L.length) (nth L k) (by rw [HRL.out]; exact HIX.out) HPR.out (HL.out.wf _ HMEM.out) hlD
            (fun j hj hd => by
              obtain ⟨i, h1, h2⟩ := res_fnd (HALL.out k hlt) j hj
              rw [HRN.out, HRL.out]
              exact ⟨i, h1, h2⟩)
            (HL.out.rng _ HMEM.out) (HL.out.code _ HMEM.out) hlY
            (fun c hc => by
              obtain ⟨Q, hQ, h2⟩ := yK_sub L.length (Nat.le_refl _) c hc
              exact HL.out.rowl _ hQ _ h2)
            (fun c hc => yK_has L.length (Nat.le_refl _) k hlt c hc)
          rw [HRN.out, HRL.out] at hrc
          refine hrc.mono ?_
          rintro e w2 ⟨rfl, ss2, hd, hoc2⟩
          have hoc3 : ∀ i, i < (dL L).length → (∃ k', k' < k + 1 ∧ ∃ f ∈ defsP (nth L k'), idxD (dL L) f.name = i) → OwnC W0.heap.size w2 (rK L (k + 1)) ss2 i := by
            intro i hi hc
            rw [rK_succ hlt]
            refine hoc2 i hi ?_
            obtain ⟨k', h1, f, h2, h3⟩ := hc
            rcases Nat.lt_or_ge k' k with h4 | h4
            · exact .inl (HOX.out i hi ⟨k', h4, f, h2, h3⟩)
            · rw [show k' = k by omega] at h2
              refine .inr ⟨f, h2, ?_⟩
              have e : idxD (rK L k) f.name = idxD (dL L) f.name := by unfold idxD; rw [HRN.out]
              rw [e]; exact h3
          have HOC3 := hid hoc3
          clear hoc2 hoc3
          have hd2 : LkSt lo W0 w2 (w.heap.size + 1 + 1 + 1) (w.heap.size + 1) (w.heap.size + 1 + 1) cF cG (.slice (some ⟨g, 0, none⟩) (dK L L.length).length vc) (.slice ga (gK L L.length).length gc) (.slice ya (yK L L.length).length yc) (rK L (k + 1)) ss2 (gK L L.length) (yK L L.length) rs (mK L L.length) := by
            rw [rK_succ hlt]
            exact hd
          have HD := hid hd2
          clear hd hd2 hrc z0 z1 z2 z3 gl2
          go_wp2_with fail
          refine ⟨⟨k + 1, ss2, hlt, rfl, HD.out, HOC3.out⟩, ?_⟩
          simp only [intOf]
          omega
        · have hke : k = L.length := by omega
          subst hke
          have hx5 := HX0.out.below HI.out.q.low
          have HX5 := hid hx5
          have HBW := hid (HB0.out.trans (HI.out.q.low.mono HB0.out.size))
          have x0 := hx5.cell 0 _ rfl
          have x1 := hx5.cell 1 _ rfl
          have x2 := hx5.cell 2 _ rfl
          have x3 := hx5.cell 3 _ rfl
          have xz := hx5.lt
          have t0 := hx5.frozen 0
          have t1 := hx5.frozen 1
          have t2 := hx5.frozen 2
          have t3 := hx5.frozen 3
          have k0 := HI.out.box.cell 0 _ rfl
          have k1 := HI.out.box.cell 1 _ rfl
          have k2 := HI.out.box.cell 2 _ rfl
          have k3 := HI.out.box.cell 3 _ rfl
          have kz := HI.out.box.lt
          clear hx5
          go_wp2_with fail
          refine link_end w wl _ _ _ _ _ _ _ _ _ _ HX5.out HBW.out rfl rfl rfl (fun X' hO hb => ⟨.inr ⟨HMI.out, _, _, _, rfl, ?_⟩, hb⟩)
          exact HI.out.result HB0.out.size (fun i hi => by
            rw [rK_len _ (Nat.le_refl _)] at hi
            exact HOC.out i hi (idx_covers HL.out.names i hi)) HX5.out hO (by rw [rK_len _ (Nat.le_refl _)]; exact HL.out.limF) (rK_codes HL.out _ (Nat.le_refl _)) HL.out.limG HL.out.limY (fun r hr => by
            obtain ⟨Q, hQ, h2⟩ := yK_sub L.length (Nat.le_refl _) r hr
            exact HL.out.rowl _ hQ _ h2)

end Go.Proofs.Ytealeofgfgbheaa
