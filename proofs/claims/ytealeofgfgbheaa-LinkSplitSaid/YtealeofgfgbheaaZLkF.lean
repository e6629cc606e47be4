/-
  Cells below a bound read as before.
-/
import Derived.Test.YtealeofgfgbheaaZAppend
import Derived.Test.YtealeofgfgbheaaZLkAll
namespace Go.Proofs.Ytealeofgfgbheaa
set_option linter.unusedVariables false
set_option linter.unusedSimpArgs false
open Go.RowKit

theorem bcellB {B : Nat} {W w1 : World} (hb : Below B W w1) : (∀ b o, b < B → w1.cell? ⟨b, o, none⟩ = W.cell? ⟨b, o, none⟩) ∧ (∀ b o, b < B → w1.frozen? ⟨b, o, none⟩ = W.frozen? ⟨b, o, none⟩) :=
  ⟨fun b o h => hb.cell (p := ⟨b, o, none⟩) h, fun b o h => hb.frozen (p := ⟨b, o, none⟩) h⟩

end Go.Proofs.Ytealeofgfgbheaa

/-
  Linking in plain words: where a name is found, what has been defined; the linker's state.
-/
namespace Go.Proofs.Ytealeofgfgbheaa
set_option linter.unusedVariables false
set_option linter.unusedSimpArgs false
open Go.RowKit

/-- The first place of an element. -/
def fnd {α : Type} [DecidableEq α] : List α → α → Option Int
  | [], _ => none
  | y :: l, x => if y = x then some 0 else (fnd l x).map (· + 1)
section
variable {α : Type} [DecidableEq α]
theorem fnd_none : ∀ (l : List α) (x : α), fnd l x = none ↔ x ∉ l
  | [], x => by simp [fnd]
  | y :: l, x => by
    unfold fnd
    by_cases e : y = x
    · simp [e]
    · rw [if_neg e]
      have := fnd_none l x
      simp only [Option.map_eq_none_iff, List.mem_cons, not_or]
      rw [this]
      exact ⟨fun h => ⟨fun e' => e e'.symm, h⟩, fun h => h.2⟩
theorem fnd_some : ∀ (l : List α) (x : α), x ∈ l → ∃ i : Nat, i < l.length ∧ fnd l x = some (i : Int) ∧ l[i]? = some x
  | [], x, h => by simp at h
  | y :: l, x, h => by
    unfold fnd
    by_cases e : y = x
    · exact ⟨0, by simp, by simp [e], by simp [e]⟩
    · rcases List.mem_cons.1 h with h' | h'
      · exact absurd h'.symm e
      · obtain ⟨i, h1, h2, h3⟩ := fnd_some l x h'
        exact ⟨i + 1, by simp; omega, by rw [if_neg e, h2]; simp, by simpa using h3⟩
theorem fnd_snoc (l : List α) (x : α) (hx : x ∉ l) (z : α) : (if z = x then some (l.length : Int) else fnd l z) = fnd (l ++ [x]) z := by
  induction l with
  | nil =>
    by_cases e : z = x
    · simp [fnd, e]
    · have e' : ¬ x = z := fun h => e h.symm
      simp [fnd, e, e']
  | cons y l ih =>
    have h1 : ¬ x = y := fun e => hx (by simp [e])
    have h2 : x ∉ l := fun h => hx (by simp [h])
    have ih' := ih h2
    by_cases e : z = x
    · subst e
      rw [if_pos rfl] at ih' ⊢
      rw [List.cons_append, fnd, if_neg (fun e => h1 e.symm), ← ih']
      simp
    · rw [if_neg e] at ih' ⊢
      rw [List.cons_append, fnd, fnd, ih']
theorem fnd_at (l : List α) (hl : l.Nodup) (i : Nat) (x : α) (h : l[i]? = some x) : fnd l x = some (i : Int) := by
  obtain ⟨j, h1, h2, h3⟩ := fnd_some l x (List.mem_of_getElem? h)
  obtain ⟨hi, _⟩ := List.getElem?_eq_some_iff.1 h
  have : i = j := (List.getElem_inj hl (h₀ := hi) (h₁ := h1)).1 (by
    have e1 := (List.getElem?_eq_some_iff.1 h).2
    have e2 := (List.getElem?_eq_some_iff.1 h3).2
    rw [e1, e2])
  rw [this]; exact h2
end
def isDef (f : Fun) : Bool := !f.code.isEmpty
/-- The definitions of a part, its first j functions. -/
def defsK (P : Prg) (j : Nat) : List Fun := (P.funcs.take j).filter isDef
def defsP (P : Prg) : List Fun := P.funcs.filter isDef
/-- The number of the main function when the first j functions of a part have been defined behind D. -/
def mainK (D : List Fun) (m : Int) (P : Prg) (j : Nat) : Int := if 0 ≤ P.main ∧ P.main < j then (D.length + (defsK P P.main.toNat).length : Nat) else m
theorem take_succ_atD {α : Type} [Inhabited α] (l : List α) (k : Nat) (h : k < l.length) : l.take (k + 1) = l.take k ++ [nth l k] := by
  rw [nth_eq _ _ h, List.take_succ_eq_append_getElem h]
theorem defsK_succ (P : Prg) (j : Nat) (h : j < P.funcs.length) : defsK P (j + 1) = defsK P j ++ if isDef (nth P.funcs j) = true then [nth P.funcs j] else [] := by
  unfold defsK
  rw [take_succ_atD _ _ h, List.filter_append]
  cases hd : isDef (nth P.funcs j) <;> simp [hd]
theorem defsK_end (P : Prg) : defsK P P.funcs.length = defsP P := by unfold defsK defsP; rw [List.take_length]

abbrev tLk : TypeId := 54
/-- The linker: what it has collected. -/
structure LkSt (lo : Nat) (w0 wr : World) (bK bF bG cF cG : Nat) (vq vg vl : Value) (D : List Fun) (ss : List Slc) (G : List Glob) (Y : List (List Int)) (rs : List Slc) (m : Int) : Prop where
  q : QFuns lo w0 wr vq D ss
  globs : OwnE globE w0.heap.size 60 wr vg G
  lays : OwnLays w0.heap.size wr vl Y rs
  box : BoxAt wr bK tLk [vq, vg, vl, .int .i64 m, .map (some bF), .map (some bG)]
  mF : MapN strK wr bF cF (fnd (D.map fun f => f.name))
  mG : MapN strK wr bG cG (fnd (G.map fun g => g.name))
  cF : cF ≤ D.length
  cG : cG ≤ G.length
  ne : bF ≠ bG
  hK : w0.heap.size ≤ bK
  hF : w0.heap.size ≤ bF
  hG : w0.heap.size ≤ bG
section
variable {lo : Nat} {w0 wr w' : World} {bK bF bG cF cG : Nat} {vq vg vl v2 : Value} {D : List Fun} {ss : List Slc} {G : List Glob} {Y : List (List Int)} {rs : List Slc} {m : Int}
theorem LkSt.fresh (h : LkSt lo w0 wr bK bF bG cF cG vq vg vl D ss G Y rs m) (hb : Below wr.heap.size wr w') : LkSt lo w0 w' bK bF bG cF cG vq vg vl D ss G Y rs m :=
  ⟨h.q.fresh hb, h.globs.fresh (Only.below hb none), h.lays.fresh (Only.below hb none), h.box.below hb, h.mF.below hb, h.mG.below hb, h.cF, h.cG, h.ne, h.hK, h.hF, h.hG⟩
end

/-- Between the entry of a name in the map and the entry of its function in the row. -/
structure LkM (lo : Nat) (w0 wr : World) (bK bF bG cF cG : Nat) (vq vg vl : Value) (D : List Fun) (nm : ByteArray) (ss : List Slc) (G : List Glob) (Y : List (List Int)) (rs : List Slc) (m : Int) : Prop where
  q : QFuns lo w0 wr vq D ss
  globs : OwnE globE w0.heap.size 60 wr vg G
  lays : OwnLays w0.heap.size wr vl Y rs
  box : BoxAt wr bK tLk [vq, vg, vl, .int .i64 m, .map (some bF), .map (some bG)]
  mF : MapN strK wr bF cF (fnd ((D.map fun f => f.name) ++ [nm]))
  mG : MapN strK wr bG cG (fnd (G.map fun g => g.name))
  cF : cF ≤ D.length + 1
  cG : cG ≤ G.length
  ne : bF ≠ bG
  hK : w0.heap.size ≤ bK
  hF : w0.heap.size ≤ bF
  hG : w0.heap.size ≤ bG
section
variable {lo : Nat} {w0 wr w' : World} {bK bF bG cF cG : Nat} {vq vg vl v2 : Value} {D : List Fun} {nm : ByteArray} {ss : List Slc} {G : List Glob} {Y : List (List Int)} {rs : List Slc} {m : Int}
theorem LkSt.named (h : LkSt lo w0 wr bK bF bG cF cG vq vg vl D ss G Y rs m) (hn : nm ∉ D.map fun f => f.name) (hg : wr.grownBy w' (some bF)) (hm : MapN strK w' bF (cF + 1) (fun z => if z = nm then some (D.length : Int) else fnd (D.map fun f => f.name) z)) : LkM lo w0 w' bK bF bG (cF + 1) cG vq vg vl D nm ss G Y rs m := by
  have hO : Only (some bF) wr w' := Only.grown hg
  have hb : Below w0.heap.size wr w' := Below.grown (Below.refl _ _) hg h.q.low.size (fun q hq => by cases hq; exact h.hF)
  refine ⟨h.q.only hO hb (h.q.row.neMapN h.mF) (fun _ _ hc => hc.neMapN h.mF), h.globs.only hO (h.globs.neMapN h.mF), h.lays.only hO (h.lays.row.neMapN h.mF) (fun j hj => (h.lays.each j hj).neMapN h.mF), h.box.only hO (h.box.neMapN h.mF), hm.congr (fun z => ?_), h.mG.grown hg (fun e => h.ne (by simpa using e.symm)), by have := h.cF; omega, h.cG, h.ne, h.hK, h.hF, h.hG⟩
  have := fnd_snoc (D.map fun f => f.name) nm hn z
  rw [List.length_map] at this
  exact this
theorem LkM.fresh (h : LkM lo w0 wr bK bF bG cF cG vq vg vl D nm ss G Y rs m) (hb : Below wr.heap.size wr w') : LkM lo w0 w' bK bF bG cF cG vq vg vl D nm ss G Y rs m :=
  ⟨h.q.fresh hb, h.globs.fresh (Only.below hb none), h.lays.fresh (Only.below hb none), h.box.below hb, h.mF.below hb, h.mG.below hb, h.cF, h.cG, h.ne, h.hK, h.hF, h.hG⟩
theorem LkM.setMain (h : LkM lo w0 wr bK bF bG cF cG vq vg vl D nm ss G Y rs m) (m' : Int) : LkM lo w0 (wr.setCell ⟨bK, 3, none⟩ (.int .i64 m')) bK bF bG cF cG vq vg vl D nm ss G Y rs m' := by
  have hS : Only (some bK) wr (wr.setCell ⟨bK, 3, none⟩ (.int .i64 m')) := Only.store _ _ _ _
  exact ⟨h.q.onlyBox hS ((Below.refl w0.heap.size wr).setCell (p := ⟨bK, 3, none⟩) h.hK _) h.box (by decide) (by decide), h.globs.only hS (h.globs.neBox h.box (by decide)), h.lays.onlyBox hS h.box (by decide) (by decide), h.box.set 3 _, h.mF.setCell (by intro e; exact (h.box.neMapN h.mF) (by rw [e])) _, h.mG.setCell (by intro e; exact (h.box.neMapN h.mG) (by rw [e])) _, h.cF, h.cG, h.ne, h.hK, h.hF, h.hG⟩
theorem LkM.snoc {f : Fun} {s : Slc} (h : LkM lo w0 wr bK bF bG cF cG vq vg vl D f.name ss G Y rs m) (hg : wr.grownBy w' vq.ownBlock) (hrow : OwnE funE w0.heap.size 41 w' v2 (D.zip ss ++ [(f, s)])) (hc : CodeAt lo w0 s.val f.code ∨ OwnE insE w0.heap.size 43 wr s.val f.code) :
    LkSt lo w0 (w'.setCell ⟨bK, 0, none⟩ v2) bK bF bG cF cG v2 vg vl (D ++ [f]) (ss ++ [s]) G Y rs m := by
  have hO : Only vq.ownBlock wr w' := Only.grown hg
  have hS : Only (some bK) w' (w'.setCell ⟨bK, 0, none⟩ v2) := Only.store _ _ _ _
  have hq := h.q.snoc hg hrow hc
  have hx : BoxAt w' bK _ _ := h.box.only hO (h.box.neRow h.q.row (by decide))
  have g2 := h.globs.only hO (h.globs.neRow h.q.row (by decide))
  have l2 : OwnLays w0.heap.size w' vl Y rs := h.lays.only hO (h.lays.row.neRow h.q.row (by decide)) (fun j hj => (h.lays.each j hj).neRow h.q.row (by decide))
  have f2 : MapN strK w' bF cF _ := h.mF.grown hg (h.mF.neRow h.q.row)
  have m2 : MapN strK w' bG cG _ := h.mG.grown hg (h.mG.neRow h.q.row)
  refine ⟨hq.onlyBox hS ((Below.refl w0.heap.size w').setCell (p := ⟨bK, 0, none⟩) h.hK _) hx (by decide) (by decide), g2.only hS (g2.neBox hx (by decide)), l2.onlyBox hS hx (by decide) (by decide), hx.set 0 v2, ?_, m2.setCell (by intro e; exact (hx.neMapN m2) (by rw [e])) _, by simpa using h.cF, h.cG, h.ne, h.hK, h.hF, h.hG⟩
  rw [List.map_append]
  exact f2.setCell (by intro e; exact (hx.neMapN f2) (by rw [e])) _
end

/-- Between the entry of a global's name in the map and the entry of the global in the row. -/
structure LkG (lo : Nat) (w0 wr : World) (bK bF bG cF cG : Nat) (vq vg vl : Value) (D : List Fun) (ss : List Slc) (G : List Glob) (nm : ByteArray) (Y : List (List Int)) (rs : List Slc) (m : Int) : Prop where
  q : QFuns lo w0 wr vq D ss
  globs : OwnE globE w0.heap.size 60 wr vg G
  lays : OwnLays w0.heap.size wr vl Y rs
  box : BoxAt wr bK tLk [vq, vg, vl, .int .i64 m, .map (some bF), .map (some bG)]
  mF : MapN strK wr bF cF (fnd (D.map fun f => f.name))
  mG : MapN strK wr bG cG (fnd ((G.map fun g => g.name) ++ [nm]))
  cF : cF ≤ D.length
  cG : cG ≤ G.length + 1
  ne : bF ≠ bG
  hK : w0.heap.size ≤ bK
  hF : w0.heap.size ≤ bF
  hG : w0.heap.size ≤ bG
section
variable {lo : Nat} {w0 wr w' : World} {bK bF bG cF cG : Nat} {vq vg vl v2 : Value} {D : List Fun} {nm : ByteArray} {ss : List Slc} {G : List Glob} {Y : List (List Int)} {rs : List Slc} {m : Int}
theorem LkSt.namedG (h : LkSt lo w0 wr bK bF bG cF cG vq vg vl D ss G Y rs m) (hn : nm ∉ G.map fun g => g.name) (hg : wr.grownBy w' (some bG)) (hm : MapN strK w' bG (cG + 1) (fun z => if z = nm then some (G.length : Int) else fnd (G.map fun g => g.name) z)) : LkG lo w0 w' bK bF bG cF (cG + 1) vq vg vl D ss G nm Y rs m := by
  have hO : Only (some bG) wr w' := Only.grown hg
  have hb : Below w0.heap.size wr w' := Below.grown (Below.refl _ _) hg h.q.low.size (fun q hq => by cases hq; exact h.hG)
  refine ⟨h.q.only hO hb (h.q.row.neMapN h.mG) (fun _ _ hc => hc.neMapN h.mG), h.globs.only hO (h.globs.neMapN h.mG), h.lays.only hO (h.lays.row.neMapN h.mG) (fun j hj => (h.lays.each j hj).neMapN h.mG), h.box.only hO (h.box.neMapN h.mG), h.mF.grown hg (fun e => h.ne (by simpa using e)), hm.congr (fun z => ?_), h.cF, by have := h.cG; omega, h.ne, h.hK, h.hF, h.hG⟩
  have := fnd_snoc (G.map fun g => g.name) nm hn z
  rw [List.length_map] at this
  exact this
theorem LkG.fresh (h : LkG lo w0 wr bK bF bG cF cG vq vg vl D ss G nm Y rs m) (hb : Below wr.heap.size wr w') : LkG lo w0 w' bK bF bG cF cG vq vg vl D ss G nm Y rs m :=
  ⟨h.q.fresh hb, h.globs.fresh (Only.below hb none), h.lays.fresh (Only.below hb none), h.box.below hb, h.mF.below hb, h.mG.below hb, h.cF, h.cG, h.ne, h.hK, h.hF, h.hG⟩
theorem LkG.snoc {g : Glob} (h : LkG lo w0 wr bK bF bG cF cG vq vg vl D ss G g.name Y rs m) (hg : wr.grownBy w' vg.ownBlock) (hrow : OwnE globE w0.heap.size 60 w' v2 (G ++ [g])) :
    LkSt lo w0 (w'.setCell ⟨bK, 1, none⟩ v2) bK bF bG cF cG vq v2 vl D ss (G ++ [g]) Y rs m := by
  have hO : Only vg.ownBlock wr w' := Only.grown hg
  have hS : Only (some bK) w' (w'.setCell ⟨bK, 1, none⟩ v2) := Only.store _ _ _ _
  have hlow : Below w0.heap.size wr w' := Below.grownE (Below.refl _ _) h.globs hg h.q.low.size (Nat.le_refl _)
  have hq := h.q.only hO hlow (h.q.row.neRow h.globs (by decide)) (fun _ _ hc => hc.neRow h.globs (by decide))
  have hx : BoxAt w' bK _ _ := h.box.only hO (h.box.neRow h.globs (by decide))
  have l2 : OwnLays w0.heap.size w' vl Y rs := h.lays.only hO (h.lays.row.neRow h.globs (by decide)) (fun j hj => (h.lays.each j hj).neRow h.globs (by decide))
  have f2 : MapN strK w' bF cF _ := h.mF.grown hg (h.mF.neRow h.globs)
  have m2 : MapN strK w' bG cG _ := h.mG.grown hg (h.mG.neRow h.globs)
  refine ⟨hq.onlyBox hS ((Below.refl w0.heap.size w').setCell (p := ⟨bK, 1, none⟩) h.hK _) hx (by decide) (by decide), hrow.only hS (hrow.neBox hx (by decide)), l2.onlyBox hS hx (by decide) (by decide), hx.set 1 v2, f2.setCell (by intro e; exact (hx.neMapN f2) (by rw [e])) _, ?_, h.cF, by simpa using h.cG, h.ne, h.hK, h.hF, h.hG⟩
  rw [List.map_append]
  exact m2.setCell (by intro e; exact (hx.neMapN m2) (by rw [e])) _
end
def addG (G : List Glob) (g : Glob) : List Glob := if memB g.name (G.map fun g => g.name) = true then G else G ++ [g]
def addK (G : List Glob) (l : List Glob) (k : Nat) : List Glob := (l.take k).foldl addG G
theorem addK_succ (G : List Glob) (l : List Glob) (k : Nat) (h : k < l.length) : addK G l (k + 1) = addG (addK G l k) (nth l k) := by
  unfold addK
  rw [take_succ_atD _ _ h, List.foldl_append]; rfl
theorem addK_sub (G l : List Glob) : ∀ k, ∀ g ∈ addK G l k, g ∈ G ∨ g ∈ l.take k
  | 0, g, h => .inl (by simpa [addK] using h)
  | k + 1, g, h => by
    rcases Nat.lt_or_ge k l.length with h1 | h1
    · rw [addK_succ G l k h1] at h
      unfold addG at h
      have e := take_succ_atD l k h1
      split at h
      · rcases addK_sub G l k g h with h2 | h2
        · exact .inl h2
        · exact .inr (by rw [e]; exact List.mem_append.2 (.inl h2))
      · rcases List.mem_append.1 h with h2 | h2
        · rcases addK_sub G l k g h2 with h3 | h3
          · exact .inl h3
          · exact .inr (by rw [e]; exact List.mem_append.2 (.inl h3))
        · exact .inr (by rw [e]; exact List.mem_append.2 (.inr h2))
    · have e : addK G l (k + 1) = addK G l k := by unfold addK; rw [List.take_of_length_le h1, List.take_of_length_le (by omega)]
      rw [e] at h
      rcases addK_sub G l k g h with h2 | h2
      · exact .inl h2
      · exact .inr (List.mem_of_mem_take (by rwa [List.take_of_length_le h1] at h2) |> fun h3 => by rw [List.take_of_length_le (by omega)]; exact h3)
theorem addK_len (G l : List Glob) : ∀ k, (addK G l k).length ≤ G.length + k
  | 0 => by simp [addK]
  | k + 1 => by
    rcases Nat.lt_or_ge k l.length with h1 | h1
    · rw [addK_succ G l k h1]
      have := addK_len G l k
      unfold addG
      split
      · omega
      · rw [List.length_append, List.length_singleton]; omega
    · have e : addK G l (k + 1) = addK G l k := by unfold addK; rw [List.take_of_length_le h1, List.take_of_length_le (by omega)]
      rw [e]
      have := addK_len G l k
      omega

end Go.Proofs.Ytealeofgfgbheaa

/-
  The linker's resolved, walked.
-/
namespace Go.Proofs.Ytealeofgfgbheaa
set_option linter.unusedVariables false
set_option linter.unusedSimpArgs false
open Go.RowKit

noncomputable def planRs4 : Plan := mkPlan (regionOf Try.f31 4) [] []
def hasB (D : List Fun) (f : Fun) : Bool := memB f.name (D.map fun f => f.name)
def resB (D : List Fun) (P : Prg) : Bool := (List.range P.funcs.length).all fun j => hasB D (nth P.funcs j)
theorem hasB_some (D : List Fun) (f : Fun) : (fnd (D.map fun f => f.name) f.name).isSome = hasB D f := by
  unfold hasB
  by_cases h : f.name ∈ D.map fun f => f.name
  · rw [memB_true h]
    obtain ⟨i, _, h2, _⟩ := fnd_some _ _ h
    rw [h2]; rfl
  · rw [memB_false h, (fnd_none _ _).2 h]; rfl

set_option maxRecDepth 100000 in
set_option maxHeartbeats 8000000 in
theorem resolved_calls (lo : Nat) (w0 w : World) (bK bF bG cF cG : Nat) (vq vg vl uf ug ul : Value) (D : List Fun) (ss : List Slc) (G : List Glob) (Y : List (List Int)) (rs : List Slc) (m : Int) (P : Prg)
    (h : LkSt lo w0 w bK bF bG cF cG vq vg vl D ss G Y rs m) (hP : ProgAt lo w0 uf ug ul P) (hW : PrgWf P) :
    Calls Try.prog 31 #[.pointer (some ⟨bK, 0, none⟩), .agg #[uf, ug, ul, .int .i64 P.main]] w fun e w' => e = .returned (.bool (resB D P)) ∧ Below w.heap.size w w' := by
  have H := hid h
  have HW := hid hW
  have hfz := hW.funcs
  have hlow := h.q.low
  have HLOW := hid hlow
  obtain ⟨fa, fc, fb, fo, FS, rfl, fp, f0, f1, f2, f3, fcode, fbl, -, -, -⟩ := hP.funcs.open
  obtain ⟨ga, gc, _, _, rfl, -⟩ := hP.globs.open
  obtain ⟨la, lc, _, _, _, rfl, -⟩ := hP.lays.open
  have HFQ := hid (And.intro fp (And.intro f0 (And.intro f1 (And.intro f2 (And.intro f3 (And.intro fcode fbl))))))
  clear h hP hW fp f0 f1 f2 f3 fcode fbl hlow
  go_enter Try.func31, Try.ntmps31
  go_wp2_with fail
  generalize hW1 : World.alloc _ _ = W1
  have hb1 : Below w.heap.size w W1 := by rw [← hW1]; exact (Below.refl _ _).alloc (Nat.le_refl _) _
  have HB1 := hid hb1
  clear hW1 hb1
  go_loopw [12] (fun iv wr => ∃ j : Nat, j ≤ P.funcs.length ∧ iv = .int .i64 j ∧ Below w.heap.size w wr ∧ ∀ i, i < j → hasB D (nth P.funcs i) = true) (fun iv _ => P.funcs.length - (intOf iv).toNat)
  case atStart => exact ⟨0, Nat.zero_le _, rfl, HB1.out, fun i hi => by omega⟩
  case round =>
  clear HB1
  obtain ⟨j, hj, rfl, hb, hall⟩ := hrel
  obtain ⟨wo, hwo⟩ : ∃ wo, wo = wr := ⟨_, rfl⟩
  subst hwo
  have HB := hid hb
  have HALL := hid hall
  clear hb hall
  by_cases hlt : j < P.funcs.length
  · have hlt2 : (j : Int) < P.funcs.length := Int.ofNat_lt.2 hlt
    have hki : ¬ ((j : Int) < 0) := by omega
    obtain ⟨fp, f0, f1, f2, f3, fcode, fbl⟩ := HFQ.out
    obtain rfl := fp (by omega)
    have hbw := HLOW.out.trans (HB.out.mono HLOW.out.size)
    have gl := fbl (by omega)
    have z0 := (hbw.cell (p := ⟨fb, _, none⟩) gl).trans (f0 j hlt)
    have z1 := (hbw.cell (p := ⟨fb, _, none⟩) gl).trans (f1 j hlt)
    have z2 := (hbw.cell (p := ⟨fb, _, none⟩) gl).trans (f2 j hlt)
    have z3 := (hbw.cell (p := ⟨fb, _, none⟩) gl).trans (f3 j hlt)
    have gl2 : fb < wo.heap.size := Nat.lt_of_lt_of_le gl hbw.size
    have hfw := HW.out.func _ (nth_mem P.funcs j hlt)
    obtain ⟨f, hf⟩ : ∃ f, nth P.funcs j = f := ⟨_, rfl⟩
    rw [hf] at z0 z1 z2 z3 hfw
    have HF := hid hf
    have hgd : strK.good f.name := hfw.name
    have HGD := hid hgd
    clear fp f0 f1 f2 f3 fcode fbl hbw gl hfw hf hgd
    go_wp2_with fail
    generalize hX : World.alloc _ _ = X
    have hal : Below wo.heap.size wo X := by rw [← hX]; exact (Below.refl _ _).alloc (Nat.le_refl _) _
    have hbx := (show BoxAt X wo.heap.size 41 [.string f.name, .int .i64 f.params, .int .i64 f.regs, .slice (FS j).a f.code.length (FS j).c] by rw [← hX]; exact BoxAt.new _ _ _ _ _ rfl rfl)
    have HBX := hid (HB.out.trans (hal.mono HB.out.size))
    have HS := hid (H.out.fresh HBX.out)
    have e0 := hbx.cell 0 _ rfl
    have ez := hbx.lt
    have k4 := HS.out.box.cell 4 _ rfl
    have kz := HS.out.box.lt
    clear hX hal hbx z0 z1 z2 z3 gl2
    refine Plan.wp_chain planRs4 X.heap.size (by kernel_rfl) rfl (by kernel_rfl) (by kernel_rfl) ?_
    repeat (first | (apply Plan.chain_skip rfl rfl; simp only [Act.put, List.setIfInBounds_toArray, List.set_cons_zero, List.set_cons_succ]) | (apply Plan.chain_det rfl rfl; (· intro w' hb; obtain ⟨hcl, hfz⟩ := bcellB hb; go_simp; rfl); simp only [Act.put, List.setIfInBounds_toArray, List.set_cons_zero, List.set_cons_succ]))
    refine Plan.chain_det (v := .tuple #[.int .i64 ((fnd (D.map fun f => f.name) f.name).getD 0), .bool (hasB D f)]) rfl rfl (fun w' hb => ?_) ?_
    · have hlk := (HS.out.mF.below hb).look_ok 52 Try.underlying52 f.name HGD.out
      rw [hasB_some] at hlk
      have hlk' : (Instr.lookup 52 (.map (some bF)) (.string f.name) true).run Try.prog w' = .ok (.tuple #[.int .i64 ((fnd (D.map fun f => f.name) f.name).getD 0), .bool (hasB D f)]) w' := hlk
      clear hlk
      go_simp
    simp only [Act.put, List.setIfInBounds_toArray, List.set_cons_zero, List.set_cons_succ]
    repeat (first | (apply Plan.chain_skip rfl rfl; simp only [Act.put, List.setIfInBounds_toArray, List.set_cons_zero, List.set_cons_succ]) | (apply Plan.chain_det rfl rfl; (· intro w' hb; obtain ⟨hcl, hfz⟩ := bcellB hb; go_simp; rfl); simp only [Act.put, List.setIfInBounds_toArray, List.set_cons_zero, List.set_cons_succ]))
    refine Plan.chain_nil ?_
    have HDW := hid (show Below w.heap.size w X.drew from HBX.out.drew)
    clear e0 ez k4 kz
    generalize X.drew = X3 at *
    cases hh : hasB D f with
    | true =>
      have HH := hid hh
      clear hh
      go_wp2_with fail
      refine ⟨⟨j + 1, hlt, rfl, HDW.out, fun i hi => ?_⟩, ?_⟩
      · rcases Nat.lt_or_ge i j with h5 | h5
        · exact HALL.out i h5
        · rw [show i = j by omega, HF.out]; exact HH.out
      · simp only [intOf]
        omega
    | false =>
      have HH := hid (show resB D P = false by
        unfold resB
        rw [List.all_eq_false]
        exact ⟨j, List.mem_range.2 hlt, by rw [HF.out, hh]; simp⟩)
      clear hh
      go_wp2_with fail
      go_ret
      exact ⟨by rw [HH.out]; rfl, HDW.out⟩
  · have hke : j = P.funcs.length := by omega
    subst hke
    have HH := hid (show resB D P = true by
      unfold resB
      rw [List.all_eq_true]
      intro i hi
      exact HALL.out i (List.mem_range.1 hi))
    go_wp2_with fail
    go_ret
    exact ⟨by rw [HH.out]; rfl, HB.out⟩

end Go.Proofs.Ytealeofgfgbheaa
