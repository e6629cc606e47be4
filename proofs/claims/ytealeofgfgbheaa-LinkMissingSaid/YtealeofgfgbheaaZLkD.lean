/-
  Linking in plain words: where a name is found, what has been defined; the linker's state.
-/
import Derived.Test.YtealeofgfgbheaaZLkAll
namespace Go.Proofs.Ytealeofgfgbheaa
set_option linter.unusedVariables false
set_option linter.unusedSimpArgs false
open Go.RowKit

/-- The first place of an element. -/
def fnd {α : Type} [DecidableEq α] : List α → α → Option Int
  | [], _ => none
  | y :: l, x => if y = x then some 0 else (fnd l x).map (· + 1)
section
variable {α : Type} [DecidableEq α]
theorem fnd_none : ∀ (l : List α) (x : α), fnd l x = none ↔ x ∉ l
  | [], x => by simp [fnd]
  | y :: l, x => by
    unfold fnd
    by_cases e : y = x
    · simp [e]
    · rw [if_neg e]
      have := fnd_none l x
      simp only [Option.map_eq_none_iff, List.mem_cons, not_or]
      rw [this]
      exact ⟨fun h => ⟨fun e' => e e'.symm, h⟩, fun h => h.2⟩
theorem fnd_some : ∀ (l : List α) (x : α), x ∈ l → ∃ i : Nat, i < l.length ∧ fnd l x = some (i : Int) ∧ l[i]? = some x
  | [], x, h => by simp at h
  | y :: l, x, h => by
    unfold fnd
    by_cases e : y = x
    · exact ⟨0, by simp, by simp [e], by simp [e]⟩
    · rcases List.mem_cons.1 h with h' | h'
      · exact absurd h'.symm e
      · obtain ⟨i, h1, h2, h3⟩ := fnd_some l x h'
        exact ⟨i + 1, by simp; omega, by rw [if_neg e, h2]; simp, by simpa using h3⟩
theorem fnd_snoc (l : List α) (x : α) (hx : x ∉ l) (z : α) : (if z = x then some (l.length : Int) else fnd l z) = fnd (l ++ [x]) z := by
  induction l with
  | nil =>
    by_cases e : z = x
    · simp [fnd, e]
    · have e' : ¬ x = z := fun h => e h.symm
      simp [fnd, e, e']
  | cons y l ih =>
    have h1 : ¬ x = y := fun e => hx (by simp [e])
    have h2 : x ∉ l := fun h => hx (by simp [h])
    have ih' := ih h2
    by_cases e : z = x
    · subst e
      rw [if_pos rfl] at ih' ⊢
      rw [List.cons_append, fnd, if_neg (fun e => h1 e.symm), ← ih']
      simp
    · rw [if_neg e] at ih' ⊢
      rw [List.cons_append, fnd, fnd, ih']
theorem fnd_at (l : List α) (hl : l.Nodup) (i : Nat) (x : α) (h : l[i]? = some x) : fnd l x = some (i : Int) := by
  obtain ⟨j, h1, h2, h3⟩ := fnd_some l x (List.mem_of_getElem? h)
  obtain ⟨hi, _⟩ := List.getElem?_eq_some_iff.1 h
  have : i = j := (List.getElem_inj hl (h₀ := hi) (h₁ := h1)).1 (by
    have e1 := (List.getElem?_eq_some_iff.1 h).2
    have e2 := (List.getElem?_eq_some_iff.1 h3).2
    rw [e1, e2])
  rw [this]; exact h2
end
def isDef (f : Fun) : Bool := !f.code.isEmpty
/-- The definitions of a part, its first j functions. -/
def defsK (P : Prg) (j : Nat) : List Fun := (P.funcs.take j).filter isDef
def defsP (P : Prg) : List Fun := P.funcs.filter isDef
/-- The number of the main function when the first j functions of a part have been defined behind D. -/
def mainK (D : List Fun) (m : Int) (P : Prg) (j : Nat) : Int := if 0 ≤ P.main ∧ P.main < j then (D.length + (defsK P P.main.toNat).length : Nat) else m
theorem take_succ_atD {α : Type} [Inhabited α] (l : List α) (k : Nat) (h : k < l.length) : l.take (k + 1) = l.take k ++ [nth l k] := by
  rw [nth_eq _ _ h, List.take_succ_eq_append_getElem h]
theorem defsK_succ (P : Prg) (j : Nat) (h : j < P.funcs.length) : defsK P (j + 1) = defsK P j ++ if isDef (nth P.funcs j) = true then [nth P.funcs j] else [] := by
  unfold defsK
  rw [take_succ_atD _ _ h, List.filter_append]
  cases hd : isDef (nth P.funcs j) <;> simp [hd]
theorem defsK_end (P : Prg) : defsK P P.funcs.length = defsP P := by unfold defsK defsP; rw [List.take_length]

abbrev tLk : TypeId := 54
/-- The linker: what it has collected. -/
structure LkSt (lo : Nat) (w0 wr : World) (bK bF bG cF cG : Nat) (vq vg vl : Value) (D : List Fun) (ss : List Slc) (G : List Glob) (Y : List (List Int)) (rs : List Slc) (m : Int) : Prop where
  q : QFuns lo w0 wr vq D ss
  globs : OwnE globE w0.heap.size 60 wr vg G
  lays : OwnLays w0.heap.size wr vl Y rs
  box : BoxAt wr bK tLk [vq, vg, vl, .int .i64 m, .map (some bF), .map (some bG)]
  mF : MapN strK wr bF cF (fnd (D.map fun f => f.name))
  mG : MapN strK wr bG cG (fnd (G.map fun g => g.name))
  cF : cF ≤ D.length
  cG : cG ≤ G.length
  ne : bF ≠ bG
  hK : w0.heap.size ≤ bK
  hF : w0.heap.size ≤ bF
  hG : w0.heap.size ≤ bG
section
variable {lo : Nat} {w0 wr w' : World} {bK bF bG cF cG : Nat} {vq vg vl v2 : Value} {D : List Fun} {ss : List Slc} {G : List Glob} {Y : List (List Int)} {rs : List Slc} {m : Int}
theorem LkSt.fresh (h : LkSt lo w0 wr bK bF bG cF cG vq vg vl D ss G Y rs m) (hb : Below wr.heap.size wr w') : LkSt lo w0 w' bK bF bG cF cG vq vg vl D ss G Y rs m :=
  ⟨h.q.fresh hb, h.globs.fresh (Only.below hb none), h.lays.fresh (Only.below hb none), h.box.below hb, h.mF.below hb, h.mG.below hb, h.cF, h.cG, h.ne, h.hK, h.hF, h.hG⟩
end

/-- Between the entry of a name in the map and the entry of its function in the row. -/
structure LkM (lo : Nat) (w0 wr : World) (bK bF bG cF cG : Nat) (vq vg vl : Value) (D : List Fun) (nm : ByteArray) (ss : List Slc) (G : List Glob) (Y : List (List Int)) (rs : List Slc) (m : Int) : Prop where
  q : QFuns lo w0 wr vq D ss
  globs : OwnE globE w0.heap.size 60 wr vg G
  lays : OwnLays w0.heap.size wr vl Y rs
  box : BoxAt wr bK tLk [vq, vg, vl, .int .i64 m, .map (some bF), .map (some bG)]
  mF : MapN strK wr bF cF (fnd ((D.map fun f => f.name) ++ [nm]))
  mG : MapN strK wr bG cG (fnd (G.map fun g => g.name))
  cF : cF ≤ D.length + 1
  cG : cG ≤ G.length
  ne : bF ≠ bG
  hK : w0.heap.size ≤ bK
  hF : w0.heap.size ≤ bF
  hG : w0.heap.size ≤ bG
section
variable {lo : Nat} {w0 wr w' : World} {bK bF bG cF cG : Nat} {vq vg vl v2 : Value} {D : List Fun} {nm : ByteArray} {ss : List Slc} {G : List Glob} {Y : List (List Int)} {rs : List Slc} {m : Int}
theorem LkSt.named (h : LkSt lo w0 wr bK bF bG cF cG vq vg vl D ss G Y rs m) (hn : nm ∉ D.map fun f => f.name) (hg : wr.grownBy w' (some bF)) (hm : MapN strK w' bF (cF + 1) (fun z => if z = nm then some (D.length : Int) else fnd (D.map fun f => f.name) z)) : LkM lo w0 w' bK bF bG (cF + 1) cG vq vg vl D nm ss G Y rs m := by
  have hO : Only (some bF) wr w' := Only.grown hg
  have hb : Below w0.heap.size wr w' := Below.grown (Below.refl _ _) hg h.q.low.size (fun q hq => by cases hq; exact h.hF)
  refine ⟨h.q.only hO hb (h.q.row.neMapN h.mF) (fun _ _ hc => hc.neMapN h.mF), h.globs.only hO (h.globs.neMapN h.mF), h.lays.only hO (h.lays.row.neMapN h.mF) (fun j hj => (h.lays.each j hj).neMapN h.mF), h.box.only hO (h.box.neMapN h.mF), hm.congr (fun z => ?_), h.mG.grown hg (fun e => h.ne (by simpa using e.symm)), by have := h.cF; omega, h.cG, h.ne, h.hK, h.hF, h.hG⟩
  have := fnd_snoc (D.map fun f => f.name) nm hn z
  rw [List.length_map] at this
  exact this
theorem LkM.fresh (h : LkM lo w0 wr bK bF bG cF cG vq vg vl D nm ss G Y rs m) (hb : Below wr.heap.size wr w') : LkM lo w0 w' bK bF bG cF cG vq vg vl D nm ss G Y rs m :=
  ⟨h.q.fresh hb, h.globs.fresh (Only.below hb none), h.lays.fresh (Only.below hb none), h.box.below hb, h.mF.below hb, h.mG.below hb, h.cF, h.cG, h.ne, h.hK, h.hF, h.hG⟩
theorem LkM.setMain (h : LkM lo w0 wr bK bF bG cF cG vq vg vl D nm ss G Y rs m) (m' : Int) : LkM lo w0 (wr.setCell ⟨bK, 3, none⟩ (.int .i64 m')) bK bF bG cF cG vq vg vl D nm ss G Y rs m' := by
  have hS : Only (some bK) wr (wr.setCell ⟨bK, 3, none⟩ (.int .i64 m')) := Only.store _ _ _ _
  exact ⟨h.q.onlyBox hS ((Below.refl w0.heap.size wr).setCell (p := ⟨bK, 3, none⟩) h.hK _) h.box (by decide) (by decide), h.globs.only hS (h.globs.neBox h.box (by decide)), h.lays.onlyBox hS h.box (by decide) (by decide), h.box.set 3 _, h.mF.setCell (by intro e; exact (h.box.neMapN h.mF) (by rw [e])) _, h.mG.setCell (by intro e; exact (h.box.neMapN h.mG) (by rw [e])) _, h.cF, h.cG, h.ne, h.hK, h.hF, h.hG⟩
theorem LkM.snoc {f : Fun} {s : Slc} (h : LkM lo w0 wr bK bF bG cF cG vq vg vl D f.name ss G Y rs m) (hg : wr.grownBy w' vq.ownBlock) (hrow : OwnE funE w0.heap.size 41 w' v2 (D.zip ss ++ [(f, s)])) (hc : CodeAt lo w0 s.val f.code ∨ OwnE insE w0.heap.size 43 wr s.val f.code) :
    LkSt lo w0 (w'.setCell ⟨bK, 0, none⟩ v2) bK bF bG cF cG v2 vg vl (D ++ [f]) (ss ++ [s]) G Y rs m := by
  have hO : Only vq.ownBlock wr w' := Only.grown hg
  have hS : Only (some bK) w' (w'.setCell ⟨bK, 0, none⟩ v2) := Only.store _ _ _ _
  have hq := h.q.snoc hg hrow hc
  have hx : BoxAt w' bK _ _ := h.box.only hO (h.box.neRow h.q.row (by decide))
  have g2 := h.globs.only hO (h.globs.neRow h.q.row (by decide))
  have l2 : OwnLays w0.heap.size w' vl Y rs := h.lays.only hO (h.lays.row.neRow h.q.row (by decide)) (fun j hj => (h.lays.each j hj).neRow h.q.row (by decide))
  have f2 : MapN strK w' bF cF _ := h.mF.grown hg (h.mF.neRow h.q.row)
  have m2 : MapN strK w' bG cG _ := h.mG.grown hg (h.mG.neRow h.q.row)
  refine ⟨hq.onlyBox hS ((Below.refl w0.heap.size w').setCell (p := ⟨bK, 0, none⟩) h.hK _) hx (by decide) (by decide), g2.only hS (g2.neBox hx (by decide)), l2.onlyBox hS hx (by decide) (by decide), hx.set 0 v2, ?_, m2.setCell (by intro e; exact (hx.neMapN m2) (by rw [e])) _, by simpa using h.cF, h.cG, h.ne, h.hK, h.hF, h.hG⟩
  rw [List.map_append]
  exact f2.setCell (by intro e; exact (hx.neMapN f2) (by rw [e])) _
end

/-- Between the entry of a global's name in the map and the entry of the global in the row. -/
structure LkG (lo : Nat) (w0 wr : World) (bK bF bG cF cG : Nat) (vq vg vl : Value) (D : List Fun) (ss : List Slc) (G : List Glob) (nm : ByteArray) (Y : List (List Int)) (rs : List Slc) (m : Int) : Prop where
  q : QFuns lo w0 wr vq D ss
  globs : OwnE globE w0.heap.size 60 wr vg G
  lays : OwnLays w0.heap.size wr vl Y rs
  box : BoxAt wr bK tLk [vq, vg, vl, .int .i64 m, .map (some bF), .map (some bG)]
  mF : MapN strK wr bF cF (fnd (D.map fun f => f.name))
  mG : MapN strK wr bG cG (fnd ((G.map fun g => g.name) ++ [nm]))
  cF : cF ≤ D.length
  cG : cG ≤ G.length + 1
  ne : bF ≠ bG
  hK : w0.heap.size ≤ bK
  hF : w0.heap.size ≤ bF
  hG : w0.heap.size ≤ bG
section
variable {lo : Nat} {w0 wr w' : World} {bK bF bG cF cG : Nat} {vq vg vl v2 : Value} {D : List Fun} {nm : ByteArray} {ss : List Slc} {G : List Glob} {Y : List (List Int)} {rs : List Slc} {m : Int}
theorem LkSt.namedG (h : LkSt lo w0 wr bK bF bG cF cG vq vg vl D ss G Y rs m) (hn : nm ∉ G.map fun g => g.name) (hg : wr.grownBy w' (some bG)) (hm : MapN strK w' bG (cG + 1) (fun z => if z = nm then some (G.length : Int) else fnd (G.map fun g => g.name) z)) : LkG lo w0 w' bK bF bG cF (cG + 1) vq vg vl D ss G nm Y rs m := by
  have hO : Only (some bG) wr w' := Only.grown hg
  have hb : Below w0.heap.size wr w' := Below.grown (Below.refl _ _) hg h.q.low.size (fun q hq => by cases hq; exact h.hG)
  refine ⟨h.q.only hO hb (h.q.row.neMapN h.mG) (fun _ _ hc => hc.neMapN h.mG), h.globs.only hO (h.globs.neMapN h.mG), h.lays.only hO (h.lays.row.neMapN h.mG) (fun j hj => (h.lays.each j hj).neMapN h.mG), h.box.only hO (h.box.neMapN h.mG), h.mF.grown hg (fun e => h.ne (by simpa using e)), hm.congr (fun z => ?_), h.cF, by have := h.cG; omega, h.ne, h.hK, h.hF, h.hG⟩
  have := fnd_snoc (G.map fun g => g.name) nm hn z
  rw [List.length_map] at this
  exact this
theorem LkG.fresh (h : LkG lo w0 wr bK bF bG cF cG vq vg vl D ss G nm Y rs m) (hb : Below wr.heap.size wr w') : LkG lo w0 w' bK bF bG cF cG vq vg vl D ss G nm Y rs m :=
  ⟨h.q.fresh hb, h.globs.fresh (Only.below hb none), h.lays.fresh (Only.below hb none), h.box.below hb, h.mF.below hb, h.mG.below hb, h.cF, h.cG, h.ne, h.hK, h.hF, h.hG⟩
theorem LkG.snoc {g : Glob} (h : LkG lo w0 wr bK bF bG cF cG vq vg vl D ss G g.name Y rs m) (hg : wr.grownBy w' vg.ownBlock) (hrow : OwnE globE w0.heap.size 60 w' v2 (G ++ [g])) :
    LkSt lo w0 (w'.setCell ⟨bK, 1, none⟩ v2) bK bF bG cF cG vq v2 vl D ss (G ++ [g]) Y rs m := by
  have hO : Only vg.ownBlock wr w' := Only.grown hg
  have hS : Only (some bK) w' (w'.setCell ⟨bK, 1, none⟩ v2) := Only.store _ _ _ _
  have hlow : Below w0.heap.size wr w' := Below.grownE (Below.refl _ _) h.globs hg h.q.low.size (Nat.le_refl _)
  have hq := h.q.only hO hlow (h.q.row.neRow h.globs (by decide)) (fun _ _ hc => hc.neRow h.globs (by decide))
  have hx : BoxAt w' bK _ _ := h.box.only hO (h.box.neRow h.globs (by decide))
  have l2 : OwnLays w0.heap.size w' vl Y rs := h.lays.only hO (h.lays.row.neRow h.globs (by decide)) (fun j hj => (h.lays.each j hj).neRow h.globs (by decide))
  have f2 : MapN strK w' bF cF _ := h.mF.grown hg (h.mF.neRow h.globs)
  have m2 : MapN strK w' bG cG _ := h.mG.grown hg (h.mG.neRow h.globs)
  refine ⟨hq.onlyBox hS ((Below.refl w0.heap.size w').setCell (p := ⟨bK, 1, none⟩) h.hK _) hx (by decide) (by decide), hrow.only hS (hrow.neBox hx (by decide)), l2.onlyBox hS hx (by decide) (by decide), hx.set 1 v2, f2.setCell (by intro e; exact (hx.neMapN f2) (by rw [e])) _, ?_, h.cF, by simpa using h.cG, h.ne, h.hK, h.hF, h.hG⟩
  rw [List.map_append]
  exact m2.setCell (by intro e; exact (hx.neMapN m2) (by rw [e])) _
end
def addG (G : List Glob) (g : Glob) : List Glob := if memB g.name (G.map fun g => g.name) = true then G else G ++ [g]
def addK (G : List Glob) (l : List Glob) (k : Nat) : List Glob := (l.take k).foldl addG G
theorem addK_succ (G : List Glob) (l : List Glob) (k : Nat) (h : k < l.length) : addK G l (k + 1) = addG (addK G l k) (nth l k) := by
  unfold addK
  rw [take_succ_atD _ _ h, List.foldl_append]; rfl
theorem addK_sub (G l : List Glob) : ∀ k, ∀ g ∈ addK G l k, g ∈ G ∨ g ∈ l.take k
  | 0, g, h => .inl (by simpa [addK] using h)
  | k + 1, g, h => by
    rcases Nat.lt_or_ge k l.length with h1 | h1
    · rw [addK_succ G l k h1] at h
      unfold addG at h
      have e := take_succ_atD l k h1
      split at h
      · rcases addK_sub G l k g h with h2 | h2
        · exact .inl h2
        · exact .inr (by rw [e]; exact List.mem_append.2 (.inl h2))
      · rcases List.mem_append.1 h with h2 | h2
        · rcases addK_sub G l k g h2 with h3 | h3
          · exact .inl h3
          · exact .inr (by rw [e]; exact List.mem_append.2 (.inl h3))
        · exact .inr (by rw [e]; exact List.mem_append.2 (.inr h2))
    · have e : addK G l (k + 1) = addK G l k := by unfold addK; rw [List.take_of_length_le h1, List.take_of_length_le (by omega)]
      rw [e] at h
      rcases addK_sub G l k g h with h2 | h2
      · exact .inl h2
      · exact .inr (List.mem_of_mem_take (by rwa [List.take_of_length_le h1] at h2) |> fun h3 => by rw [List.take_of_length_le (by omega)]; exact h3)
theorem addK_len (G l : List Glob) : ∀ k, (addK G l k).length ≤ G.length + k
  | 0 => by simp [addK]
  | k + 1 => by
    rcases Nat.lt_or_ge k l.length with h1 | h1
    · rw [addK_succ G l k h1]
      have := addK_len G l k
      unfold addG
      split
      · omega
      · rw [List.length_append, List.length_singleton]; omega
    · have e : addK G l (k + 1) = addK G l k := by unfold addK; rw [List.take_of_length_le h1, List.take_of_length_le (by omega)]
      rw [e]
      have := addK_len G l k
      omega

end Go.Proofs.Ytealeofgfgbheaa
