/-
  What the walks of both disassemblies use: texts as lists of bytes, their lengths, the roles that are printed.
-/
import Derived.Laws.Concat
import Derived.Lib.ItoaLen
import Derived.Test.YtihcngjkflaelaaGreatDoorZSpecC
import Derived.Test.YtihcngjkflaelaaGreatDoorZOwnP
import Derived.Test.YtihcngjkflaelaaGreatDoorZTxtQ
import Derived.Test.YtihcngjkflaelaaGreatDoorZJok
namespace Go.Proofs.YtihcngjkflaelaaGreatDoor
set_option linter.unusedVariables false
set_option linter.unusedSimpArgs false
open Go.RowKit

theorem bl_append (a b : ByteArray) : bl (a ++ b) = bl a ++ bl b := by simp [bl]
theorem bl_mk (l : List UInt8) : bl ⟨l.toArray⟩ = l := by simp [bl]
theorem bl_size (a : ByteArray) : a.size = (bl a).length := (Array.length_toList (xs := a.data)).symm
theorem mk_bl (a : ByteArray) : (⟨(bl a).toArray⟩ : ByteArray) = a := bl_inj (bl_mk (bl a))
theorem lineB_cons (x : List UInt8) (r : List (List UInt8)) : lineB (x :: r) = x ++ (Lib.joinTail [32] r ++ [10]) := by unfold lineB; rw [Lib.join_cons, List.append_assoc]
theorem joinTail_nil : Lib.joinTail [32] [] = [] := rfl
theorem joinTail_one (y : List UInt8) (r : List (List UInt8)) : Lib.joinTail [32] (y :: r) = 32 :: (y ++ Lib.joinTail [32] r) := by rw [joinTail_cons]; rfl
theorem take_flat {α β : Type} (f : α → List β) (l : List α) (k : Nat) : ((l.take k).flatMap f).length ≤ (l.flatMap f).length := by
  conv => rhs; rw [← List.take_append_drop k l, List.flatMap_append, List.length_append]
  omega
theorem take_flat_succ {α β : Type} [Inhabited α] (f : α → List β) (l : List α) (k : Nat) (h : k < l.length) : (l.take (k + 1)).flatMap f = (l.take k).flatMap f ++ f (nth l k) := by
  rw [List.take_add_one, List.getElem?_eq_getElem h, List.flatMap_append, nth_eq _ _ h]
  simp

theorem funcB_parts9 {p : Prg} {f : Fun} (h : funcB p f = true) : headB f = true := by
  simp only [funcB, Bool.and_eq_true] at h
  exact h.1
/-- Every instruction of a valid program is valid. -/
theorem ins_ok {p : Prg} (hv : validB p = true) (i : Nat) (hi : i < p.funcs.length) : InsOk p (nth p.funcs i) := by
  have hk := fok_of_funcB (valid_func hv i hi)
  have hpar : ∀ j, j < p.funcs.length → 0 ≤ (nth p.funcs j).params ∧ (nth p.funcs j).params ≤ 64 := fun j hj => by
    have h := (headB_iff _).1 (funcB_parts9 (valid_func hv j hj))
    have h2 := (headC_iff _).1 h.2
    omega
  have hreg : 0 ≤ (nth p.funcs i).regs ∧ (nth p.funcs i).regs ≤ 64 := by
    have h := (headB_iff _).1 (funcB_parts9 (valid_func hv i hi))
    have h2 := (headC_iff _).1 h.2
    omega
  intro x hx
  rw [instrC_eq x hreg hpar]
  obtain ⟨k, hk2, rfl⟩ := List.mem_iff_getElem.1 hx
  rw [← nth_eq _ _ hk2]
  exact hk.ins k hk2
theorem ins_op {p : Prg} {f : Fun} {x : Ins} (h : instrC p f x = true) : 0 < x.op ∧ x.op < 53 := by
  by_cases e : 0 < x.op ∧ x.op < 53
  · exact e
  · have hr : rolesC x.op = ⟨#[]⟩ := by
      unfold rolesC
      repeat rw [if_neg (by omega)]
    simp [instrC, hr] at h
theorem roles_dash (op : Int) (h : 0 < op ∧ op < 53) : ∃ r0 r1 r2 : UInt8, roles op = ⟨#[r0, r1, r2]⟩ ∧ (((r0.toNat : Nat) : Int) == 45) = (roleC op 0 == 45) ∧ (((r1.toNat : Nat) : Int) == 45) = (roleC op 1 == 45) ∧ (((r2.toNat : Nat) : Int) == 45) = (roleC op 2 == 45) := by
  obtain ⟨m, rfl⟩ := Int.eq_ofNat_of_zero_le (by omega : 0 ≤ op)
  have hd : ∀ n : Fin 53, 0 < n.val → (roles (n.val : Nat)).data.size = 3 ∧ ∀ j : Fin 3, ((((roles (n.val : Nat)).data.getD j.val 0).toNat : Int) == 45) = (roleC (n.val : Nat) j.val == 45) := by decide +kernel
  obtain ⟨h1, h2⟩ := hd ⟨m, by omega⟩ (by show 0 < m; omega)
  obtain ⟨d, hdd⟩ : ∃ d, roles ((m : Nat) : Int) = ⟨d⟩ := ⟨_, rfl⟩
  simp only [hdd] at h1 h2
  obtain ⟨l⟩ := d
  match l, h1 with
  | [r0, r1, r2], _ => exact ⟨r0, r1, r2, hdd, h2 0, h2 1, h2 2⟩

theorem codeT_len : ∀ (i : Nat) (c : List Ins), (codeT i c).length = c.length
  | _, [] => rfl
  | i, x :: c => by
    show (codeT (i + 1) c).length + 1 = c.length + 1
    rw [codeT_len (i + 1) c]
theorem codeT_nth : ∀ (i : Nat) (c : List Ins) (m : Nat), m < c.length → nth (codeT i c) m = insT (i + m) (nth c m)
  | _, [], m, h => by simp at h
  | i, x :: c, 0, _ => rfl
  | i, x :: c, m + 1, h => by
    show nth (codeT (i + 1) c) m = insT (i + (m + 1)) (nth c m)
    rw [codeT_nth (i + 1) c m (by simpa using h), show i + 1 + m = i + (m + 1) by omega]
theorem rolesC_dash (op : Int) (h : 0 < op ∧ op < 53) : ∃ r0 r1 r2 : UInt8, rolesC op = ⟨#[r0, r1, r2]⟩ ∧ (((r0.toNat : Nat) : Int) == 45) = (roleC op 0 == 45) ∧ (((r1.toNat : Nat) : Int) == 45) = (roleC op 1 == 45) ∧ (((r2.toNat : Nat) : Int) == 45) = (roleC op 2 == 45) := by
  obtain ⟨m, rfl⟩ := Int.eq_ofNat_of_zero_le (by omega : 0 ≤ op)
  have hd : ∀ n : Fin 53, 0 < n.val → (rolesC (n.val : Nat)).data.size = 3 := by decide +kernel
  have h1 := hd ⟨m, by omega⟩ (by show 0 < m; omega)
  unfold roleC
  obtain ⟨d, hdd⟩ : ∃ d, rolesC ((m : Nat) : Int) = ⟨d⟩ := ⟨_, rfl⟩
  simp only [hdd] at h1 ⊢
  obtain ⟨l⟩ := d
  match l, h1 with
  | [r0, r1, r2], _ => exact ⟨r0, r1, r2, rfl, rfl, rfl, rfl⟩
/-- The first operands that are printed. -/
def opdN (x : Ins) : Nat → List (List UInt8)
  | 0 => []
  | 1 => opdT (roleC x.op 0) x.a
  | 2 => opdT (roleC x.op 0) x.a ++ opdT (roleC x.op 1) x.b
  | _ => opds x
theorem joinTail_app (l m : List (List UInt8)) : Lib.joinTail [32] (l ++ m) = Lib.joinTail [32] l ++ Lib.joinTail [32] m := by simp [Lib.joinTail]
theorem opdT_le (r v : Int) (h : I64 v) : (Lib.joinTail [32] (opdT r v)).length ≤ 22 := by
  have h2 := Lib.itoa_length_le v h.1 h.2
  unfold opdT
  split
  · simp [Lib.joinTail]
  · rw [joinTail_one, joinTail_nil]
    simp only [List.length_cons, List.length_append, List.length_nil]
    omega
theorem opdN_le (x : Ins) (h : InsWf x) (j : Nat) : (Lib.joinTail [32] (opdN x j)).length ≤ 66 := by
  have h0 := opdT_le (roleC x.op 0) x.a h.a
  have h1 := opdT_le (roleC x.op 1) x.b h.b
  have h2 := opdT_le (roleC x.op 2) x.c h.c
  match j with
  | 0 => simp [opdN, Lib.joinTail]
  | 1 => show (Lib.joinTail [32] (opdT (roleC x.op 0) x.a)).length ≤ 66; omega
  | 2 =>
    show (Lib.joinTail [32] (opdT (roleC x.op 0) x.a ++ opdT (roleC x.op 1) x.b)).length ≤ 66
    rw [joinTail_app, List.length_append]; omega
  | j + 3 =>
    show (Lib.joinTail [32] (opdT (roleC x.op 0) x.a ++ (opdT (roleC x.op 1) x.b ++ opdT (roleC x.op 2) x.c))).length ≤ 66
    rw [joinTail_app, joinTail_app, List.length_append, List.length_append]; omega
theorem opdT_yes (r v : Int) (h : (r == 45) = true) : Lib.joinTail [32] (opdT r v) = [] := by
  unfold opdT; rw [if_pos (by simpa using h)]; rfl
theorem opdT_no (r v : Int) (h : (r == 45) = false) : Lib.joinTail [32] (opdT r v) = 32 :: Lib.itoa v := by
  unfold opdT; rw [if_neg (by simpa using h), joinTail_one, joinTail_nil, List.append_nil]
theorem opdN_succ (x : Ins) (j : Nat) (hj : j < 3) : Lib.joinTail [32] (opdN x (j + 1)) = Lib.joinTail [32] (opdN x j) ++ Lib.joinTail [32] (opdT (roleC x.op j) (if j = 0 then x.a else if j = 1 then x.b else x.c)) := by
  match j, hj with
  | 0, _ => simp [opdN, Lib.joinTail]
  | 1, _ =>
    show Lib.joinTail [32] (opdT (roleC x.op 0) x.a ++ opdT (roleC x.op 1) x.b) = _
    rw [joinTail_app]; rfl
  | 2, _ =>
    show Lib.joinTail [32] (opdT (roleC x.op 0) x.a ++ (opdT (roleC x.op 1) x.b ++ opdT (roleC x.op 2) x.c)) = _
    rw [joinTail_app, joinTail_app]
    show _ = Lib.joinTail [32] (opdT (roleC x.op 0) x.a ++ opdT (roleC x.op 1) x.b) ++ _
    rw [joinTail_app, List.append_assoc]; rfl
theorem valid_sizes9 {p : Prg} (h : validB p = true) : p.globals.length ≤ 64 ∧ p.layouts.length ≤ 32 ∧ ∀ r ∈ p.layouts, r.length ≤ 64 := by
  simp only [validB, topB, laysB, Bool.and_eq_true, decide_eq_true_eq, List.all_eq_true] at h
  refine ⟨h.1.2.1, h.1.2.2.1.2, fun r hr => ?_⟩
  have := h.1.2.2.1.1 r hr
  simp only [rowB, Bool.and_eq_true, decide_eq_true_eq] at this
  exact this.2
theorem joinTail_snoc (l : List (List UInt8)) (x : List UInt8) : Lib.joinTail [32] (l ++ [x]) = Lib.joinTail [32] l ++ 32 :: x := by simp [Lib.joinTail]
theorem map_take_succ (r : List Int) (m : Nat) (h : m < r.length) : (r.take (m + 1)).map Lib.itoa = (r.take m).map Lib.itoa ++ [Lib.itoa (nth r m)] := by
  rw [List.take_add_one, List.getElem?_eq_getElem h, ← nth_eq _ _ h, List.map_append]; rfl
theorem tail_le (r : List Int) (h : ∀ x ∈ r, I64 x) : (Lib.joinTail [32] (r.map Lib.itoa)).length ≤ 22 * r.length := by
  induction r with
  | nil => simp [Lib.joinTail]
  | cons x r ih =>
    have h1 := h x (by simp)
    have h2 := Lib.itoa_length_le x h1.1 h1.2
    have h3 := ih fun y hy => h y (by simp [hy])
    rw [List.map_cons, joinTail_one]
    simp only [List.length_cons, List.length_append]
    omega

end Go.Proofs.YtihcngjkflaelaaGreatDoor
