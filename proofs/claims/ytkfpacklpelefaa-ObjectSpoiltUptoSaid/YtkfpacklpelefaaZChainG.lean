/-
  Literals and appends in a chain, over any frame.
-/
import Derived.Test.YtkfpacklpelefaaZAppend
import Derived.Test.YtkfpacklpelefaaZChain
namespace Go.Proofs.Ytkfpacklpelefaa
set_option linter.unusedVariables false
set_option linter.unusedSimpArgs false
open Go.RowKit
namespace Plan
set_option linter.unusedVariables false
set_option linter.unusedSimpArgs false
variable {R : Plan} {P : Program} {Q : Exit → Act → World → Prop} {G : World → Prop} {i : Nat} {o : Oper} {l : List Oper} {a : Act} {w : World}

theorem chain_appendG {α : Type} [Inhabited α] (E : Enc α) (s x : Operand) (t : TypeId) (base lo : Nat) (e : TypeId) (z : Value) (bytes : Nat) (L r : List α)
    (hk : R.kinds i = .new) (hw : Region.wanted o (yielded R.ops a.tmps) = true) (hd : dstIn o a = true)
    (ho : o.op = .call { callee := .builtin .append, args := #[s, x], argTypes := #[t, t] })
    (ht : P.underlying t = some (.slice e)) (hinfo : (P.info? e).map (fun i => (i.zero, i.size, i.bytes)) = some (some z, E.sz, bytes)) (hz : z.cells.size = E.sz)
    (hown : OwnE E base e w (a.eval s) L) (hsrc : SlE E lo w (a.eval x) r) (hb : (L.length + r.length) * bytes ≤ 140737488355328) (hm : L.length + r.length ≤ maxLen) (hbase : base ≤ w.heap.size)
    (hG : ∀ w', w.grownBy w' (a.eval s).ownBlock → G w')
    (h : ∀ b m w', OwnE E base e w' (.slice b (L ++ r).length m) (L ++ r) → w.grownBy w' (a.eval s).ownBlock → R.RunsG P Q G (i + 1) l (a.put o.dst (.slice b (L ++ r).length m)) w') : R.RunsG P Q G i (o :: l) a w :=
  chain_mem hk hw hd fun K hK => by
    obtain ⟨v', w', e1, e2, e3, e4⟩ := run_append_E (P := P) E w base lo t o.type e z bytes ht hinfo hz _ L hown _ r hsrc hb hm hbase
    obtain ⟨b, m, rfl⟩ := anySlice_of e2
    unfold Oper.wp
    simp only [execOp, ho, resolve, invoke, builtin, Sem.run_bind, Sem.run_pure, Result.andThen_ok, List.map_toArray, List.map_cons, List.map_nil, e1]
    exact hK _ w' (hG w' e3) (h b m w' e2 e3)
theorem chain_litG {α : Type} (E : Enc α) (base : Nat) (e : TypeId) (L : List α) (cs : Array Value) (n : Nat)
    (hk : R.kinds i = .new) (hw : Region.wanted o (yielded R.ops a.tmps) = true) (hd : dstIn o a = true)
    (hrun : (execOp a.eval o).run P w = .ok (.value (.slice (some ⟨w.heap.size, 0, none⟩) n n)) (w.alloc (.cells cs e))) (hn : n = L.length) (hc : cs.toList = L.flatMap E.enc) (hs : L.length ≤ 1000)
    (hbase : base ≤ w.heap.size) (hG : G (w.alloc (.cells cs e)))
    (h : OwnE E base e (w.alloc (.cells cs e)) (.slice (some ⟨w.heap.size, 0, none⟩) n n) L → R.RunsG P Q G (i + 1) l (a.put o.dst (.slice (some ⟨w.heap.size, 0, none⟩) n n)) (w.alloc (.cells cs e))) : R.RunsG P Q G i (o :: l) a w :=
  chain_run _ _ hk hw hd hrun hG (h (OwnE.lit E w base e L cs _ n rfl hbase hn hc hs))

end Plan
end Go.Proofs.Ytkfpacklpelefaa
