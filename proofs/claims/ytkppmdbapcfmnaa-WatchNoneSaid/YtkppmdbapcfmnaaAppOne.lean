/- Append of one element that was just laid: what is left is the row, and all else as it was. No condition. -/
import Derived.Test.YtkppmdbapcfmnaaBase
namespace Go.Proofs.Ytkppmdbapcfmnaa
open Go.ChangeShapes Go.WideShapes Go.ChangeAt Go.RowKit Go.Deep

theorem wpList_append_one_g {P : Program} {ops : Array Oper} {rest : List Oper} {o : Oper} {a : Act} {Q : Exit → Act → World → Prop} {t e : TypeId} {size bytes : Nat} (E : ElemOK P t e size bytes)
    (hgd : o.guard = none) (s x : Operand) (ho : o.op = .call { callee := .builtin .append, args := #[s, x], argTypes := #[t, t] })
    (W : World) (B : Nat) (cur : Array Value) (v : Value) (n : Nat) (xs : List Value) (hs : a.eval s = v) (hown : W.ownsRow B e size v n xs) (hB : B ≤ W.heap.size)
    (hx : a.eval x = .slice (some ⟨W.heap.size, 0, none⟩) 1 1) (hl : cur.size = size) (h1 : cur.toList.all (fun u => u.oneCell') = true)
    (h63 : n + 1 ≤ maxLen) (hbytes : (n + 1) * bytes ≤ 140737488355328)
    (h : ∀ v' w', w'.ownsRow B e size v' (n + 1) (xs ++ cur.toList) → (W.alloc (.cells cur e)).grownBy w' v.ownBlock → wpList P ops Q rest (a.put o.dst v') w') : wpList P ops Q (o :: rest) a (W.alloc (.cells cur e)) := by
  obtain ⟨i, z, hi, hz, h2, h3, h4⟩ := E.info
  refine wpList_append_own _ hgd s x t ho B e i z size bytes E.under hi hz h2 h3 h4 E.pos v n xs hs (hown.alloc _) ⟨W.heap.size, 0, none⟩ 1 1 cur.toList hx (by simp [hl]) ?_ (List.all_eq_true.1 h1) h63 hbytes (by simp; omega) (fun v' w' q1 q2 _ => h v' w' q1 q2)
  intro j u hj
  rw [cell_new]
  simpa using hj
end Go.Proofs.Ytkppmdbapcfmnaa
