/- Contracts of slices.Clone at a note, of Len and of Copy. Condition: the memory lies in blocks of the call's own. -/
import Derived.Test.YtbhhjlnjhlagdaaWindowLaw
namespace Go.Proofs.Ytbhhjlnjhlagdaa
open Go.ChangeShapes Go.WideShapes Go.ChangeAt Go.RowKit Go.Deep

theorem wpList_append_many {P : Program} {ops : Array Oper} {rest : List Oper} {o : Oper} {a : Act} {w : World} {Q : Exit → Act → World → Prop} {t e : TypeId} {size bytes : Nat} (E : ElemOK P t e size bytes)
    (hgd : o.guard = none) (s x : Operand) (ho : o.op = .call { callee := .builtin .append, args := #[s, x], argTypes := #[t, t] })
    (B : Nat) (v : Value) (n : Nat) (xs : List Value) (hs : a.eval s = v) (hown : w.ownsRow B e size v n xs) (hB : B ≤ w.heap.size)
    (ad : Addr) (m c : Nat) (news : List Value) (hx : a.eval x = .slice (some ad) m c) (hl : news.length = m * size) (hnews : ∀ j u, news[j]? = some u → w.cell? (ad.add j) = some u) (h1 : news.all (fun u => u.oneCell') = true)
    (h63 : n + m ≤ maxLen) (hbytes : (n + m) * bytes ≤ 140737488355328)
    (h : ∀ v' w', w'.ownsRow B e size v' (n + m) (xs ++ news) → w.grownBy w' v.ownBlock → wpList P ops Q rest (a.put o.dst v') w') : wpList P ops Q (o :: rest) a w := by
  obtain ⟨i, z, hi, hz, h2, h3, h4⟩ := E.info
  exact wpList_append_own _ hgd s x t ho B e i z size bytes E.under hi hz h2 h3 h4 E.pos v n xs hs hown ad m c news hx hl hnews (List.all_eq_true.1 h1) h63 hbytes hB fun v' w' h1 h2 _ => h v' w' h1 h2

theorem zeroNotes (w : World) : (Instr.buildSlice 136 0 (([] : List (Nat × Value))).toArray).run Try.prog w = .ok (.slice (some ⟨w.heap.size, 0, none⟩) 0 0) (w.alloc (.cells #[] 141)) := by kernel_rfl

set_option maxRecDepth 100000 in
set_option maxHeartbeats 1000000 in
theorem clone_Note (B : Nat) (v : Value) (n : Nat) (xs : List Value) (w : World) (hown : w.ownsRow B 141 3 v n xs) (h1 : xs.all (fun u => u.oneCell') = true) (hn : n ≤ 1000000) :
    Calls Try.prog 68 #[v] w fun e w' => ∃ v', e = .returned v' ∧ w'.ownsRow w.heap.size 141 3 v' n xs ∧ Below w.heap.size w w' := by
  rcases hown.2 with ⟨rfl, rfl⟩ | ⟨g, cap, cur, rfl, hbg, hg, hnc, hcm, hcs, htake⟩
  · have hx : xs = [] := List.eq_nil_of_length_eq_zero (by simpa using hown.1)
    subst hx
    clear h1 hn hown
    have hq : ∀ w, (binOp .eql 136 (.slice none 0 0) (.slice none 0 0)).run Try.prog w = .ok (.bool true) w := fun _ => by kernel_rfl
    go_enter Try.func68, Try.ntmps68
    go_wp2
    go_ret
    exact ⟨_, rfl, World.ownsRow_nil _ _ _ _, Below.refl _ _⟩
  · have HC := Lib.hid ((hown.alloc (.cells #[] 141)).cells (g := g) rfl)
    have HL := Lib.hid hown.1
    have H1 := Lib.hid h1
    clear hown htake hcm hcs hg hnc hbg h1
    have hq : ∀ w, (binOp .eql 136 (.slice (some ⟨g, 0, none⟩) n cap) (.slice none 0 0)).run Try.prog w = .ok (.bool false) w := fun _ => by kernel_rfl
    go_enter Try.func68, Try.ntmps68
    go_wp2_with (first | ((with_reducible refine at_slot 5 ?_); go_must (refine wpList_buildSlice rfl 136 0 _ rfl [] rfl _ _ zeroNotes ?_)) | ((with_reducible refine at_slot 7 ?_); go_must (refine wpList_append_many elemNote rfl _ _ rfl w.heap.size _ 0 [] rfl (World.ownsRow_made w _ 0 (Nat.le_refl _) (by decide) rfl) (by rw [World.size_alloc]; omega) _ n _ xs rfl (by exact HL.out) (by exact HC.out) H1.out (by unfold maxLen; omega) (by omega) ?_; intro v2 w2 hown2 hgr2)))
    go_ret
    rw [Nat.zero_add, List.nil_append] at hown2
    exact ⟨_, rfl, hown2, ((Below.refl _ w).alloc (Nat.le_refl _) _).grown hgr2 (by rw [World.size_alloc]; omega) (fun k hk => by cases hk; exact Nat.le_refl _)⟩

theorem len_any (B mb : Nat) (v : Value) (xs : List Note) (w : World) (hM : MemAt w B mb v xs) : Calls Try.prog 39 #[.pointer (some ⟨mb, 0, none⟩)] w fun e w' => e = .returned (.int .i64 xs.length) ∧ w' = w := by
  have c0 := cell_of_one hM.blk
  have hl := hM.own.2
  obtain ⟨n, hn⟩ : ∃ n, xs.length = n := ⟨_, rfl⟩
  rw [hn] at hl ⊢
  rcases hl with ⟨rfl, rfl⟩ | ⟨g, cap, cur, rfl, _⟩
  all_goals
    clear hM hn
    go_enter Try.func39, Try.ntmps39
    go_wp2
    go_ret
    exact ⟨ret_int (by simp), rfl⟩

theorem copy_any (B mb : Nat) (v : Value) (xs : List Note) (w : World) (hM : MemAt w B mb v xs) (hn : xs.length ≤ 1000000) : Calls Try.prog 37 #[.pointer (some ⟨mb, 0, none⟩)] w fun e w' =>
    ∃ mb' v', e = .returned (.pointer (some ⟨mb', 0, none⟩)) ∧ MemAt w' w.heap.size mb' v' xs ∧ Below w.heap.size w w' := by
  have c0 := cell_of_one hM.blk
  have HC := Lib.hid (clone_Note B v xs.length (xs.flatMap Note.cells) w hM.own (by rw [List.all_flatMap]; exact List.all_eq_true.2 fun x _ => rfl) hn)
  clear hM
  go_enter Try.func37, Try.ntmps37
  go_wp2_with fail
  refine HC.out.mono ?_
  rintro e w1 ⟨v', rfl, ho, hb⟩
  have Ho := Lib.hid ho
  have Hb := Lib.hid hb
  clear ho hb
  have hs : ∃ ao n cap, v' = .slice ao n cap := by
    rcases Ho.out.2 with ⟨rfl, _⟩ | ⟨g, cap, cur, rfl, _⟩
    · exact ⟨_, _, _, rfl⟩
    · exact ⟨_, _, _, rfl⟩
  obtain ⟨ao, n', cap, rfl⟩ := hs
  go_wp2_with fail
  go_ret
  exact ⟨_, _, rfl, ⟨heap_alloc_new w1 _, Hb.out.size, Ho.out.alloc _⟩, Hb.out.alloc Hb.out.size _⟩
end Go.Proofs.Ytbhhjlnjhlagdaa
