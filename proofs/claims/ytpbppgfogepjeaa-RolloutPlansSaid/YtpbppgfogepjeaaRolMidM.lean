/- Strings as keys. No condition. || What the statement of chapter 35 counts: the names that go, the pods that live, the ready ones, the lost ones. No condition. || Amid rollout.Plan: what lies where. No condition. -/
import Derived.Test.YtpbppgfogepjeaaMapM
import Derived.Test.YtpbppgfogepjeaaChecked
import Derived.Test.YtpbppgfogepjeaaRolPlanM
import Derived.Test.YtpbppgfogepjeaaTwoNewM
namespace Go.Proofs.Ytpbppgfogepjeaa
open Go.ChangeShapes Go.WideShapes Go.ChangeAt Go.RowKit Go.Deep Go.Maps
theorem strKeyed : Keyed Try.prog 9 := string_keyed Try.underlying9
theorem strKeyD {s : ByteArray} (h : s.size ≤ maxLen) : keyOf Try.prog 9 (.string s) = some (.string s.data.toList) := WideMaps.keyOf_string_mk Try.underlying9 h
end Go.Proofs.Ytpbppgfogepjeaa
namespace Go.Proofs.Ytpbppgfogepjeaa
open Go.ChangeShapes Go.WideShapes Go.ChangeAt Go.RowKit Go.Deep Go.Maps

def goneF (A : List ByteArray) : List UInt8 → Option Bool := fun s => if A.any (fun n => n.data.toList == s) = true then some true else none
theorem goneF_nil : goneF [] = fun _ => none := by funext s; simp [goneF]
theorem goneF_snoc (A : List ByteArray) (n : ByteArray) : sset (goneF A) n.data.toList true = goneF (A ++ [n]) := by
  funext s
  unfold sset goneF
  rw [List.any_append, List.any_cons, List.any_nil, Bool.or_false]
  by_cases h : s = n.data.toList
  · subst h
    simp
  · have h2 : (n.data.toList == s) = false := by simpa using fun e => h e.symm
    rw [if_neg h, h2, Bool.or_false]
def gB (A : List ByteArray) (n : ByteArray) : Bool := A.any (fun m => m.data.toList == n.data.toList)
theorem goneF_get (A : List ByteArray) (n : ByteArray) : (byStr Value.bool (goneF A) (.string n.data.toList)).getD (.bool false) = .bool (gB A n) := by
  show ((goneF A n.data.toList).map Value.bool).getD _ = _
  unfold goneF gB
  cases A.any (fun m => m.data.toList == n.data.toList) <;> rfl
theorem gB_iff (A : List ByteArray) (n : ByteArray) : gB A n = true ↔ n ∈ A := by
  unfold gB
  rw [List.any_eq_true]
  constructor
  · rintro ⟨m, hm, e⟩
    have : m = n := bytes_inj (eq_of_beq e)
    exact this ▸ hm
  · exact fun h => ⟨n, h, by simp⟩

structure TS where
  all : Nat
  ready : Nat
  lost : Nat
def TS.put (A : List ByteArray) (s : TS) (y : ObI) : TS := ⟨s.all + 1, s.ready + (if (y.o.p.phase == 2) = true then 1 else 0), s.lost + (if ((y.o.p.phase == 2) && gB A y.nm) = true then 1 else 0)⟩
def TS.step (x : ObI) (A : List ByteArray) (s : TS) (y : ObI) : TS := if isLive x.nm y.ov = true then s.put A y else s
theorem TS.fold (x : ObI) (A : List ByteArray) : ∀ (l : List ObI) (s : TS), l.foldl (TS.step x A) s = ⟨s.all + (liveI x l).length, s.ready + ((liveI x l).filter fun y => y.o.p.phase == 2).length, s.lost + ((liveI x l).filter fun y => (y.o.p.phase == 2) && gB A y.nm).length⟩
  | [], s => rfl
  | y :: l, s => by
    rw [List.foldl_cons, TS.fold x A l]
    unfold TS.step liveI
    rw [List.filter_cons]
    by_cases h : isLive x.nm y.ov = true
    · rw [if_pos h, if_pos h, len_more, len_more, List.length_cons]
      unfold TS.put
      dsimp only
      simp
      omega
    · rw [if_neg h, if_neg h]
theorem TS.le (x : ObI) (A : List ByteArray) (s : TS) (y : ObI) (k : Nat) (h : s.all ≤ k ∧ s.ready ≤ k ∧ s.lost ≤ k) : (s.step x A y).all ≤ k + 1 ∧ (s.step x A y).ready ≤ k + 1 ∧ (s.step x A y).lost ≤ k + 1 := by
  unfold TS.step
  split
  · unfold TS.put
    dsimp only
    refine ⟨?_, ?_, ?_⟩
    all_goals first | omega | (split <;> omega)
  · omega
theorem lost_gB (x : ObI) (A : List ByteArray) (L : List ObI) : lostN (pvI x) L A = ((L.filter fun y => (y.o.p.phase == 2) && gB A y.nm).length : Int) := by
  unfold lostN
  congr 2
  apply List.filter_congr
  intro y _
  have : (pvI x y).ph = y.o.p.phase := rfl
  rw [this]
  have h2 : (pvI x y).nm = y.nm := rfl
  rw [h2, Bool.eq_iff_iff]
  simp only [decide_eq_true_eq, Bool.and_eq_true, beq_iff_eq, gB_iff]

theorem o_names {α : Type} (pv : α → Pv) : ∀ (ys : List α) (s : Int × List ByteArray), ∀ b ∈ (ys.foldl (oStep pv) s).2, b ∈ s.2 ∨ ∃ y ∈ ys, b = (pv y).nm
  | [], _, b, h => .inl h
  | o :: ys, s, b, h => by
    rw [List.foldl_cons] at h
    rcases o_names pv ys _ b h with h | ⟨y, hy, e⟩
    · unfold oStep at h
      split at h
      · exact .inl h
      · split at h
        · rcases List.mem_append.1 h with h | h
          · exact .inl h
          · exact .inr ⟨o, by simp, List.mem_singleton.1 h⟩
        · exact .inl h
    · exact .inr ⟨y, by simp [hy], e⟩
theorem n_names {α : Type} (pv : α → Pv) : ∀ (ys : List α) (s : Int × Int × List ByteArray), ∀ b ∈ (ys.foldl (nStep pv) s).2.2, b ∈ s.2.2 ∨ ∃ y ∈ ys, b = (pv y).nm
  | [], _, b, h => .inl h
  | o :: ys, s, b, h => by
    rw [List.foldl_cons] at h
    rcases n_names pv ys _ b h with h | ⟨y, hy, e⟩
    · unfold nStep at h
      split at h
      · exact .inl h
      · split at h
        · rcases List.mem_append.1 h with h | h
          · exact .inl h
          · exact .inr ⟨o, by simp, List.mem_singleton.1 h⟩
        · exact .inl h
    · exact .inr ⟨y, by simp [hy], e⟩
theorem step_names {α : Type} (pv : α → Pv) (n s a : Int) (ys : List α) (o1 o2 o3 o4 : Int) : ∀ b ∈ (stepL pv n s a ys o1 o2 o3 o4).names, ∃ y ∈ ys, b = (pv y).nm := by
  intro b hb
  unfold stepL at hb
  rcases n_names pv ys _ b hb with h | h
  · rcases o_names pv ys _ b h with h | h
    · cases h
    · exact h
  · exact h
theorem step_create {α : Type} (pv : α → Pv) (n s a : Int) (ys : List α) (o1 o2 o3 o4 : Int) (h1 : 0 ≤ o2) (h2 : 0 ≤ n) : 0 ≤ (stepL pv n s a ys o1 o2 o3 o4).create ∧ (stepL pv n s a ys o1 o2 o3 o4).create ≤ n := by
  unfold stepL
  dsimp only
  repeat' split
  all_goals omega
theorem step_one {L ys : List ObI} (h : LiveOk L) (hs : SortedO L ys) (x : ObI) (n s a : Int) : stepI (pvI x) n s a (ys.filter fun y => !freshB x y) (ys.filter fun y => freshB x y) =
    stepL (pvI x) n s a (insL L []) (L.filter fun y => !freshB x y).length (L.filter fun y => freshB x y).length (rdy (pvI x) L) (rdy (pvI x) (L.filter fun y => freshB x y)) := by
  have hp := hs.perm
  have e := step_eq (pvI x) n s a ys
  have f1 : (ys.filter fun o => !(pvI x o).fr).length = (L.filter fun y => !freshB x y).length := (hp.filter _).length_eq
  have f2 : (ys.filter fun o => (pvI x o).fr).length = (L.filter fun y => freshB x y).length := (hp.filter _).length_eq
  have f3 : rdy (pvI x) ys = rdy (pvI x) L := rdy_perm _ hp
  have f4 : rdy (pvI x) (ys.filter fun o => (pvI x o).fr) = rdy (pvI x) (L.filter fun y => freshB x y) := rdy_perm _ (hp.filter _)
  rw [f1, f2, f3, f4] at e
  rw [← one_order h hs]
  exact e
theorem ins_mem {L : List ObI} (h : LiveOk L) {y : ObI} (hy : y ∈ insL L []) : y ∈ L := by
  have h2 := insAll_spec soonI soon_tr L [] List.Pairwise.nil (h.unlike.imp fun {a b} hne => soon_tot a b hne) (fun a ha => by cases ha)
  rw [List.append_nil] at h2
  exact h2.2.mem_iff.1 hy
end Go.Proofs.Ytpbppgfogepjeaa
namespace Go.Proofs.Ytpbppgfogepjeaa
open Go.ChangeShapes Go.WideShapes Go.ChangeAt Go.RowKit Go.Deep

theorem storeSl1 {w : World} {q : Addr} {ao : Option Addr} {n cap : Nat} (t : TypeId) (ht : (sizeOf t).run Try.prog w = .ok 1 w) (hc : (w.cell? q).isSome = true) (hf : w.frozen? q = false) : (Instr.storeAt t (.pointer (some q)) (.slice ao n cap)).run Try.prog w = .ok () (w.setCell q (.slice ao n cap)) := by
  obtain ⟨u, hu⟩ := Option.isSome_iff_exists.1 hc
  simp [go_sem, ht, hu, hf, storeVar]
theorem storeIn1 {w : World} {q : Addr} {z : Int} (t : TypeId) (ht : (sizeOf t).run Try.prog w = .ok 1 w) (hc : (w.cell? q).isSome = true) (hf : w.frozen? q = false) : (Instr.storeAt t (.pointer (some q)) (.int .i64 z)).run Try.prog w = .ok () (w.setCell q (.int .i64 z)) := by
  obtain ⟨u, hu⟩ := Option.isSome_iff_exists.1 hc
  simp [go_sem, ht, hu, hf, storeVar]
theorem fold_bounds {α : Type} (pv : α → Pv) (M : Int) : ∀ (l : List α) (s : Int × List ByteArray), s.1 - l.length ≤ (l.foldl (gStep pv M) s).1 ∧ (l.foldl (gStep pv M) s).1 ≤ s.1 ∧ (l.foldl (gStep pv M) s).2.length ≤ s.2.length + l.length
  | [], s => by simp
  | o :: l, s => by
    have h := fold_bounds pv M l (gStep pv M s o)
    rw [List.foldl_cons]
    have h1 : s.1 - 1 ≤ (gStep pv M s o).1 ∧ (gStep pv M s o).1 ≤ s.1 ∧ (gStep pv M s o).2.length ≤ s.2.length + 1 := by
      unfold gStep
      repeat' split
      all_goals simp
      all_goals omega
    simp only [List.length_cons]
    omega
theorem OwnN.reads {w : World} {B : Nat} {v : Value} {xs : List ByteArray} (h : OwnN w B v xs) : ∃ ao cap, v = .slice ao xs.length cap ∧ SlR (Flat cN) 1 w ao xs.length cap xs := by
  obtain ⟨ao, cap, e, hS, _⟩ := SlR.of_owns (f := cN) (sz := 1) h rfl (fun _ => rfl)
  exact ⟨ao, cap, e, hS⟩
theorem OwnOb.low {w : World} {B : Nat} {ao : Option Addr} {n cap : Nat} {xs : List ObI} (h : OwnOb w B (.slice ao n cap) xs) : ∀ A, ao = some A → A.block < w.heap.size := fun A e => by
  rcases h.2 with ⟨h0, _⟩ | ⟨g, c, cur, h0, _, hg, _⟩
  · cases h0; cases e
  · cases h0; cases e; exact (Array.getElem?_eq_some_iff.1 hg).1
structure PlMid (w0 w : World) (N bb : Nat) (s a : Int) (xc : List Value) (a1 : Option Addr) (n1 q1 : Nat) (L1 : List ObI) (a2 : Option Addr) (n2 q2 : Nat) (L2 : List ObI) (row : Array Value) : Prop where
  pl : PlAt w0 w N s a xc
  t1 : SlR (Flat ObI.cells) 47 w a1 n1 q1 L1
  t2 : SlR (Flat ObI.cells) 47 w a2 n2 q2 L2
  row : w.heap[bb]? = some (.cells row 70 (0, 0))
  u1 : ∀ A, a1 = some A → A.block < bb
  u2 : ∀ A, a2 = some A → A.block < bb
  nb : N + 3 ≤ bb
section
variable {w0 w w' : World} {N bb : Nat} {s a : Int} {xc : List Value} {a1 a2 : Option Addr} {n1 q1 n2 q2 : Nat} {L1 L2 : List ObI} {row : Array Value}
theorem PlMid.lt (h : PlMid w0 w N bb s a xc a1 n1 q1 L1 a2 n2 q2 L2 row) : bb < w.heap.size := (Array.getElem?_eq_some_iff.1 h.row).1
theorem PlMid.fr (h : PlMid w0 w N bb s a xc a1 n1 q1 L1 a2 n2 q2 L2 row) {S : Nat → Prop} (hf : Fr S w w') (hS : ∀ k, S k → bb < k) : PlMid w0 w' N bb s a xc a1 n1 q1 L1 a2 n2 q2 L2 row := by
  have hlt := h.lt
  have hnb := h.nb
  refine ⟨⟨(hf.block N (by omega) (fun e => by have := hS _ e; omega)).trans h.pl.r, fun j u hu => hf.cell (h.pl.x j u hu) (fun e => by have := hS _ e; simp at this; omega), (hf.block (N + 2) (by omega) (fun e => by have := hS _ e; omega)).trans h.pl.out, h.pl.below.trans (hf.below (by omega) (fun k hk => by have := hS k hk; omega))⟩,
    h.t1.frG hf (fun A e hk => by have := hS _ hk; have := h.u1 A e; omega), h.t2.frG hf (fun A e hk => by have := hS _ hk; have := h.u2 A e; omega), (hf.block bb hlt (fun e => by have := hS _ e; omega)).trans h.row, h.u1, h.u2, h.nb⟩
theorem PlMid.belo (h : PlMid w0 w N bb s a xc a1 n1 q1 L1 a2 n2 q2 L2 row) (hb : Below w.heap.size w w') : PlMid w0 w' N bb s a xc a1 n1 q1 L1 a2 n2 q2 L2 row :=
  h.fr (Fr.of_below hb (fun _ => False)) (fun _ hk => hk.elim)
theorem PlMid.set (h : PlMid w0 w N bb s a xc a1 n1 q1 L1 a2 n2 q2 L2 row) (j : Nat) (v : Value) : PlMid w0 (w.setCell ⟨bb, j, none⟩ v) N bb s a xc a1 n1 q1 L1 a2 n2 q2 L2 (row.setIfInBounds j v) := by
  have hlt := h.lt
  have hnb := h.nb
  have hf : Fr (fun k => k = bb) w (w.setCell ⟨bb, j, none⟩ v) := Fr.setC (fun k => k = bb) w ⟨bb, j, none⟩ v rfl
  refine ⟨⟨(hf.block N (by omega) (fun e => by omega)).trans h.pl.r, fun j u hu => hf.cell (h.pl.x j u hu) (fun e => by simp at e; omega), (hf.block (N + 2) (by omega) (fun e => by omega)).trans h.pl.out, h.pl.below.trans (hf.below (by omega) (fun k hk => by omega))⟩,
    h.t1.frG hf (fun A e hk => by have := h.u1 A e; omega), h.t2.frG hf (fun A e hk => by have := h.u2 A e; omega), row_setCell h.row v, h.u1, h.u2, h.nb⟩
end
theorem upon_bin {P : Program} {A : Act} {w : World} {o : Oper} {next : Value → World → Prop} {op : BinOp} {T T2 : TypeId} (x y : Operand) (hop : o.op = .binOp op T x y T2) (va vb v : Value) (hx : A.eval x = va) (hy : A.eval y = vb) (h1 : (eqGuard op T x y va vb).run P w = .ok () w) (h2 : (binOp op T va vb).run P w = .ok v w) (h : next v w) : loudUpon P next ((execOp A.eval o).run P w) := by
  unfold execOp
  simp only [hop, hx, hy, Sem.run_bind, Sem.run_pure, Result.andThen_ok, h1, h2]
  exact h
theorem newI (A : Act) (w : World) {o : Oper} (ho : o.op = .alloc 3) : (execOp A.eval o).run Try.prog w = .ok (.value (.pointer (some ⟨w.heap.size, 0, none⟩))) (w.alloc (.cells #[.int .i64 0] 3)) := by
  unfold execOp
  rw [ho]
  kernel_rfl
theorem add_int (x y : Int) (w : World) (A B : Operand) : (eqGuard .add 3 A B (.int .i64 x) (.int .i64 y)).run Try.prog w = .ok () w ∧ (binOp .add 3 (.int .i64 x) (.int .i64 y)).run Try.prog w = .ok (.int .i64 (IntKind.i64.wrap (x + y))) w := ⟨by kernel_rfl, by kernel_rfl⟩
theorem sub_int (x y : Int) (w : World) (A B : Operand) : (eqGuard .sub 3 A B (.int .i64 x) (.int .i64 y)).run Try.prog w = .ok () w ∧ (binOp .sub 3 (.int .i64 x) (.int .i64 y)).run Try.prog w = .ok (.int .i64 (IntKind.i64.wrap (x - y))) w := ⟨by kernel_rfl, by kernel_rfl⟩

end Go.Proofs.Ytpbppgfogepjeaa
