/- Rows of rooms: their sort, Backward, the map of places. Condition: the row lies in a block of the call's own. || Strings as keys. No condition. || A region that draws its order, amid a round of a range over a function: what was walked in the plain way holds there. No condition; no program. || A store into a map amid a region that draws its order, walked phase by phase. No condition; no program. -/
import Derived.Test.YtpbppgfogepjeaaStRoom4M
import Derived.Test.YtpbppgfogepjeaaStorePartM
import Derived.Test.YtpbppgfogepjeaaChecked
import Derived.Test.YtpbppgfogepjeaaShapesM
import Derived.RangeFuncCalls
import Derived.OrdersIn
import Derived.ControlIn
namespace Go.Proofs.Ytpbppgfogepjeaa
open Go.ChangeShapes Go.WideShapes Go.ChangeAt Go.RowKit Go.Deep Go.Maps Go.Shelf

theorem elemRoom : ElemOK Try.prog 58 57 11 136 := .mk' Try.underlying58 (by kernel_rfl) (by decide)
def rooms0 (l : List ObI) : List RoomI := (l.filter fun x => x.kd == 2).map fun x => ⟨x.nm, x.o.n, 0, 0, 0⟩
theorem rooms0_succ (l : List ObI) (k : Nat) (hk : k < l.length) : rooms0 (l.take (k + 1)) = rooms0 (l.take k) ++ (if (l[k].kd == 2) = true then [⟨l[k].nm, l[k].o.n, 0, 0, 0⟩] else []) := by
  unfold rooms0
  rw [List.take_succ_eq_append_getElem hk, List.filter_append, List.map_append]
  congr 1
  cases h : (l[k].kd == 2) <;> simp [h]
theorem rooms0_len (l : List ObI) : (rooms0 l).length ≤ l.length := by
  unfold rooms0
  rw [List.length_map]
  exact List.length_filter_le _ _
def SortedR (xs ys : List RoomI) : Prop := ∃ d : List TRoom, d.Perm xs.zipIdx ∧ d.Pairwise TORoom ∧ ys = d.map (·.1)
theorem SortedR.mem {xs ys : List RoomI} (h : SortedR xs ys) {y : RoomI} (hy : y ∈ ys) : y ∈ xs := by
  obtain ⟨d, h1, _, rfl⟩ := h
  obtain ⟨z, hz, rfl⟩ := List.mem_map.1 hy
  have := h1.mem_iff.1 hz
  obtain ⟨_, _, he⟩ := List.mem_zipIdx this
  rw [he]
  exact List.getElem_mem _
theorem rooms0_name {l : List ObI} {y : RoomI} (h : y ∈ rooms0 l) : ∃ x ∈ l, y.name = x.nm ∧ y.n = x.o.n ∧ x.kd = 2 ∧ y.cpu = 0 ∧ y.mem = 0 ∧ y.pods = 0 := by
  unfold rooms0 at h
  obtain ⟨x, hx, rfl⟩ := List.mem_map.1 h
  obtain ⟨h1, h2⟩ := List.mem_filter.1 hx
  exact ⟨x, h1, rfl, rfl, eq_of_beq h2, rfl, rfl, rfl⟩
theorem zipFlat_Room : ∀ (xs : List RoomI) (k : Nat), (xs.zipIdx k).flatMap tRoom = xs.flatMap RoomI.cells
  | [], _ => rfl
  | x :: xs, k => by rw [List.zipIdx_cons, List.flatMap_cons, List.flatMap_cons, zipFlat_Room xs (k + 1)]; rfl
theorem flatFst_Room (d : List TRoom) : d.flatMap tRoom = (d.map (·.1)).flatMap RoomI.cells := by
  induction d with
  | nil => rfl
  | cons x d ih => rw [List.flatMap_cons, List.map_cons, List.flatMap_cons, ih]; rfl

def onRoom (p : ObI) : Bool := (p.kd == 1) && ((p.o.p.phase == 1) || (p.o.p.phase == 2))
def placeOf (ys : List RoomI) (s : List UInt8) : Option Nat := ys.findIdx? fun r => r.name.toList == s
def addPod (pl : List UInt8 → Option Nat) (zs : List RoomI) (p : ObI) : List RoomI := match pl p.o.p.node.data.toList with
  | some i => if onRoom p = true then (match zs[i]? with | some r => zs.set i (r.put p.o.p) | none => zs) else zs
  | none => zs
theorem addPods_succ (pl : List UInt8 → Option Nat) (ps : List ObI) (zs : List RoomI) (k : Nat) (hk : k < ps.length) : (ps.take (k + 1)).foldl (addPod pl) zs = addPod pl ((ps.take k).foldl (addPod pl) zs) ps[k] := by
  rw [List.take_succ_eq_append_getElem hk, List.foldl_append]
  rfl

def OwnRm (w : World) (B : Nat) (v : Value) (xs : List RoomI) : Prop := w.ownsRow B 57 11 v xs.length (xs.flatMap RoomI.cells)
theorem OwnRm.nil (w : World) (B : Nat) : OwnRm w B (.slice none 0 0) [] := World.ownsRow_nil w B _ _
theorem ownRm_next {w' : World} {B : Nat} {g' cap' : Nat} {xs : List RoomI} {x : RoomI} (h : w'.ownsRow B 57 11 (.slice (some ⟨g', 0, none⟩) (xs.length + 1) cap') (xs.length + 1) (xs.flatMap RoomI.cells ++ x.cells)) :
    OwnRm w' B (.slice (some ⟨g', 0, none⟩) (xs.length + 1) cap') (xs ++ [x]) := by
  unfold OwnRm
  rw [List.length_append, List.flatMap_append]
  simpa using h

theorem Fr.setc {S : Nat → Prop} {a b : World} (h : Fr S a b) {g j : Nat} (hg : S g) (v : Value) : Fr S a (b.setCell ⟨g, j, none⟩ v) := by
  have hB := (Below.refl 0 b).setCell (p := ⟨g, j, none⟩) (Nat.zero_le _) v
  exact ⟨hB.os.trans h.os, hB.tape.trans h.tape, hB.output.trans h.output, Nat.le_trans h.size hB.size, fun k hk hs => by
    rw [Below.heap_setCell _ _ _ _ (by rintro rfl; exact hs hg), h.block k hk hs]⟩

set_option maxRecDepth 100000 in
theorem sortRooms_any (X : List RoomI) (v : Value) (B : Nat) (w : World) (hO : OwnRm w B v X) (hl : X.length ≤ 1000000) :
    Calls Try.prog 41 #[v, .func (.func 42) #[] #[]] w fun e w' => e = .returned (.tuple #[]) ∧ ∃ ys, SortedR X ys ∧ ys.length = X.length ∧ OwnRm w' B v ys ∧ Fr (fun k => v.ownBlock = some k) w w' := by
  rcases hO.2 with ⟨rfl, hn0⟩ | ⟨g, cap1, cur, rfl, h1⟩
  · have hx : X = [] := List.eq_nil_of_length_eq_zero hn0
    subst hx
    refine (sortStable_nil_Room w).mono ?_
    rintro e w2 ⟨rfl, rfl⟩
    exact ⟨rfl, [], ⟨[], List.Perm.nil, List.Pairwise.nil, rfl⟩, rfl, OwnRm.nil _ _, Fr.refl _ _⟩
  · obtain ⟨hB, hnc, hcm1, rest, hrow, hrl⟩ := owns_row hO
    rw [← zipFlat_Room X 0] at hrow
    have hR : SRowK tRoom 57 w w g rest (X.zipIdx 0) := ⟨hrow, Fr.refl _ _⟩
    refine (sortStable_Room _ rest g X.length cap1 w hR (by simp) (by omega) (zipRise_Room X 0)).mono ?_
    rintro e w2 ⟨rfl, d, h2, h3, h4⟩
    have hdl : d.length = X.length := by rw [h3.length_eq]; simp
    refine ⟨rfl, d.map (·.1), ⟨d, h3, h4, rfl⟩, by simp [hdl], ?_, ?_⟩
    · have hro := h2.row
      rw [flatFst_Room] at hro
      have hll : ((d.map (·.1)).flatMap RoomI.cells).length = X.length * 11 := by rw [flatMap_len (f := RoomI.cells) (sz := 11) (fun _ => rfl), List.length_map, hdl]
      have hll2 : ((X.zipIdx 0).flatMap tRoom).length = X.length * 11 := by rw [zipFlat_Room, flatMap_len (f := RoomI.cells) (sz := 11) (fun _ => rfl)]
      rw [zipFlat_Room] at hll2
      unfold OwnRm
      rw [List.length_map, hdl]
      exact owns_of_row (B := B) (size := 11) hB hnc hcm1 hro hll (by
        rw [List.length_append] at hrl ⊢
        omega)
    · refine ⟨h2.fr.os, h2.fr.tape, h2.fr.output, h2.fr.size, fun k hk hs => h2.fr.block k hk (fun e => hs ?_)⟩
      rw [e]; rfl

set_option maxRecDepth 100000 in
theorem backward_nil_stops (d : Nat) (hd : 2 ≤ d) (bS : Nat) (S : Nat → Prop) (w : World) (c1 : w.heap[bS]? = some (.cells #[.slice none 0 0] 58 (0, 0))) :
    SeqStopsK Fence.wide d Try.prog 87 #[.pointer (some ⟨bS, 0, none⟩)] (fun x : PRoom [] => encIR x.1) (Fr S) (fun zs => zs.map (·.1) = backL []) (fun _ => True) 0 w := fun lp J Jx W hW _ _ hY h0 => by
  have hro : Fence.wide.round = none := rfl
  have hm1 : 1 ≤ d := by omega
  have d1 := cell_of_row W bS 0 _ _ _ ((hW.block bS (Array.getElem?_eq_some_iff.1 c1).1).trans c1)
  simp at d1
  clear hY hW
  refine callsIn_of_wp Try.func87 rfl trivial ?_ hro
  simp only [Try.ntmps87, List.size_toArray, List.length_cons, List.length_nil, Nat.reduceAdd, Nat.reduceSub, Array.replicate_succ, Array.replicate_zero, List.push_toArray, List.append_toArray, List.nil_append, List.cons_append]
  have HJ := Lib.hid h0
  clear h0
  gi_wp2
  gi_loopw [3] (fun i wr => i = .int .i64 (-1) ∧ W = wr) (fun _ _ => 0)
  case atStart => exact ⟨rfl, rfl⟩
  case round =>
    obtain ⟨rfl, rfl⟩ := hrel
    gi_wp2
    go_end0
    exact ⟨⟨_, rfl⟩, .inl ⟨[], rfl, HJ.out⟩⟩

theorem backward_own (d : Nat) (hd : 2 ≤ d) (bS B : Nat) (v : Value) (ys : List RoomI) (hl : ys.length ≤ 1000000) (S : Nat → Prop) (hbS : ¬ S bS) (hv : ∀ g, v.ownBlock = some g → ¬ S g) (w : World)
    (c1 : w.heap[bS]? = some (.cells #[v] 58 (0, 0))) (hO : OwnRm w B v ys) :
    SeqStopsK Fence.wide d Try.prog 87 #[.pointer (some ⟨bS, 0, none⟩)] (fun x : PRoom ys => encIR x.1) (Fr S) (fun zs => zs.map (·.1) = backL ys) (fun _ => True) ys.length w := by
  rcases hO.2 with ⟨rfl, hn0⟩ | ⟨g, cap1, cur, rfl, h1⟩
  · have hx : ys = [] := List.eq_nil_of_length_eq_zero hn0
    subst hx
    exact backward_nil_stops d hd bS S w c1
  · obtain ⟨hB, hnc, hcm1, rest, hrow, hrl⟩ := owns_row hO
    exact backward_stops d hd bS g ys.length cap1 ys rest rfl (by omega) S hbS (hv g rfl) w c1 hrow

theorem OwnRm.shape {w : World} {B : Nat} {v : Value} {xs : List RoomI} (h : OwnRm w B v xs) : ∃ ao k cap, v = .slice ao k cap := by
  rcases h.2 with ⟨rfl, _⟩ | ⟨g, cap, cur, rfl, _⟩
  · exact ⟨_, _, _, rfl⟩
  · exact ⟨_, _, _, rfl⟩
theorem backward_any (ao : Option Addr) (k cap : Nat) (w : World) : Calls Try.prog 44 #[.slice ao k cap] w fun e w' =>
    e = .returned (.func (.func 87) #[] #[.pointer (some ⟨w.heap.size, 0, none⟩)]) ∧ w' = w.alloc (.cells #[.slice ao k cap] 58) := by
  go_enter Try.func44, Try.ntmps44
  go_wp2
  go_ret
  exact ⟨rfl, rfl⟩

def mapOf (pre : List IRoom) : List UInt8 → Option Nat := pre.foldl (fun f x => sset f x.2.name.toList x.1) fun _ => none
theorem mapOf_snoc (pre : List IRoom) (x : IRoom) : mapOf (pre ++ [x]) = sset (mapOf pre) x.2.name.toList x.1 := by unfold mapOf; rw [List.foldl_append]; rfl
theorem mapOf_back : ∀ (ys : List RoomI) (k : Nat) (s : List UInt8), mapOf (((ys.zipIdx k).map fun x => (x.2, x.1)).reverse) s = (placeOf ys s).map (· + k)
  | [], _, _ => rfl
  | y :: ys, k, s => by
    rw [List.zipIdx_cons, List.map_cons, List.reverse_cons, mapOf_snoc]
    unfold placeOf
    rw [List.findIdx?_cons]
    by_cases h : s = y.name.toList
    · subst h
      rw [sset_same, if_pos (by simp)]
      simp
    · rw [sset_other _ _ h, mapOf_back ys (k + 1) s, if_neg (by simpa using fun e => h e.symm)]
      unfold placeOf
      cases ys.findIdx? (fun r => r.name.toList == s) with
      | none => rfl
      | some i => simp; omega
theorem mapOf_places (ys : List RoomI) : mapOf (backL ys) = placeOf ys := by
  funext s
  unfold backL
  rw [mapOf_back ys 0 s]
  cases placeOf ys s <;> rfl

def RoomsIn (zs : List RoomI) (k : Nat) : Prop := ∀ r ∈ zs, In60 r.cpu ∧ In60 r.mem ∧ 0 ≤ r.pods ∧ r.pods ≤ k
theorem RoomsIn.mono {zs : List RoomI} {k k' : Nat} (h : RoomsIn zs k) (hk : k ≤ k') : RoomsIn zs k' := fun r hr => by
  obtain ⟨a, b, c, d⟩ := h r hr
  exact ⟨a, b, c, by omega⟩
theorem RoomsIn.set {zs : List RoomI} {k : Nat} (h : RoomsIn zs k) (i : Nat) (r : RoomI) (p : PodV) (hr : r ∈ zs) (hc : In60 p.cpu) (hm : In60 p.mem) : RoomsIn (zs.set i (r.put p)) (k + 1) := fun x hx => by
  rcases List.mem_or_eq_of_mem_set hx with h1 | rfl
  · exact (h.mono (Nat.le_succ k)) x h1
  · obtain ⟨a, b, c, d⟩ := h r hr
    unfold In60 at *
    exact ⟨by simp only [RoomI.put]; omega, by simp only [RoomI.put]; omega, by simp only [RoomI.put]; omega, by simp only [RoomI.put]; omega⟩
structure RmSt (w wr : World) (N M D c : Nat) (v : Value) (ys Z : List RoomI) : Prop where
  ha : RowAtF wr (M + 1) #[.map (some M)] 97
  hr : RowAtF wr N #[v] 58
  hO : OwnRm wr (N + 1) v Z
  hM : MapIs wr Try.prog 9 M c (byStr (fun i : Nat => .int .i64 i) (placeOf ys))
  hD : wr.heap[D]? = some (.deferred (some []))
  hB : Below N w wr
  hs : M + 3 ≤ wr.heap.size
  hDs : D < wr.heap.size
  zl : Z.length = ys.length
theorem RmSt.b {w wr w' : World} {N M D c : Nat} {v : Value} {ys Z : List RoomI} (h : RmSt w wr N M D c v ys Z) (hN : N ≤ wr.heap.size) (hb : Below wr.heap.size wr w') : RmSt w w' N M D c v ys Z :=
  ⟨(hb.block _ h.ha.lt).trans h.ha, (hb.block _ h.hr.lt).trans h.hr, owns_fr (Fr.of_below hb (fun _ => False)) h.hO (fun _ _ h => h), h.hM.below hb, (hb.block _ h.hDs).trans h.hD, h.hB.trans (hb.mono hN), Nat.le_trans h.hs hb.size, Nat.lt_of_lt_of_le h.hDs hb.size, h.zl⟩
theorem RmSt.row {w wr w' : World} {N M D c g cap : Nat} {n : Nat} {ys Z Z' : List RoomI} (h : RmSt w wr N M D c (.slice (some ⟨g, 0, none⟩) n cap) ys Z) (hg : N + 1 ≤ g) (hgM : g < M) (hDM : M ≤ D) (hl : Z'.length = Z.length) (hf : Fr (fun k => k = g) wr w')
    (hrow : ∀ rest, wr.heap[g]? = some (.cells (Z.flatMap RoomI.cells ++ rest).toArray 57 (0, 0)) → w'.heap[g]? = some (.cells (Z'.flatMap RoomI.cells ++ rest).toArray 57 (0, 0))) (hN : N ≤ wr.heap.size) : RmSt w w' N M D c (.slice (some ⟨g, 0, none⟩) n cap) ys Z' := by
  have hn : Z.length = n := by
    rcases h.hO.2 with ⟨h1, _⟩ | ⟨_, _, _, h1, _⟩
    · cases h1
    · simp only [Value.slice.injEq] at h1
      exact h1.2.1.symm
  have hO := h.hO
  subst hn
  obtain ⟨hB, hnc, hcm1, rest, hr, hrl⟩ := owns_row hO
  refine ⟨(hf.block _ h.ha.lt (by omega)).trans h.ha, (hf.block _ h.hr.lt (by omega)).trans h.hr, ?_, h.hM.fr hf (by omega), (hf.block _ h.hDs (by omega)).trans h.hD, h.hB.trans (hf.below hN (fun k hk => by omega)), Nat.le_trans h.hs hf.size, Nat.lt_of_lt_of_le h.hDs hf.size, hl.trans h.zl⟩
  have h1 : (Z.flatMap RoomI.cells).length = Z.length * 11 := flatMap_len (f := RoomI.cells) (sz := 11) (fun _ => rfl) Z
  have h2 : (Z'.flatMap RoomI.cells).length = Z'.length * 11 := flatMap_len (f := RoomI.cells) (sz := 11) (fun _ => rfl) Z'
  unfold OwnRm
  rw [hl]
  exact owns_of_row hB hnc hcm1 (hrow rest hr) (by rw [h2, hl]) (by
    rw [List.length_append] at hrl ⊢
    rw [h2, hl]
    rw [h1] at hrl
    exact hrl)

theorem placeOf_lt {ys : List RoomI} {t : List UInt8} {i : Nat} (h : placeOf ys t = some i) : i < ys.length := by
  unfold placeOf at h
  exact (List.findIdx?_eq_some_iff_getElem.1 h).1
theorem addPod_none {pl : List UInt8 → Option Nat} {zs : List RoomI} {p : ObI} (h : pl p.o.p.node.data.toList = none) : addPod pl zs p = zs := by unfold addPod; rw [h]
theorem addPod_off {pl : List UInt8 → Option Nat} {zs : List RoomI} {p : ObI} (h : onRoom p = false) : addPod pl zs p = zs := by
  unfold addPod
  rw [h]
  split <;> rfl
theorem addPod_on {pl : List UInt8 → Option Nat} {zs : List RoomI} {p : ObI} {i : Nat} (h : pl p.o.p.node.data.toList = some i) (hi : i < zs.length) (ho : onRoom p = true) : addPod pl zs p = zs.set i (zs[i].put p.o.p) := by
  unfold addPod
  rw [h]
  dsimp only
  rw [if_pos ho, List.getElem?_eq_getElem hi]
theorem RmSt.used {w wr : World} {N M D c g cap n : Nat} {ys Z : List RoomI} (h : RmSt w wr N M D c (.slice (some ⟨g, 0, none⟩) n cap) ys Z) (hg : N + 1 ≤ g) (hgM : g < M) (hDM : M ≤ D) (hN : N ≤ wr.heap.size) (i : Nat) (hi : i < Z.length) (x y : Int) (cur : Array Value) (hcur : wr.heap[g]? = some (.cells cur 57 (0, 0))) :
    RmSt w (wr.setRow g (cur.toList.take (i * 11 + 8) ++ [Value.int .i64 x, Value.int .i64 y] ++ cur.toList.drop (i * 11 + 8 + 2)).toArray) N M D c (.slice (some ⟨g, 0, none⟩) n cap) ys (Z.set i { Z[i] with cpu := x, mem := y }) := by
  refine h.row hg hgM hDM (by simp) (Fr.setRow (fun k => k = g) wr g _ rfl) (fun rest hr => ?_) hN
  rw [hcur] at hr
  simp only [Option.some.injEq, Obj.cells.injEq, and_true] at hr
  subst hr
  rw [setRow_heap hcur, List.toList_toArray]
  have hl : (Z.flatMap RoomI.cells).length = Z.length * 11 := flatMap_len (f := RoomI.cells) (sz := 11) (fun _ => rfl) Z
  have hb : i * 11 + 11 ≤ Z.length * 11 := by omega
  rw [take_two_drop _ _ _ _ (by rw [List.length_append, hl]; omega), flatMap_set1 (f := RoomI.cells) (sz := 11) (fun _ => rfl) Z i 8 (.int .i64 x) { Z[i] with cpu := x } rest hi (by omega) rfl,
    flatMap_set1 (f := RoomI.cells) (sz := 11) (fun _ => rfl) (Z.set i { Z[i] with cpu := x }) i 9 (.int .i64 y) { Z[i] with cpu := x, mem := y } rest (by simpa using hi) (by omega) (by rw [List.getElem_set_self]; rfl), List.set_set]
theorem RmSt.count {w wr : World} {N M D c g cap n : Nat} {ys Z : List RoomI} (h : RmSt w wr N M D c (.slice (some ⟨g, 0, none⟩) n cap) ys Z) (hg : N + 1 ≤ g) (hgM : g < M) (hDM : M ≤ D) (hN : N ≤ wr.heap.size) (i : Nat) (hi : i < Z.length) (x : Int) :
    RmSt w (wr.setCell ⟨g, i * 11 + 10, none⟩ (.int .i64 x)) N M D c (.slice (some ⟨g, 0, none⟩) n cap) ys (Z.set i { Z[i] with pods := x }) := by
  refine h.row hg hgM hDM (by simp) ((Fr.refl (fun k => k = g) wr).setc (S := fun k => k = g) rfl _) (fun rest hr => ?_) hN
  rw [row_setCell hr, List.setIfInBounds_toArray, flatMap_set1 (f := RoomI.cells) (sz := 11) (fun _ => rfl) Z i 10 (.int .i64 x) { Z[i] with pods := x } rest hi (by omega) rfl]
theorem RmSt.shape {w wr : World} {N M D c : Nat} {v : Value} {ys Z : List RoomI} (h : RmSt w wr N M D c v ys Z) (hl : 0 < Z.length) : ∃ g cap rest, v = .slice (some ⟨g, 0, none⟩) Z.length cap ∧ N + 1 ≤ g ∧ wr.heap[g]? = some (.cells (Z.flatMap RoomI.cells ++ rest).toArray 57 (0, 0)) := by
  obtain ⟨g, cap, rfl, _⟩ := owns_shape h.hO hl
  obtain ⟨hB, _, _, rest, hr, _⟩ := owns_row h.hO
  exact ⟨g, cap, rest, rfl, hB, hr⟩
theorem row_part {Z : List RoomI} {rest : List Value} {w : World} {g : Nat} (h : w.heap[g]? = some (.cells (Z.flatMap RoomI.cells ++ rest).toArray 57 (0, 0))) {i : Nat} (hi : i < Z.length) (k : Nat) (hk : k < 11) : w.cell? ⟨g, i * 11 + k, none⟩ = Z[i].cells[k]? := by
  rw [cell_of_row w g _ _ _ _ h, List.getElem?_toArray]
  have hl : (Z.flatMap RoomI.cells).length = Z.length * 11 := flatMap_len (f := RoomI.cells) (sz := 11) (fun _ => rfl) Z
  rw [List.getElem?_append_left (by rw [hl]; omega)]
  exact flatMap_get (f := RoomI.cells) (sz := 11) (fun _ => rfl) Z i k hi hk
end Go.Proofs.Ytpbppgfogepjeaa
namespace Go.Proofs.Ytpbppgfogepjeaa
open Go.ChangeShapes Go.WideShapes Go.ChangeAt Go.RowKit Go.Deep Go.Maps
theorem strKeyed : Keyed Try.prog 9 := string_keyed Try.underlying9
theorem strKeyD {s : ByteArray} (h : s.size ≤ maxLen) : keyOf Try.prog 9 (.string s) = some (.string s.data.toList) := WideMaps.keyOf_string_mk Try.underlying9 h
theorem zeroInt (w : World) : (zeroValue 3).run Try.prog w = .ok (.int .i64 0) w := by kernel_rfl
end Go.Proofs.Ytpbppgfogepjeaa
namespace Go.Proofs.Ytpbppgfogepjeaa
open Go.ChangeShapes Go.WideShapes Go.ChangeAt Go.RowKit Go.Deep

theorem rowsIn_wideP {n : Nat} {P : Program} {row : String} {args : Array Value} {w : World} {R : Value → World → Prop} (h : Rows P row args w R) : RowsIn Fence.wide n P row args w R :=
  fun c cs _ => let ⟨v, w', r, s⟩ := h c cs; ⟨v, w', r, stepsIn_wide.2 s⟩

theorem operIn_of {l n : Nat} {P : Program} {o : Oper} {a : Act} {w : World} {K : Act → World → Prop} {Q : Exit → Act → World → Prop} (hnd : ∀ c, o.op ≠ .defer c) (h : o.wp P a w K Q) : o.wpIn (Fence.wide.inRound l) n P a w K Q := by
  refine ⟨fun _ _ => trivial, ?_⟩
  rw [Oper.semAt_eq _ _ _ hnd]
  unfold Oper.wp at h
  generalize (execOp a.eval o).run P w = r at *
  cases r with
  | ok x w' =>
    cases x with
    | value v => exact h
    | skip => exact h
    | defer d => exact h
    | enter f args => exact ⟨(fun h1 => by cases h1), CallsIn.inRound l (callsIn_wide.2 h)⟩
    | row rw args => exact ⟨(fun h1 => by cases h1), rowsIn_wideP h⟩
    | _ => exact absurd h (fun h => h)
  | halt x w' => cases x <;> first | exact h | exact absurd h (fun h => h)

def noDefer (l : List Oper) : Bool := l.all fun o => match o.op with | .defer _ => false | _ => true
theorem noDefer_ok {l : List Oper} (h : noDefer l = true) : ∀ (i : Nat) (o : Oper), l.toArray[i]? = some o → ∀ c, o.op ≠ .defer c := by
  intro i o ho c e
  have := List.all_eq_true.1 h o (List.mem_of_getElem? (by simpa using ho))
  rw [e] at this
  cases this

theorem anyIn_of {l : Nat} {n : Nat} {P : Program} {ops : Array Oper} {Q : Exit → Act → World → Prop} (hnd : ∀ (i : Nat) (o : Oper), ops[i]? = some o → ∀ c, o.op ≠ .defer c) (hQ : ¬ LetsOut Q) :
    ∀ (f : Nat) (D : Array Bool) (a : Act) (w : World), wpAny P .any ops Q f D a w → wpAnyIn (Fence.wide.inRound l) n P .any ops Q f D a w
  | 0, _, _, _, h => h
  | f + 1, D, a, w, h => by
    refine ⟨h.1, fun i hi => ?_⟩
    have h2 := h.2 i hi
    unfold wpOp at h2
    unfold wpOpIn
    cases ho : ops[i]? with
    | none =>
      simp only [ho] at h2 ⊢
      exact anyIn_of hnd hQ f _ a w h2
    | some o =>
      simp only [ho] at h2 ⊢
      split
      · rename_i hw
        rw [if_pos hw] at h2
        rcases h2 with h2 | ⟨_, h2⟩
        · exact Oper.wpIn_mono (fun a w => anyIn_of hnd hQ f _ a w) (operIn_of (hnd i o ho) h2)
        · exact absurd h2 hQ
      · rename_i hw
        rw [if_neg hw] at h2
        exact ⟨fun _ _ => trivial, anyIn_of hnd hQ f _ _ w h2⟩

theorem regionIn_later {l : Nat} {n : Nat} {P : Program} {id : Nat} {ops : List Oper} {Q : Exit → Act → World → Prop} {a : Act} {w : World} (hmx : P.follows .mixedOrders = true) (hnd : noDefer ops = true) (hQ : ¬ LetsOut Q)
    (h : Later P ops Q 0 a { w with drawn := w.drawn + 1 }) : (Code.region id ops.toArray true).wpIn (Fence.wide.inRound l) n P Q a w := by
  refine wpIn_region_any hmx ?_
  have := h (Array.replicate ops.length false) (by simp) (fun i hi => by rw [getD_replicate_false]; simp)
  exact anyIn_of (noDefer_ok hnd) hQ _ _ _ _ (by simpa using this)
end Go.Proofs.Ytpbppgfogepjeaa
namespace Go.Proofs.Ytpbppgfogepjeaa
open Go.ChangeShapes Go.WideShapes Go.ChangeAt Go.RowKit Go.Deep Go.Maps

theorem wpLoud_map_store {P : Program} {C : World → Prop} {bb : Nat} {R : Act → World → Prop} {j : Nat} {r : List Nat} {A : Act} {w : World} {l : List Oper} {o : Oper} (ho : nthOp j l = some o) (hg : o.guard = none) (m x v : Operand) (t : TypeId) (hop : o.op = Op.mapUpdate t m x v) (k e : TypeId) (K : Keyed P k) (ht : P.underlying t = some (.map k e))
    (b n : Nat) (f : Lit → Option Value) (hm : A.eval m = .map (some b)) (hown : MapIs w P k b n f) (hn : n < maxLen) (key val : Value) (kl : Lit) (hx : A.eval x = key) (hv : A.eval v = val) (hkey : keyOf P k key = some kl)
    (h : ∀ w', MapIs w' P k b (if (f kl).isSome then n else n + 1) (fset f kl val) → w.mapTurned w' b → (j < bb → C w') ∧ wpLoud P l.toArray C bb R r (A.put o.dst undef) w') : wpLoud P l.toArray C bb R (j :: r) A w := by
  obtain ⟨w', hrun, r1, r2⟩ := hown.store K ht hn (val := val) hkey
  refine wpLoud_one (nthOp_spec ho) hg ?_
  have e2 : (execOp A.eval o).run P w = .ok .skip w' := by
    unfold execOp
    simp only [hop, hm, hx, hv]
    rw [Sem.run_bind, hrun]
    rfl
  rw [e2]
  exact h w' r1 r2
end Go.Proofs.Ytpbppgfogepjeaa
