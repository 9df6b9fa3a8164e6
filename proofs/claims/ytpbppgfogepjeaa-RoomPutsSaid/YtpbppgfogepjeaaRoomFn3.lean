/- The contracts of room's Put and Take. Condition: the numbers don't pass the greatest one; the node's and the pod's rows read. -/
import Derived.Test.YtpbppgfogepjeaaRoomFn2M
namespace Go.Proofs.Ytpbppgfogepjeaa
open Go.ChangeShapes Go.WideShapes Go.ChangeAt Go.RowKit Go.Deep

def zeroRoom : RoomI := ⟨⟨#[]⟩, ⟨⟨#[]⟩, 0, 0, ⟨none, 0, 0, []⟩, ⟨none, 0, 0, []⟩, 0, false⟩, 0, 0, 0⟩
def RoomI.put (r : RoomI) (p : PodV) : RoomI := { r with cpu := min (r.cpu + p.cpu) 1152921504606846976, mem := min (r.mem + p.mem) 1152921504606846976, pods := r.pods + 1 }
def RoomI.take (r : RoomI) (p : PodV) : RoomI := { r with cpu := max (r.cpu - p.cpu) 0, mem := max (r.mem - p.mem) 0, pods := max (r.pods - 1) 0 }

structure RP3 (w0 w : World) (N : Nat) (r : RoomI) (p : PodV) (z : RoomI) : Prop extends RP w0 w N r p where
  res : w.heap[N + 2]? = some (.cells z.cells.toArray 57 (0, 0))
  size3 : N + 3 ≤ w.heap.size
theorem RP3.b {w0 w w' : World} {N : Nat} {r : RoomI} {p : PodV} {z : RoomI} (h : RP3 w0 w N r p z) (hb : Below w.heap.size w w') : RP3 w0 w' N r p z :=
  ⟨h.toRP.b hb, (hb.block (N + 2) (by have := h.size3; omega)).trans h.res, Nat.le_trans h.size3 hb.size⟩
theorem RP3.new (w : World) (r : RoomI) (p : PodV) : RP3 w (((w.alloc (.cells r.cells.toArray 57)).alloc (.cells p.vals.toArray 31)).alloc (.cells zeroRoom.cells.toArray 57)) w.heap.size r p zeroRoom := by
  have h := RP.new w r p
  refine ⟨⟨(Below.heap_alloc _ _ _ (by simp; omega)).trans h.room, (Below.heap_alloc _ _ _ (by simp)).trans h.pod, h.below.alloc (by simp; omega) _, by simp⟩, ?_, by simp⟩
  have := heap_alloc_new ((w.alloc (.cells r.cells.toArray 57)).alloc (.cells p.vals.toArray 31)) (.cells zeroRoom.cells.toArray 57)
  rwa [World.size_alloc, World.size_alloc] at this
theorem RP3.used {w0 w : World} {N : Nat} {r : RoomI} {p : PodV} {z : RoomI} (h : RP3 w0 w N r p z) (x y : Int) : RP3 w0 ((w.setCell ⟨N, 8, none⟩ (.int .i64 x)).setCell ⟨N, 9, none⟩ (.int .i64 y)) N { r with cpu := x, mem := y } p z :=
  ⟨⟨row_setCell (row_setCell h.room _) _, (Below.heap_setCell _ _ _ _ (by simp)).trans ((Below.heap_setCell _ _ _ _ (by simp)).trans h.pod), (h.below.setCell (p := ⟨N, 8, none⟩) (Nat.le_refl _) _).setCell (p := ⟨N, 9, none⟩) (Nat.le_refl _) _, by simpa using h.size⟩,
    (Below.heap_setCell _ _ _ _ (by simp)).trans ((Below.heap_setCell _ _ _ _ (by simp)).trans h.res), by simpa using h.size3⟩
theorem RP3.count {w0 w : World} {N : Nat} {r : RoomI} {p : PodV} {z : RoomI} (h : RP3 w0 w N r p z) (x : Int) : RP3 w0 (w.setCell ⟨N, 10, none⟩ (.int .i64 x)) N { r with pods := x } p z :=
  ⟨⟨row_setCell h.room _, (Below.heap_setCell _ _ _ _ (by simp)).trans h.pod, h.below.setCell (p := ⟨N, 10, none⟩) (Nat.le_refl _) _, by simpa using h.size⟩, (Below.heap_setCell _ _ _ _ (by simp)).trans h.res, by simpa using h.size3⟩
theorem RP3.row {w0 w : World} {N : Nat} {r : RoomI} {p : PodV} {z : RoomI} (h : RP3 w0 w N r p z) : SRowK tRoom 57 w w (N + 2) [] [(z, 0)] := ⟨by simpa [tRoom] using h.res, Fr.refl _ _⟩
theorem RP3.ofRow {w0 w w' : World} {N : Nat} {r : RoomI} {p : PodV} {z z' : RoomI} (h : RP3 w0 w N r p z) (k : SRowK tRoom 57 w w' (N + 2) [] [(z', 0)]) : RP3 w0 w' N r p z' :=
  ⟨⟨(k.fr.block N (by have := h.size3; omega) (by simp)).trans h.room, (k.fr.block (N + 1) (by have := h.size3; omega) (by simp)).trans h.pod, h.below.trans (k.fr.below (by have := h.size3; omega) (fun i hi => by omega)), Nat.le_trans h.size k.fr.size⟩,
    by simpa [tRoom] using k.row, Nat.le_trans h.size3 k.fr.size⟩
theorem RP3.cell {w0 w : World} {N : Nat} {r : RoomI} {p : PodV} {z : RoomI} (h : RP3 w0 w N r p z) (i : Nat) : w.cell? ⟨N + 2, i, none⟩ = z.cells[i]? := by
  rw [cell_of_row w (N + 2) i _ _ _ h.res, List.getElem?_toArray]

set_option maxRecDepth 100000 in
set_option maxHeartbeats 1000000 in
theorem rput_any (r : RoomI) (p : PodV) (w : World) (hN : NodeAt w r.n) (hP : PodAt w p) (hI : r.In) (hqc : In60 p.cpu) (hqm : In60 p.mem) (hpods : In60 r.pods) :
    Calls Try.prog 15 #[.agg r.cells.toArray, .agg p.vals.toArray] w fun e w' => e = .returned (.tuple #[.agg (if fitsB r p = true then r.put p else r).cells.toArray, .bool (fitsB r p)]) ∧ Below w.heap.size w w' := by
  obtain ⟨w2, hw2⟩ : ∃ w2, ((w.alloc (.cells r.cells.toArray 57)).alloc (.cells p.vals.toArray 31)).alloc (.cells zeroRoom.cells.toArray 57) = w2 := ⟨_, rfl⟩
  have hRP := RP3.new w r p
  rw [hw2] at hRP
  have hsz2 : w2.heap.size = w.heap.size + 3 := by rw [← hw2]; simp
  obtain ⟨N, hNs⟩ : ∃ N, w.heap.size = N := ⟨_, rfl⟩
  rw [hNs] at hRP hsz2
  have HR := Lib.hid hRP
  have HFt : Hid (∀ wx : World, Below w.heap.size w wx → _) := fun wx hb => rfits_any r p wx (hN.b hb) (hP.b hb) hI
  have HA := Lib.hid (fun wx => radd_any r.cpu r.mem p.cpu p.mem wx hI.cpu hI.mem hqc hqm)
  have hbw : Hid (Below w.heap.size w w2) := by have := hRP.below; show Below _ _ _; rw [hNs]; exact this
  have HPd := Lib.hid hpods
  clear hN hP hI hqc hqm hRP hpods
  obtain ⟨fb, hfb⟩ : ∃ c, fitsB r p = c := ⟨_, rfl⟩
  rw [hfb] at HFt ⊢
  clear hfb
  have cr := HR.out.toRP.roomAt
  have cp := HR.out.toRP.podAt
  obtain ⟨rc, hrc⟩ : ∃ l, r.cells = l := ⟨_, rfl⟩
  obtain ⟨pc, hpc⟩ : ∃ l, p.vals = l := ⟨_, rfl⟩
  have hrl : rc.length = 11 := by rw [← hrc]; rfl
  have hpl : pc.length = 10 := by rw [← hpc]; rfl
  have hro : rc.all (fun u => u.oneCell') = true := by rw [← hrc]; rfl
  have hpo : pc.all (fun u => u.oneCell') = true := by rw [← hpc]; rfl
  have Hrc := Lib.hid hrc
  have Hpc := Lib.hid hpc
  have hzr : zeroRoom.cells.toArray = #[.string ⟨#[]⟩, .string ⟨#[]⟩, .int .i64 0, .int .i64 0, .slice none 0 0, .slice none 0 0, .int .i64 0, .bool false, .int .i64 0, .int .i64 0, .int .i64 0] := rfl
  rw [hrc, hpc] at HFt hw2
  rw [hrc] at cr
  rw [hpc] at cp
  rw [hzr] at hw2
  have hpostr : Hid (r.cells = rc) := hrc
  rw [hrc, hpc]
  clear hrc hpc hzr
  go_enter Try.func15, Try.ntmps15
  go_wp2_with (first
    | ((with_reducible refine at_slot 6 ?_); go_must (refine wpList_load_at aggRoom rfl _ rfl ⟨N, 0, none⟩ rfl rc hrl cr ?_))
    | ((with_reducible refine at_slot 7 ?_); go_must (refine wpList_load_at aggPod rfl _ rfl ⟨N + 1, 0, none⟩ rfl pc hpl cp ?_)))
  refine (HFt.out _ hbw.out).mono ?_
  rintro e w3 ⟨rfl, hb3⟩
  have HR3 := Lib.hid (HR.out.b hb3)
  clear hb3 cr cp HFt
  cases fb
  · have cr3 := HR3.out.toRP.roomAt
    rw [Hrc.out] at cr3
    go_wp2_with (first
      | ((with_reducible refine at_slot 10 ?_); go_must (refine wpList_load_at aggRoom rfl _ rfl ⟨N, 0, none⟩ rfl rc hrl cr3 ?_))
      | ((with_reducible refine at_store 4 ?_); go_must (refine wpList_store_el aggRoom lenRoom oneRoom rfl _ _ rfl rfl HR3.out.row (i := 0) (by simp) (r, 0) rfl (by rw [← Hrc.out]; rfl) ?_; intro w4 hS4; have HR4 := Lib.hid (HR3.out.ofRow hS4); clear hS4)))
    have q0 : w4.cell? ⟨N + 1 + 1, 0, none⟩ = some (.string r.name) := HR4.out.cell 0
    have q1 : w4.cell? ⟨N + 1 + 1, 1, none⟩ = some (.string r.n.group) := HR4.out.cell 1
    have q2 : w4.cell? ⟨N + 1 + 1, 2, none⟩ = some (.int .i64 r.n.cpu) := HR4.out.cell 2
    have q3 : w4.cell? ⟨N + 1 + 1, 3, none⟩ = some (.int .i64 r.n.mem) := HR4.out.cell 3
    have q4 : w4.cell? ⟨N + 1 + 1, 4, none⟩ = some (.slice r.n.L.ao r.n.L.la r.n.L.ca) := HR4.out.cell 4
    have q5 : w4.cell? ⟨N + 1 + 1, 5, none⟩ = some (.slice r.n.T.ao r.n.T.la r.n.T.ca) := HR4.out.cell 5
    have q6 : w4.cell? ⟨N + 1 + 1, 6, none⟩ = some (.int .i64 r.n.since) := HR4.out.cell 6
    have q7 : w4.cell? ⟨N + 1 + 1, 7, none⟩ = some (.bool r.n.closed) := HR4.out.cell 7
    have q8 : w4.cell? ⟨N + 1 + 1, 8, none⟩ = some (.int .i64 r.cpu) := HR4.out.cell 8
    have q9 : w4.cell? ⟨N + 1 + 1, 9, none⟩ = some (.int .i64 r.mem) := HR4.out.cell 9
    have q10 : w4.cell? ⟨N + 1 + 1, 10, none⟩ = some (.int .i64 r.pods) := HR4.out.cell 10
    exact bodyPost_ret (v := .tuple #[.agg #[.string r.name, .string r.n.group, .int .i64 r.n.cpu, .int .i64 r.n.mem, .slice r.n.L.ao r.n.L.la r.n.L.ca, .slice r.n.T.ao r.n.T.la r.n.T.ca, .int .i64 r.n.since, .bool r.n.closed, .int .i64 r.cpu, .int .i64 r.mem, .int .i64 r.pods], .bool false]) (by simp [results, Try.results15, go_sem, q0, q1, q2, q3, q4, q5, q6, q7, q8, q9, q10]) rfl ⟨rfl, HR4.out.below⟩
  · obtain ⟨ac, hac⟩ : ∃ x, min (r.cpu + p.cpu) 1152921504606846976 = x := ⟨_, rfl⟩
    obtain ⟨am, ham⟩ : ∃ x, min (r.mem + p.mem) 1152921504606846976 = x := ⟨_, rfl⟩
    obtain ⟨pp, hpp⟩ : ∃ x, r.pods + 1 = x := ⟨_, rfl⟩
    have hput : r.put p = { r with cpu := ac, mem := am, pods := pp } := by unfold RoomI.put; rw [hac, ham, hpp]
    have gw : IntKind.i64.wrap pp = pp := IntWalk.i64_in _ (by have := HPd.out; unfold In60 at this; omega)
    rw [hac, ham] at HA
    have ca := block_at HR3.out.room (i := 8) (n := 2) [.int .i64 r.cpu, .int .i64 r.mem] rfl
    have cb := block_at HR3.out.pod (i := 4) (n := 2) [.int .i64 p.cpu, .int .i64 p.mem] rfl
    have Hput := Lib.hid hput
    clear hac ham hput
    go_wp2_with (first
      | ((with_reducible refine at_slot 12 ?_); go_must (refine wpList_load_at aggRes rfl _ rfl ⟨N, 8, none⟩ rfl _ rfl ca ?_))
      | ((with_reducible refine at_slot 14 ?_); go_must (refine wpList_load_at aggRes rfl _ rfl ⟨N + 1, 4, none⟩ rfl _ rfl cb ?_)))
    refine (HA.out _).mono ?_
    rintro e w4 ⟨rfl, hb4⟩
    have HR4 := HR3.out.b hb4
    have k8 : w4.cell? ⟨N, 8, none⟩ = some (.int .i64 r.cpu) := cell_of_row w4 N 8 _ _ _ HR4.room
    have k9 : w4.cell? ⟨N, 9, none⟩ = some (.int .i64 r.mem) := cell_of_row w4 N 9 _ _ _ HR4.room
    have f8 := row_free HR4.room 8
    have f9 := row_free HR4.room 9
    obtain ⟨w5, hw5⟩ : ∃ w5, (w4.setCell ⟨N, 8, none⟩ (.int .i64 ac)).setCell ⟨N, 9, none⟩ (.int .i64 am) = w5 := ⟨_, rfl⟩
    have HR5 := HR4.used ac am
    rw [hw5] at HR5
    have k10 : w5.cell? ⟨N, 10, none⟩ = some (.int .i64 r.pods) := cell_of_row w5 N 10 _ _ _ HR5.room
    have f10 := row_free HR5.room 10
    obtain ⟨w6, hw6⟩ : ∃ w6, w5.setCell ⟨N, 10, none⟩ (.int .i64 pp) = w6 := ⟨_, rfl⟩
    have HR6 := HR5.count pp
    rw [hw6] at HR6
    have cr6 : ∀ j u, (⟨r.name, r.n, ac, am, pp⟩ : RoomI).cells[j]? = some u → w6.cell? ((⟨N, 0, none⟩ : Addr).add j) = some u := HR6.toRP.roomAt
    have HS : Hid (RP3 w w6 N (⟨r.name, r.n, ac, am, pp⟩ : RoomI) p zeroRoom) := HR6
    obtain ⟨rd, hrd⟩ : ∃ l, (⟨r.name, r.n, ac, am, pp⟩ : RoomI).cells = l := ⟨_, rfl⟩
    have hrdl : rd.length = 11 := by rw [← hrd]; rfl
    have Hrd := Lib.hid hrd
    rw [hrd] at cr6
    clear hb4 HR4 HR5 HR6 ca cb HA hrd HR3
    go_wp2_with (first
      | ((with_reducible refine at_slot 21 ?_); go_must (refine wpList_load_at aggRoom rfl _ rfl ⟨N, 0, none⟩ rfl rd hrdl cr6 ?_))
      | ((with_reducible refine at_store 4 ?_); go_must (refine wpList_store_el aggRoom lenRoom oneRoom rfl _ _ rfl rfl HS.out.row (i := 0) (by simp) ((⟨r.name, r.n, ac, am, pp⟩ : RoomI), 0) rfl (by rw [← Hrd.out]; rfl) ?_; intro w7 hS7; have HR7 := Lib.hid (HS.out.ofRow hS7); clear hS7)))
    have q0 : w7.cell? ⟨N + 1 + 1, 0, none⟩ = some (.string r.name) := HR7.out.cell 0
    have q1 : w7.cell? ⟨N + 1 + 1, 1, none⟩ = some (.string r.n.group) := HR7.out.cell 1
    have q2 : w7.cell? ⟨N + 1 + 1, 2, none⟩ = some (.int .i64 r.n.cpu) := HR7.out.cell 2
    have q3 : w7.cell? ⟨N + 1 + 1, 3, none⟩ = some (.int .i64 r.n.mem) := HR7.out.cell 3
    have q4 : w7.cell? ⟨N + 1 + 1, 4, none⟩ = some (.slice r.n.L.ao r.n.L.la r.n.L.ca) := HR7.out.cell 4
    have q5 : w7.cell? ⟨N + 1 + 1, 5, none⟩ = some (.slice r.n.T.ao r.n.T.la r.n.T.ca) := HR7.out.cell 5
    have q6 : w7.cell? ⟨N + 1 + 1, 6, none⟩ = some (.int .i64 r.n.since) := HR7.out.cell 6
    have q7 : w7.cell? ⟨N + 1 + 1, 7, none⟩ = some (.bool r.n.closed) := HR7.out.cell 7
    have q8 : w7.cell? ⟨N + 1 + 1, 8, none⟩ = some (.int .i64 ac) := HR7.out.cell 8
    have q9 : w7.cell? ⟨N + 1 + 1, 9, none⟩ = some (.int .i64 am) := HR7.out.cell 9
    have q10 : w7.cell? ⟨N + 1 + 1, 10, none⟩ = some (.int .i64 pp) := HR7.out.cell 10
    exact bodyPost_ret (v := .tuple #[.agg #[.string r.name, .string r.n.group, .int .i64 r.n.cpu, .int .i64 r.n.mem, .slice r.n.L.ao r.n.L.la r.n.L.ca, .slice r.n.T.ao r.n.T.la r.n.T.ca, .int .i64 r.n.since, .bool r.n.closed, .int .i64 ac, .int .i64 am, .int .i64 pp], .bool true]) (by simp [results, Try.results15, go_sem, q0, q1, q2, q3, q4, q5, q6, q7, q8, q9, q10]) rfl ⟨by rw [Hput.out]; rfl, HR7.out.below⟩

set_option maxRecDepth 100000 in
set_option maxHeartbeats 1000000 in
theorem rtake_any (r : RoomI) (p : PodV) (w : World) (hI : r.In) (hqc : In60 p.cpu) (hqm : In60 p.mem) (hpods : In60 r.pods) :
    Calls Try.prog 18 #[.agg r.cells.toArray, .agg p.vals.toArray] w fun e w' => e = .returned (.agg (r.take p).cells.toArray) ∧ Below w.heap.size w w' := by
  obtain ⟨w2, hw2⟩ : ∃ w2, ((w.alloc (.cells r.cells.toArray 57)).alloc (.cells p.vals.toArray 31)).alloc (.cells zeroRoom.cells.toArray 57) = w2 := ⟨_, rfl⟩
  have hRP := RP3.new w r p
  rw [hw2] at hRP
  have hsz2 : w2.heap.size = w.heap.size + 3 := by rw [← hw2]; simp
  obtain ⟨N, hNs⟩ : ∃ N, w.heap.size = N := ⟨_, rfl⟩
  rw [hNs] at hRP hsz2
  have HR := Lib.hid hRP
  have HA := Lib.hid (fun wx => rless_any r.cpu r.mem p.cpu p.mem wx hI.cpu hI.mem hqc hqm)
  obtain ⟨ac, hac⟩ : ∃ x, max (r.cpu - p.cpu) 0 = x := ⟨_, rfl⟩
  obtain ⟨am, ham⟩ : ∃ x, max (r.mem - p.mem) 0 = x := ⟨_, rfl⟩
  obtain ⟨ps, hps⟩ : ∃ x, r.pods - 1 = x := ⟨_, rfl⟩
  obtain ⟨pp, hpp⟩ : ∃ x, max ps 0 = x := ⟨_, rfl⟩
  have hput : r.take p = { r with cpu := ac, mem := am, pods := pp } := by unfold RoomI.take; rw [hac, ham, hps, hpp]
  have gw : IntKind.i64.wrap ps = ps := IntWalk.i64_in _ (by unfold In60 at hpods; omega)
  rw [hac, ham] at HA
  rw [hput]
  clear hac ham hput hpods
  have ca := block_at HR.out.room (i := 8) (n := 2) [.int .i64 r.cpu, .int .i64 r.mem] rfl
  have cb := block_at HR.out.pod (i := 4) (n := 2) [.int .i64 p.cpu, .int .i64 p.mem] rfl
  obtain ⟨rc, hrc⟩ : ∃ l, r.cells = l := ⟨_, rfl⟩
  obtain ⟨pc, hpc⟩ : ∃ l, p.vals = l := ⟨_, rfl⟩
  have hro : rc.all (fun u => u.oneCell') = true := by rw [← hrc]; rfl
  have hpo : pc.all (fun u => u.oneCell') = true := by rw [← hpc]; rfl
  have hzr : zeroRoom.cells.toArray = #[.string ⟨#[]⟩, .string ⟨#[]⟩, .int .i64 0, .int .i64 0, .slice none 0 0, .slice none 0 0, .int .i64 0, .bool false, .int .i64 0, .int .i64 0, .int .i64 0] := rfl
  rw [hrc, hpc, hzr] at hw2
  rw [hrc, hpc]
  clear hrc hpc hzr hI hqc hqm hRP
  go_enter Try.func18, Try.ntmps18
  go_wp2_with (first
    | ((with_reducible refine at_slot 6 ?_); go_must (refine wpList_load_at aggRes rfl _ rfl ⟨N, 8, none⟩ rfl _ rfl ca ?_))
    | ((with_reducible refine at_slot 8 ?_); go_must (refine wpList_load_at aggRes rfl _ rfl ⟨N + 1, 4, none⟩ rfl _ rfl cb ?_)))
  refine (HA.out _).mono ?_
  rintro e w4 ⟨rfl, hb4⟩
  have HR4 := HR.out.b hb4
  have k8 : w4.cell? ⟨N, 8, none⟩ = some (.int .i64 r.cpu) := cell_of_row w4 N 8 _ _ _ HR4.room
  have k9 : w4.cell? ⟨N, 9, none⟩ = some (.int .i64 r.mem) := cell_of_row w4 N 9 _ _ _ HR4.room
  have f8 := row_free HR4.room 8
  have f9 := row_free HR4.room 9
  obtain ⟨w5, hw5⟩ : ∃ w5, (w4.setCell ⟨N, 8, none⟩ (.int .i64 ac)).setCell ⟨N, 9, none⟩ (.int .i64 am) = w5 := ⟨_, rfl⟩
  have HR5 := HR4.used ac am
  rw [hw5] at HR5
  have k10 : w5.cell? ⟨N, 10, none⟩ = some (.int .i64 r.pods) := cell_of_row w5 N 10 _ _ _ HR5.room
  have f10 := row_free HR5.room 10
  obtain ⟨w6, hw6⟩ : ∃ w6, w5.setCell ⟨N, 10, none⟩ (.int .i64 pp) = w6 := ⟨_, rfl⟩
  have HR6 := HR5.count pp
  rw [hw6] at HR6
  have cr6 : ∀ j u, (⟨r.name, r.n, ac, am, pp⟩ : RoomI).cells[j]? = some u → w6.cell? ((⟨N, 0, none⟩ : Addr).add j) = some u := HR6.toRP.roomAt
  have HS : Hid (RP3 w w6 N (⟨r.name, r.n, ac, am, pp⟩ : RoomI) p zeroRoom) := HR6
  obtain ⟨rd, hrd⟩ : ∃ l, (⟨r.name, r.n, ac, am, pp⟩ : RoomI).cells = l := ⟨_, rfl⟩
  have hrdl : rd.length = 11 := by rw [← hrd]; rfl
  have Hrd := Lib.hid hrd
  rw [hrd] at cr6
  clear hb4 HR4 HR5 HR6 ca cb HA hrd HR
  go_wp2_with (first
    | ((with_reducible refine at_slot 16 ?_); go_must (refine wpList_load_at aggRoom rfl _ rfl ⟨N, 0, none⟩ rfl rd hrdl cr6 ?_))
    | ((with_reducible refine at_store 4 ?_); go_must (refine wpList_store_el aggRoom lenRoom oneRoom rfl _ _ rfl rfl HS.out.row (i := 0) (by simp) ((⟨r.name, r.n, ac, am, pp⟩ : RoomI), 0) rfl (by rw [← Hrd.out]; rfl) ?_; intro w7 hS7; have HR7 := Lib.hid (HS.out.ofRow hS7); clear hS7)))
  have q0 : w7.cell? ⟨N + 1 + 1, 0, none⟩ = some (.string r.name) := HR7.out.cell 0
  have q1 : w7.cell? ⟨N + 1 + 1, 1, none⟩ = some (.string r.n.group) := HR7.out.cell 1
  have q2 : w7.cell? ⟨N + 1 + 1, 2, none⟩ = some (.int .i64 r.n.cpu) := HR7.out.cell 2
  have q3 : w7.cell? ⟨N + 1 + 1, 3, none⟩ = some (.int .i64 r.n.mem) := HR7.out.cell 3
  have q4 : w7.cell? ⟨N + 1 + 1, 4, none⟩ = some (.slice r.n.L.ao r.n.L.la r.n.L.ca) := HR7.out.cell 4
  have q5 : w7.cell? ⟨N + 1 + 1, 5, none⟩ = some (.slice r.n.T.ao r.n.T.la r.n.T.ca) := HR7.out.cell 5
  have q6 : w7.cell? ⟨N + 1 + 1, 6, none⟩ = some (.int .i64 r.n.since) := HR7.out.cell 6
  have q7 : w7.cell? ⟨N + 1 + 1, 7, none⟩ = some (.bool r.n.closed) := HR7.out.cell 7
  have q8 : w7.cell? ⟨N + 1 + 1, 8, none⟩ = some (.int .i64 ac) := HR7.out.cell 8
  have q9 : w7.cell? ⟨N + 1 + 1, 9, none⟩ = some (.int .i64 am) := HR7.out.cell 9
  have q10 : w7.cell? ⟨N + 1 + 1, 10, none⟩ = some (.int .i64 pp) := HR7.out.cell 10
  exact bodyPost_ret (v := .agg #[.string r.name, .string r.n.group, .int .i64 r.n.cpu, .int .i64 r.n.mem, .slice r.n.L.ao r.n.L.la r.n.L.ca, .slice r.n.T.ao r.n.T.la r.n.T.ca, .int .i64 r.n.since, .bool r.n.closed, .int .i64 ac, .int .i64 am, .int .i64 pp]) (by simp [results, Try.results18, go_sem, q0, q1, q2, q3, q4, q5, q6, q7, q8, q9, q10]) rfl ⟨rfl, by rw [hNs]; exact HR7.out.below⟩
end Go.Proofs.Ytpbppgfogepjeaa
