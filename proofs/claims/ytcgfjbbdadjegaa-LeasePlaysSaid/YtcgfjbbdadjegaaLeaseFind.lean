/- The model of law 36: where one of a name is. Condition: the list lies in a row of the call's own. -/
import Derived.Test.YtcgfjbbdadjegaaLeaseModel
import Derived.Test.YtcgfjbbdadjegaaList
import Derived.Test.YtcgfjbbdadjegaaLeaseSl
namespace Go.Proofs.Ytcgfjbbdadjegaa
open Go.ChangeShapes Go.WideShapes Go.ChangeAt Go.RowKit Go.Deep

structure ModAt (w : World) (mb B : Nat) (v : Value) (ls : List Lease) : Prop where
  blk : w.heap[mb]? = some (.cells #[v] 29 (0, 0))
  own : w.ownsRow B 34 4 v ls.length (ls.flatMap Lease.cells)

theorem ModAt.fr {S : Nat → Prop} {w w' : World} {mb B : Nat} {v : Value} {ls : List Lease} (h : ModAt w mb B v ls) (hf : Fr S w w') (h1 : ¬ S mb) (h2 : ∀ k, v.ownBlock = some k → ¬ S k) : ModAt w' mb B v ls :=
  ⟨hf.heap h.blk h1, owns_fr hf h.own h2⟩

set_option maxHeartbeats 1000000 in
theorem find_any36 (mb B : Nat) (v : Value) (ls : List Lease) (nm : ByteArray) (w : World) (hM : ModAt w mb B v ls) :
    Calls Try.prog 15 #[.pointer (some ⟨mb, 0, none⟩), .string nm] w fun e w' => e = .returned (.int .i64 (idxOf (nmIs nm) ls 0)) ∧ Below w.heap.size w w' := by
  obtain ⟨ao, cap, rfl, hS, _⟩ := SlR.of_owns hM.own rfl (fun x : Lease => (rfl : x.cells.length = 4))
  have c0 : w.cell? ⟨mb, 0, none⟩ = some (.slice ao ls.length cap) := by rw [cell_of_row w mb 0 _ _ _ hM.blk]; rfl
  have ha := hS.hmax; have hac := hS.hcap
  obtain ⟨n, hn⟩ : ∃ n, ls.length = n := ⟨_, rfl⟩
  rw [hn] at c0 hS hac
  unfold maxLen at ha
  clear hM hn
  go_enter Try.func15, Try.ntmps15
  go_wp2_with fail
  go_loopw [12] (fun i wr => ∃ k : Nat, k ≤ n ∧ i = .int .i64 k ∧ Hid (idxOf (nmIs nm) ls 0 = idxOf (nmIs nm) (ls.drop k) k) ∧ Below w.heap.size w wr) (fun i _ => n - (intOf i).toNat)
  case atStart => exact ⟨0, Nat.zero_le _, rfl, rfl, Below.refl _ _⟩
  case round =>
    obtain ⟨k, hk, rfl, hf, hb⟩ := hrel
    by_cases hlt : k < n
    · obtain ⟨b, off, rfl⟩ := hS.ptr (by decide) (by omega)
      have kx : k < ls.length := by have := hS.hlen; omega
      have hc := (hS.flatKeeps (Keeps.below hb)).flat kx
      have Hd := Lib.hid (idxOf_drop (nmIs nm) kx)
      obtain ⟨x, hx⟩ : ∃ x, ls[k] = x := ⟨_, rfl⟩
      rw [hx] at hc Hd
      have c0 := hc 0 _ rfl
      have c1 := hc 1 _ rfl
      have c2 := hc 2 _ rfl
      have c3 := hc 3 _ rfl
      rw [Nat.add_zero] at c0
      have Hb := Lib.hid (hb.alloc hb.size (.cells #[.string x.name, .string x.holder, .int .i64 x.till, .int .i64 x.turns] 34))
      clear hc hb hx
      obtain ⟨q, hq⟩ : ∃ q, (x.name.toList == nm.toList) = q := ⟨_, rfl⟩
      have Hq : Hid (nmIs nm x = q) := hq
      cases q
      · go_wp2_with fail
        go_roundw
        case rel => exact ⟨k + 1, by omega, by go_num, hf.out.trans (by rw [Hd.out, if_neg (by rw [Hq.out]; decide)]), Hb.out⟩
        case measure => simp [intOf]; omega
      · go_wp2_with fail
        go_ret
        exact ⟨ret_int (by rw [hf.out, Hd.out, if_pos Hq.out]), Hb.out⟩
    · have He := Lib.hid (idxOf_end (nmIs nm) (xs := ls) (k := k) (by rw [hS.hlen]; omega))
      have Hb := Lib.hid hb
      clear hb
      go_wp2
      go_ret
      exact ⟨ret_int (by rw [hf.out, He.out]), Hb.out⟩

/-- What the index tells. -/
theorem found_of {ls : List Lease} {b : Bd} (hS : Sync ls b) (nm : ByteArray) : ∃ x, FoundAt ls b nm (idxOf (nmIs nm) ls 0) x := by
  rcases idxOf_spec (nmIs nm) ls 0 with ⟨h1, h2⟩ | ⟨j, hj, h1, h2, h3⟩
  · rw [h1]
    refine ⟨.zero, fun _ => ⟨rfl, ?_, rfl⟩, fun h => absurd h (by decide)⟩
    rw [hS.f, List.find?_eq_none]
    intro x hx hq
    have := h2 x hx
    rw [nmIs] at this
    have he : x.name.data.toList = nm.data.toList := by simpa using hq
    rw [Lib.toList_data, Lib.toList_data, he] at this
    simp at this
  · have hx : ls[j].name = nm := nmIs_iff.1 h2
    refine ⟨ls[j], fun h => ?_, fun _ => ⟨j, by rw [h1, Nat.zero_add], List.getElem?_eq_getElem hj, hx, ?_⟩⟩
    · rw [h1] at h
      exact absurd h (by omega)
    · rw [← hx]
      exact hS.mem (List.getElem_mem hj)
end Go.Proofs.Ytcgfjbbdadjegaa
