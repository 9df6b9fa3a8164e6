/- The contract of law 17's Few. Condition: the objects read; law 7's Few answers, and its yes says so. || Rooms of one node, and what fits there: plain facts. No condition. || An executor of the program's code on values of its own, for the kernel: trees, values, what they stand for. No condition. -/
import Derived.Test.YtpbppgfogepjeaaLabM
import Derived.Test.YtpbppgfogepjeaaRight07A
import Derived.Deep.QuietTactic
import Derived.Test.YtpbppgfogepjeaaRooms
import Derived.Test.YtpbppgfogepjeaaFrame
namespace Go.Proofs.Ytpbppgfogepjeaa
open Go.ChangeShapes Go.WideShapes Go.ChangeAt Go.RowKit Go.Deep

structure FewOk (F : ObI → Prop) (l : List ObI) : Prop where
  len : l.length ≤ 60
  each : ∀ x ∈ l, F x ∧ checkOf x.kd x.nm x.o = 0
  unlike : l.Pairwise fun x y => ¬ (x.kd = y.kd ∧ x.nm = y.nm)

structure FewTo (F : ObI → Prop) (l : List ObI) (k : Nat) : Prop where
  each : ∀ x ∈ l.take k, F x ∧ checkOf x.kd x.nm x.o = 0
  unlike : (l.take k).Pairwise fun x y => ¬ (x.kd = y.kd ∧ x.nm = y.nm)

set_option maxRecDepth 100000 in
set_option maxHeartbeats 4000000 in
theorem few17_any (F : ObI → Prop) (l : List ObI) (ao : Option Addr) (n cap : Nat) (w : World) (hS : SlR (Flat ObI.cells) 47 w ao n cap l) (hA : ∀ x ∈ l, ObAt w x)
    (hF : ∀ x ∈ l, ∀ wx : World, Calls Try.prog 7 #[.agg x.cells.toArray] wx fun e w' => (∃ b, e = .returned (.bool b) ∧ (b = true → F x)) ∧ Below wx.heap.size wx w') :
    Calls Try.prog 13 #[.slice ao n cap] w fun e w' => (∃ b, e = .returned (.bool b) ∧ (b = true → FewOk F l)) ∧ Below w.heap.size w w' := by
  have hcm := hS.hmax
  have hlc := hS.hcap
  have hlen := hS.hlen
  unfold maxLen at hcm
  have HS := Lib.hid hS
  have HA := Lib.hid hA
  have HF := Lib.hid hF
  have HL := Lib.hid hlen
  clear hS hA hF hlen
  go_enter Try.func13, Try.ntmps13
  go_wp2_with fail
  go_loopw [8] (fun i wr => ∃ k : Nat, k ≤ n ∧ i = .int .i64 k ∧ Hid (FewTo F l k) ∧ Hid (Below w.heap.size w wr)) (fun i _ => n - (intOf i).toNat)
  case atStart => exact ⟨0, Nat.zero_le _, rfl, ⟨by simp, by simp⟩, Below.refl _ _⟩
  case round =>
    obtain ⟨k, hk, rfl, hI, hb⟩ := hrel
    obtain ⟨wq, rfl⟩ : ∃ wq : World, wq = wr := ⟨_, rfl⟩
    by_cases hlt : k < n
    · have hS2 := HS.out.flatKeeps (Keeps.below hb.out)
      obtain ⟨b0, off, rfl⟩ := hS2.ptr (by decide) (by omega)
      have kx : k < l.length := by have := hS2.hlen; omega
      have hcl := hS2.flat kx
      have hxm : l[k] ∈ l := List.getElem_mem kx
      have htk := List.take_succ_eq_append_getElem kx
      obtain ⟨x, hx⟩ : ∃ x, l[k] = x := ⟨_, rfl⟩
      rw [hx] at hcl hxm htk
      have Htk := Lib.hid htk
      have Hcl := Lib.hid hcl
      have Hxm := Lib.hid hxm
      have hsz := hb.out.size
      obtain ⟨W, hW⟩ : ∃ W, wq.alloc (.cells x.cells.toArray 44) = W := ⟨_, rfl⟩
      obtain ⟨bo, hbo⟩ : ∃ bo, wq.heap.size = bo := ⟨_, rfl⟩
      have hbn : Below w.heap.size w W := by rw [← hW]; exact hb.out.alloc hsz _
      have hnc : ∀ j u, x.cells[j]? = some u → W.cell? ⟨bo, j, none⟩ = some u := by rw [← hW, ← hbo]; exact ob_new wq x _
      have HB := Lib.hid hbn
      have HNc := Lib.hid hnc
      clear hcl hS2 htk hx hnc hbn hxm
      go_wp2_with (first
        | ((with_reducible refine at_slot 12 ?_); go_must (refine wpList_load_at aggObj rfl _ rfl ⟨b0, off + k * 47, none⟩ rfl x.cells x.hlen (fun j u hu => by rw [Addr.add_lit]; exact Hcl.out j u hu) ?_))
        | ((with_reducible refine at_store 4 ?_); go_must (refine wpList_store_fresh aggObj rfl _ _ rfl rfl wq _ x.cells.toArray rfl (by rw [hbo]; rfl) rfl (by simp [ObI.hlen]) (by simpa using x.one) ?_; rw [hW]))
        | ((with_reducible refine at_slot 13 ?_); go_must (refine wpList_load_at aggObj rfl _ rfl ⟨bo, 0, none⟩ rfl x.cells x.hlen (fun j u hu => by rw [Addr.add_lit, Nat.zero_add]; exact HNc.out j u hu) ?_)))
      refine (HF.out x Hxm.out _).mono ?_
      rintro e w2 ⟨⟨b, rfl, hbF⟩, hb2⟩
      have HBF := Lib.hid hbF
      have HB2 := Lib.hid (HB.out.trans (hb2.mono HB.out.size))
      have HNc2 : Hid (∀ j u, x.cells[j]? = some u → w2.cell? ⟨bo, j, none⟩ = some u) := fun j u hu => Below.cell_some hb2 (HNc.out j u hu)
      clear hbF hb2 HNc HB
      cases b
      · go_wp2_with fail
        go_ret
        exact ⟨⟨false, rfl, fun h => by cases h⟩, HB2.out⟩
      · have HR := Lib.hid (lawRight_any x.kd x.nm x.ver x.o w2 ((HA.out x Hxm.out).b HB2.out).sh (HA.out x Hxm.out).sm)
        have HFx := Lib.hid (HBF.out rfl)
        clear HBF
        obtain ⟨c, hc⟩ : ∃ c, checkOf x.kd x.nm x.o = c := ⟨_, rfl⟩
        rw [hc] at HR
        have HC := Lib.hid hc
        clear hc
        go_wp2_with (first
          | ((with_reducible refine at_slot 17 ?_); go_must (refine wpList_load_gd aggObj rfl _ rfl ⟨bo, 0, none⟩ rfl x.cells x.hlen (fun j u hu => by rw [Addr.add_lit, Nat.zero_add]; exact HNc2.out j u hu) ?_)))
        refine HR.out.mono ?_
        rintro e w3 ⟨rfl, hb3⟩
        have HB3 := Lib.hid (HB2.out.trans (hb3.mono HB2.out.size))
        have HNc3 : Hid (∀ j u, x.cells[j]? = some u → w3.cell? ⟨bo, j, none⟩ = some u) := fun j u hu => Below.cell_some hb3 (HNc2.out j u hu)
        clear hb3 HNc2 HB2 HR
        by_cases hc0 : c = 0
        · subst hc0
          have hI1 : Hid ((∀ y ∈ l.take (k + 1), F y ∧ checkOf y.kd y.nm y.o = 0)) := by
            rw [Htk.out]
            intro y hy
            rcases List.mem_append.1 hy with h | h
            · exact hI.out.each y h
            · rw [List.mem_singleton.1 h]
              exact ⟨HFx.out, HC.out⟩
          clear HC HFx
          go_wp2_with fail
          have hkk : (k : Int) < 9223372036854775808 := by omega
          go_loopw [5] (fun i wr => ∃ m : Nat, m ≤ k ∧ i = .int .i64 m ∧ Hid (∀ y ∈ l.take m, ¬ (y.kd = x.kd ∧ y.nm = x.nm)) ∧ Hid (Below w3.heap.size w3 wr)) (fun i _ => k - (intOf i).toNat)
          case atStart => exact ⟨0, Nat.zero_le _, rfl, (fun y hy => by simp at hy), Below.refl _ _⟩
          case round =>
            obtain ⟨m, hm, rfl, hJ, hbm⟩ := hrel
            obtain ⟨wz, rfl⟩ : ∃ wz : World, wz = wr := ⟨_, rfl⟩
            by_cases hmk : m < k
            · have hB4 : Below w.heap.size w wz := HB3.out.trans (hbm.out.mono HB3.out.size)
              have hS4 := HS.out.flatKeeps (Keeps.below hB4)
              have my : m < l.length := by have := hS4.hlen; omega
              have hcy := hS4.flat my
              have hty := List.take_succ_eq_append_getElem my
              obtain ⟨y, hy⟩ : ∃ y, l[m] = y := ⟨_, rfl⟩
              rw [hy] at hcy hty
              have c0 := hcy 0 _ y.h0
              have c1 := hcy 1 _ y.h1
              have d0 := Below.cell_some hbm.out (HNc3.out 0 _ x.h0)
              have d1 := Below.cell_some hbm.out (HNc3.out 1 _ x.h1)
              have HTy := Lib.hid hty
              have hmn : m < n := by omega
              simp only [Nat.add_zero] at c0
              clear hS4 hcy hty hy hB4
              have stp : ¬ (y.kd = x.kd ∧ y.nm = x.nm) → Hid (∀ z ∈ l.take (m + 1), ¬ (z.kd = x.kd ∧ z.nm = x.nm)) := fun h => by
                show ∀ z ∈ l.take (m + 1), _
                rw [HTy.out]
                intro z hz
                rcases List.mem_append.1 hz with h' | h'
                · exact hJ.out z h'
                · rw [List.mem_singleton.1 h']; exact h
              obtain ⟨eb, heb⟩ : ∃ b, (y.kd == x.kd) = b := ⟨_, rfl⟩
              cases eb
              · have hs := stp (fun h => by rw [h.1] at heb; simp at heb)
                clear stp
                go_wp2_with fail
                go_quiet (fail)
                go_wp2_with fail
                go_roundw
                case rel => exact ⟨m + 1, by omega, by go_num, hs.out, drewN_below hbm.out _⟩
                case measure => simp [intOf]; omega
              · obtain ⟨sb, hsb⟩ : ∃ b, (y.nm.toList == x.nm.toList) = b := ⟨_, rfl⟩
                cases sb
                · have hs := stp (fun h => by rw [h.2] at hsb; simp at hsb)
                  clear stp
                  go_wp2_with fail
                  go_quiet (fail)
                  go_wp2_with fail
                  go_roundw
                  case rel => exact ⟨m + 1, by omega, by go_num, hs.out, drewN_below hbm.out _⟩
                  case measure => simp [intOf]; omega
                · clear stp
                  go_wp2_with fail
                  go_quiet (fail)
                  go_wp2_with fail
                  go_ret
                  exact ⟨⟨false, rfl, fun h => by cases h⟩, HB3.out.trans ((drewN_below hbm.out _).mono HB3.out.size)⟩
            · obtain rfl : m = k := by omega
              have hF1 : Hid (FewTo F l (m + 1)) := by
                refine ⟨hI1.out, ?_⟩
                rw [Htk.out]
                refine List.pairwise_append.2 ⟨hI.out.unlike, List.pairwise_singleton _ _, fun y hy z hz => ?_⟩
                rw [List.mem_singleton.1 hz]
                exact hJ.out y hy
              have hB4 : Hid (Below w.heap.size w wz) := HB3.out.trans (hbm.out.mono HB3.out.size)
              clear hI1
              go_wp2_with fail
              go_roundw
              case rel => exact ⟨m + 1, by omega, by go_num, hF1.out, hB4.out⟩
              case measure => simp [intOf]; omega
        · have hne : (c != 0) = true := by simpa using hc0
          clear hc0 HC
          go_wp2_with fail
          go_ret
          exact ⟨⟨false, rfl, fun h => by cases h⟩, HB3.out⟩
    · obtain rfl : k = n := by omega
      have hI' := hI
      have hb' := hb
      by_cases h60 : k ≤ 60
      · have hd : decide ((k : Int) ≤ (60 : Int)) = true := decide_eq_true (by omega)
        have H60 := Lib.hid h60
        clear h60
        go_wp2_with fail
        go_ret
        have ht : l.take k = l := List.take_of_length_le (by have := HL.out; omega)
        refine ⟨⟨true, rfl, fun _ => ⟨by have := H60.out; have := HL.out; omega, ?_, ?_⟩⟩, hb'.out⟩
        · have := hI'.out.each; rwa [ht] at this
        · have := hI'.out.unlike; rwa [ht] at this
      · have hd : decide ((k : Int) ≤ (60 : Int)) = false := decide_eq_false (by omega)
        clear h60
        go_wp2_with fail
        go_ret
        exact ⟨⟨false, rfl, fun h => by cases h⟩, hb'.out⟩
end Go.Proofs.Ytpbppgfogepjeaa
namespace Go.Proofs.Ytpbppgfogepjeaa
open Go.ChangeShapes Go.WideShapes Go.ChangeAt Go.RowKit Go.Deep

theorem may_of {x : ObI} (h : checkOf x.kd x.nm x.o = 0) : mayOk x.kd x.o = true := by
  unfold checkOf at h
  split at h
  · cases h
  · split at h
    · cases h
    · split at h
      · rename_i h1
        exact (Bool.and_eq_true_iff.1 h1).1
      · cases h
theorem size_of {c m : Int} (h : sizeOk c m = true) : 0 < c ∧ c ≤ 9007199254740992 ∧ 0 ≤ m ∧ m ≤ 9007199254740992 := by
  unfold sizeOk wholeOk at h
  simp only [Bool.and_eq_true, decide_eq_true_eq] at h
  omega
theorem pod_size {x : ObI} (h : checkOf x.kd x.nm x.o = 0) (hk : x.kd = 1) : 0 < x.o.p.cpu ∧ x.o.p.cpu ≤ 9007199254740992 ∧ 0 ≤ x.o.p.mem ∧ x.o.p.mem ≤ 9007199254740992 := by
  have := may_of h
  rw [hk] at this
  unfold mayOk at this
  rw [if_neg (by decide), if_pos rfl] at this
  unfold podOk wantsOk at this
  simp only [Bool.and_eq_true] at this
  exact size_of this.2.2.2.2.2.1
theorem node_size {x : ObI} (h : checkOf x.kd x.nm x.o = 0) (hk : x.kd = 2) : 0 < x.o.n.cpu ∧ x.o.n.cpu ≤ 9007199254740992 ∧ 0 ≤ x.o.n.mem ∧ x.o.n.mem ≤ 9007199254740992 := by
  have := may_of h
  rw [hk] at this
  unfold mayOk at this
  rw [if_neg (by decide), if_neg (by decide), if_pos rfl] at this
  unfold nodeOk at this
  simp only [Bool.and_eq_true] at this
  exact size_of this.2.1

structure Filled (r0 r : RoomI) (B : Int) (k : Nat) : Prop where
  name : r.name = r0.name
  n : r.n = r0.n
  cpu : 0 ≤ r.cpu ∧ r.cpu ≤ B
  mem : 0 ≤ r.mem ∧ r.mem ≤ B
  pods : 0 ≤ r.pods ∧ r.pods ≤ k
theorem fold_one (r0 : RoomI) (pl : List UInt8 → Option Nat) (hpl : ∀ s i, pl s = some i → i = 0) : ∀ (ps : List ObI) (r : RoomI) (B : Int) (k : Nat), (∀ p ∈ ps, onRoom p = true → 0 ≤ p.o.p.cpu ∧ p.o.p.cpu ≤ 9007199254740992 ∧ 0 ≤ p.o.p.mem ∧ p.o.p.mem ≤ 9007199254740992) →
    Filled r0 r B k → ∃ r', ps.foldl (addPod pl) [r] = [r'] ∧ Filled r0 r' (B + ps.length * 9007199254740992) (k + ps.length)
  | [], r, B, k, _, h => ⟨r, rfl, by simpa using h⟩
  | p :: ps, r, B, k, hp, h => by
    have hp' : ∀ q ∈ ps, onRoom q = true → 0 ≤ q.o.p.cpu ∧ q.o.p.cpu ≤ 9007199254740992 ∧ 0 ≤ q.o.p.mem ∧ q.o.p.mem ≤ 9007199254740992 := fun q hq => hp q (List.mem_cons_of_mem _ hq)
    have hadd : ∃ r1, addPod pl [r] p = [r1] ∧ Filled r0 r1 (B + 9007199254740992) (k + 1) := by
      have hs : Filled r0 r (B + 9007199254740992) (k + 1) := by
        obtain ⟨a, b, c, d, e⟩ := h
        exact ⟨a, b, by omega, by omega, by omega⟩
      cases ho : onRoom p
      · exact ⟨r, addPod_off ho, hs⟩
      · cases hi : pl p.o.p.node.data.toList with
        | none => exact ⟨r, addPod_none hi, hs⟩
        | some i =>
          obtain rfl := hpl _ i hi
          refine ⟨r.put p.o.p, addPod_on hi (by simp) ho, ?_⟩
          obtain ⟨a, b, c, d, e⟩ := h
          have := hp p (List.mem_cons_self ..) ho
          exact ⟨a, b, by simp only [RoomI.put]; omega, by simp only [RoomI.put]; omega, by simp only [RoomI.put]; omega⟩
    obtain ⟨r1, h1, h2⟩ := hadd
    obtain ⟨r', h3, h4⟩ := fold_one r0 pl hpl ps r1 _ _ hp' h2
    refine ⟨r', by rw [List.foldl_cons, h1, h3], ?_⟩
    obtain ⟨a, b, c, d, e⟩ := h4
    have hl : (p :: ps).length = ps.length + 1 := rfl
    exact ⟨a, b, by rw [hl]; omega, by rw [hl]; omega, by rw [hl]; omega⟩
theorem sorted_one {r : RoomI} {ys : List RoomI} (h : SortedR [r] ys) : ys = [r] := by
  obtain ⟨d, h1, _, rfl⟩ := h
  have : d = [(r, 0)] := List.perm_singleton.1 h1
  rw [this]
  rfl
theorem place_one {r : RoomI} {s : List UInt8} {i : Nat} (h : placeOf [r] s = some i) : i = 0 := by
  have := placeOf_lt h
  simp at this
  exact this
theorem rooms_one {F : ObI → Prop} {n : ObI} {ps : List ObI} (hn : n.kd = 2) (h : FewOk F ps) {ys : List RoomI} (hs : SortedR (rooms0 [n]) ys) : ∃ r, ps.foldl (addPod (placeOf ys)) ys = [r] ∧ Filled ⟨n.nm, n.o.n, 0, 0, 0⟩ r 540431955284459520 60 := by
  have h0 : rooms0 [n] = [⟨n.nm, n.o.n, 0, 0, 0⟩] := by
    unfold rooms0
    simp [hn]
  rw [h0] at hs
  obtain rfl := sorted_one hs
  obtain ⟨r, h1, h2⟩ := fold_one ⟨n.nm, n.o.n, 0, 0, 0⟩ (placeOf [⟨n.nm, n.o.n, 0, 0, 0⟩]) (fun s i hi => place_one hi) ps ⟨n.nm, n.o.n, 0, 0, 0⟩ 0 0 (fun p hp ho => by
    have hk : p.kd = 1 := by
      unfold onRoom at ho
      simp only [Bool.and_eq_true] at ho
      exact eq_of_beq ho.1
    have := pod_size (h.each p hp).2 hk
    omega) ⟨rfl, rfl, by simp, by simp, by simp⟩
  refine ⟨r, h1, ?_⟩
  have hl := h.len
  obtain ⟨a, b, c, d, e⟩ := h2
  exact ⟨a, b, by omega, by omega, by omega⟩
theorem put_law {n : ObI} {r : RoomI} {p : PodV} (hf : Filled ⟨n.nm, n.o.n, 0, 0, 0⟩ r 540431955284459520 60) (hp : 0 < p.cpu ∧ p.cpu ≤ 9007199254740992 ∧ 0 ≤ p.mem ∧ p.mem ≤ 9007199254740992) (hfit : fitsB r p = true) :
    r.left.1 - (r.put p).left.1 = p.cpu ∧ r.left.2 - (r.put p).left.2 = p.mem ∧ (r.put p).pods = r.pods + 1 ∧ ((r.put p).take p).cpu = r.cpu ∧ ((r.put p).take p).mem = r.mem ∧ ((r.put p).take p).pods = r.pods := by
  unfold fitsB at hfit
  simp only [Bool.and_eq_true, decide_eq_true_eq] at hfit
  obtain ⟨_, h1, h2⟩ := hfit
  obtain ⟨_, _, c, d, e⟩ := hf
  unfold RoomI.left at *
  simp only [RoomI.put, RoomI.take] at *
  refine ⟨by omega, by omega, trivial, by omega, by omega, by omega⟩
end Go.Proofs.Ytpbppgfogepjeaa
namespace Go.Proofs.Ytpbppgfogepjeaa.E
open Go.ChangeShapes Go.WideShapes Go.ChangeAt Go.RowKit Go.Deep

inductive Tr (α : Type) where
  | tip (v : α)
  | bin (l r : Tr α)
noncomputable def Tr.get {α : Type} (t : Tr α) : Nat → α :=
  Tr.rec (motive := fun _ => Nat → α) (fun v _ => v) (fun _ _ gl gr k => Nat.rec (motive := fun _ => α) (gl (k / 2)) (fun _ _ => gr (k / 2)) (k % 2)) t
noncomputable def Tr.setK {α β : Type} (t : Tr α) : Nat → α → (Tr α → β) → β :=
  Tr.rec (motive := fun _ => Nat → α → (Tr α → β) → β) (fun _ _ x K => K (.tip x))
    (fun l r sl sr k x K => Nat.rec (motive := fun _ => β) (sl (k / 2) x fun l' => K (.bin l' r)) (fun _ _ => sr (k / 2) x fun r' => K (.bin l r')) (k % 2)) t
noncomputable def Tr.set {α : Type} (t : Tr α) (k : Nat) (x : α) : Tr α := t.setK k x id
theorem Tr.get_bin {α : Type} (l r : Tr α) (k : Nat) : (Tr.bin l r).get k = if k % 2 = 0 then l.get (k / 2) else r.get (k / 2) := by
  show Nat.rec (motive := fun _ => α) (l.get (k / 2)) (fun _ _ => r.get (k / 2)) (k % 2) = _
  generalize k % 2 = m
  cases m <;> rfl
theorem Tr.setK_bin {α β : Type} (l r : Tr α) (k : Nat) (x : α) (K : Tr α → β) : (Tr.bin l r).setK k x K = if k % 2 = 0 then l.setK (k / 2) x fun l' => K (.bin l' r) else r.setK (k / 2) x fun r' => K (.bin l r') := by
  show Nat.rec (motive := fun _ => β) (l.setK (k / 2) x fun l' => K (.bin l' r)) (fun _ _ => r.setK (k / 2) x fun r' => K (.bin l r')) (k % 2) = _
  generalize k % 2 = m
  cases m <;> rfl
theorem Tr.setK_eq {α : Type} (t : Tr α) : ∀ {β : Type} (k : Nat) (x : α) (K : Tr α → β), t.setK k x K = K (t.set k x) := by
  induction t with
  | tip v => intro β k x K; rfl
  | bin l r hl hr =>
    intro β k x K
    unfold Tr.set
    rw [setK_bin, setK_bin]
    split
    · rw [hl, hl]; rfl
    · rw [hr, hr]; rfl
theorem Tr.set_bin {α : Type} (l r : Tr α) (k : Nat) (x : α) : (Tr.bin l r).set k x = if k % 2 = 0 then .bin (l.set (k / 2) x) r else .bin l (r.set (k / 2) x) := by
  unfold Tr.set
  rw [setK_bin]
  split
  · rw [setK_eq]; rfl
  · rw [setK_eq]; rfl
inductive Perf {α : Type} : Nat → Tr α → Prop
  | tip (v : α) : Perf 0 (.tip v)
  | bin {n : Nat} {l r : Tr α} : Perf n l → Perf n r → Perf (n + 1) (.bin l r)
theorem Perf.set {α : Type} {d : Nat} {t : Tr α} (h : Perf d t) : ∀ (k : Nat) (x : α), Perf d (t.set k x) := by
  induction h with
  | tip v => intro k x; exact .tip x
  | bin hl hr il ir =>
    intro k x
    rw [Tr.set_bin]
    split
    · exact .bin (il _ _) hr
    · exact .bin hl (ir _ _)
theorem Perf.get_set {α : Type} {d : Nat} {t : Tr α} (h : Perf d t) : ∀ (k : Nat) (x : α) (j : Nat), k < 2 ^ d → j < 2 ^ d → (t.set k x).get j = if j = k then x else t.get j := by
  induction h with
  | tip v =>
    intro k x j hk hj
    have : j = k := by omega
    rw [if_pos this]; rfl
  | @bin n l r hl hr il ir =>
    intro k x j hk hj
    have e : 2 ^ (n + 1) = 2 * 2 ^ n := by rw [Nat.pow_succ]; omega
    rw [Tr.set_bin]
    split
    · rename_i h0
      rw [Tr.get_bin, Tr.get_bin]
      split
      · rename_i h1
        rw [il _ _ _ (by omega) (by omega)]
        by_cases hjk : j = k
        · rw [if_pos hjk, if_pos (by rw [hjk])]
        · rw [if_neg hjk, if_neg (by omega)]
      · rename_i h1
        rw [if_neg (by omega)]
    · rename_i h0
      rw [Tr.get_bin, Tr.get_bin]
      split
      · rename_i h1
        rw [if_neg (by omega)]
      · rename_i h1
        rw [ir _ _ _ (by omega) (by omega)]
        by_cases hjk : j = k
        · rw [if_pos hjk, if_pos (by rw [hjk])]
        · rw [if_neg hjk, if_neg (by omega)]
noncomputable def Tr.full {α : Type} (v : α) (d : Nat) : Tr α := Nat.rec (motive := fun _ => Tr α) (.tip v) (fun _ t => .bin t t) d
theorem Perf.full {α : Type} (v : α) : ∀ d, Perf d (Tr.full v d)
  | 0 => .tip v
  | d + 1 => .bin (Perf.full v d) (Perf.full v d)
theorem Tr.get_full {α : Type} (v : α) : ∀ (d k : Nat), (Tr.full v d).get k = v
  | 0, _ => rfl
  | d + 1, k => by
    show (Tr.bin (Tr.full v d) (Tr.full v d)).get k = v
    rw [Tr.get_bin]
    split <;> exact Tr.get_full v d _

inductive V where
  | undef
  | int (k : IntKind) (n : Int)
  | bool (b : Bool)
  | str (s : List Nat)
  | flt (bits : Nat)
  | ptr (b o : Nat)
  | nilp
  | sl (b o len cap : Nat) (ex : Option Nat)
  | nilsl
  | map (b : Nat)
  | nilmap
  | fn (f : Nat) (caps : List V)
  | nilfn
  | yld (l : Nat)
  | agg (l : List V)
  | tup (l : List V)
  | atom (k : Nat)
  | ifc (t : Nat) (v : V)

structure LI where
  fr : Tr V
  d : Nat
  N : Nat
  ps : List Nat
  assign : Code
  body : Code
  dfr : Nat
structure I where
  blk : Nat → Option Nat
  ext : Nat → Option Nat
  lp : Nat → Option LI
  atom : Nat → Value

def strD (s : List Nat) : ByteArray := ⟨(s.map Nat.toUInt8).toArray⟩
def Bytes (s : List Nat) : Prop := ∀ n ∈ s, n < 256

mutual
def VR (ι : I) : V → Value → Prop
  | .undef, _ => True
  | .int k n, v => v = .int k n
  | .bool b, v => v = .bool b
  | .str s, v => Bytes s ∧ v = .string (strD s)
  | .flt b, v => v = .float .f64 b
  | .ptr b o, v => ∃ c, ι.blk b = some c ∧ v = .pointer (some ⟨c, o, none⟩)
  | .nilp, v => v = .pointer none
  | .sl b o len cap ex, v => ∃ c cp, ι.blk b = some c ∧ v = .slice (some ⟨c, o, none⟩) len cp ∧ len ≤ cap ∧ cap ≤ cp ∧ cp ≤ 9223372036854775807 ∧ (ex = none → cp = cap) ∧ ∀ sz, ex = some sz → ι.ext b = some (o + cp * sz)
  | .nilsl, v => v = .slice none 0 0
  | .map b, v => ∃ c, ι.blk b = some c ∧ v = .map (some c)
  | .nilmap, v => v = .map none
  | .fn f caps, v => ∃ cs : List Value, VRs ι caps cs ∧ v = .func (.func f) #[] cs.toArray
  | .nilfn, v => v = .nilFunc
  | .yld l, v => ∃ c, ι.blk l = some c ∧ v = .func (.yield c) #[] #[]
  | .agg l, v => ∃ cs : List Value, VRs ι l cs ∧ v = .agg cs.toArray
  | .tup l, v => ∃ cs : List Value, VRs ι l cs ∧ v = .tuple cs.toArray
  | .atom k, v => v = ι.atom k ∧ v.oneCell' = true
  | .ifc t u, v => ∃ y, VR ι u y ∧ v = .iface t y
def VRs (ι : I) : List V → List Value → Prop
  | [], cs => cs = []
  | v :: l, cs => ∃ x r, VR ι v x ∧ VRs ι l r ∧ cs = x :: r
end

structure I.Le (ι κ : I) : Prop where
  blk : ∀ b c, ι.blk b = some c → κ.blk b = some c
  ext : ∀ b c, ι.ext b = some c → κ.ext b = some c
  lp : ∀ b c, ι.lp b = some c → κ.lp b = some c
  atom : ι.atom = κ.atom
theorem I.Le.refl (ι : I) : ι.Le ι := ⟨fun _ _ h => h, fun _ _ h => h, fun _ _ h => h, rfl⟩
theorem I.Le.trans {a b c : I} (h : a.Le b) (g : b.Le c) : a.Le c := ⟨fun _ _ q => g.blk _ _ (h.blk _ _ q), fun _ _ q => g.ext _ _ (h.ext _ _ q), fun _ _ q => g.lp _ _ (h.lp _ _ q), h.atom.trans g.atom⟩

mutual
theorem VR.mono {ι κ : I} (h : ι.Le κ) : ∀ {v : V} {x : Value}, VR ι v x → VR κ v x
  | .undef, _, _ => by simp only [VR]
  | .int _ _, _, q => by simp only [VR] at q ⊢; exact q
  | .bool _, _, q => by simp only [VR] at q ⊢; exact q
  | .str _, _, q => by simp only [VR] at q ⊢; exact q
  | .flt _, _, q => by simp only [VR] at q ⊢; exact q
  | .ptr _ _, _, q => by simp only [VR] at q ⊢; obtain ⟨c, e, r⟩ := q; exact ⟨c, h.blk _ _ e, r⟩
  | .nilp, _, q => by simp only [VR] at q ⊢; exact q
  | .sl _ _ _ _ _, _, q => by simp only [VR] at q ⊢; obtain ⟨c, cp, e, r1, r2, r3, r4, r5, r6⟩ := q; exact ⟨c, cp, h.blk _ _ e, r1, r2, r3, r4, r5, fun sz hsz => h.ext _ _ (r6 sz hsz)⟩
  | .nilsl, _, q => by simp only [VR] at q ⊢; exact q
  | .map _, _, q => by simp only [VR] at q ⊢; obtain ⟨c, e, r⟩ := q; exact ⟨c, h.blk _ _ e, r⟩
  | .nilmap, _, q => by simp only [VR] at q ⊢; exact q
  | .fn _ caps, _, q => by simp only [VR] at q ⊢; obtain ⟨cs, e, r⟩ := q; exact ⟨cs, VRs.mono h e, r⟩
  | .nilfn, _, q => by simp only [VR] at q ⊢; exact q
  | .yld _, _, q => by simp only [VR] at q ⊢; obtain ⟨c, e, r⟩ := q; exact ⟨c, h.blk _ _ e, r⟩
  | .agg l, _, q => by simp only [VR] at q ⊢; obtain ⟨cs, e, r⟩ := q; exact ⟨cs, VRs.mono h e, r⟩
  | .tup l, _, q => by simp only [VR] at q ⊢; obtain ⟨cs, e, r⟩ := q; exact ⟨cs, VRs.mono h e, r⟩
  | .atom _, _, q => by simp only [VR] at q ⊢; rw [← h.atom]; exact q
  | .ifc _ _, _, q => by simp only [VR] at q ⊢; obtain ⟨y, e, r⟩ := q; exact ⟨y, VR.mono h e, r⟩
theorem VRs.mono {ι κ : I} (h : ι.Le κ) : ∀ {l : List V} {cs : List Value}, VRs ι l cs → VRs κ l cs
  | [], _, q => by simp only [VRs] at q ⊢; exact q
  | _ :: _, _, q => by simp only [VRs] at q ⊢; obtain ⟨x, r, q1, q2, e⟩ := q; exact ⟨x, r, VR.mono h q1, VRs.mono h q2, e⟩
end

theorem VR.sl_mk {ι : I} {b o len cap c cp : Nat} {ex : Option Nat} (h1 : ι.blk b = some c) (h2 : len ≤ cap) (h3 : cap ≤ cp) (h4 : cp ≤ 9223372036854775807) (h5 : ex = none → cp = cap) (h6 : ∀ sz, ex = some sz → ι.ext b = some (o + cp * sz)) : VR ι (.sl b o len cap ex) (.slice (some ⟨c, o, none⟩) len cp) := by
  unfold VR
  exact ⟨c, cp, h1, rfl, h2, h3, h4, h5, h6⟩
theorem VR.sl_out {ι : I} {b o len cap : Nat} {ex : Option Nat} {x : Value} (h : VR ι (.sl b o len cap ex) x) : ∃ c cp, ι.blk b = some c ∧ x = .slice (some ⟨c, o, none⟩) len cp ∧ len ≤ cap ∧ cap ≤ cp ∧ cp ≤ 9223372036854775807 ∧ (ex = none → cp = cap) ∧ ∀ sz, ex = some sz → ι.ext b = some (o + cp * sz) := by
  unfold VR at h
  exact h
theorem VRs.nil_iff {ι : I} {cs : List Value} : VRs ι [] cs ↔ cs = [] := by simp only [VRs]
theorem VRs.cons_iff {ι : I} {v : V} {l : List V} {cs : List Value} : VRs ι (v :: l) cs ↔ ∃ x r, VR ι v x ∧ VRs ι l r ∧ cs = x :: r := by simp only [VRs]
theorem VRs.length {ι : I} : ∀ {l : List V} {cs : List Value}, VRs ι l cs → cs.length = l.length
  | [], _, q => by rw [VRs.nil_iff.1 q]; rfl
  | _ :: _, _, q => by obtain ⟨x, r, _, q2, rfl⟩ := VRs.cons_iff.1 q; simp [VRs.length q2]
theorem VRs.at_ {ι : I} : ∀ {l : List V} {cs : List Value}, VRs ι l cs → ∀ (i : Nat) (v : V), l[i]? = some v → ∃ x, cs[i]? = some x ∧ VR ι v x
  | [], _, _, i, v, h => by simp at h
  | u :: l, _, q, i, v, h => by
    obtain ⟨x, r, q1, q2, rfl⟩ := VRs.cons_iff.1 q
    cases i with
    | zero => simp at h; subst h; exact ⟨x, rfl, q1⟩
    | succ i => exact VRs.at_ q2 i v h
theorem VRs.append {ι : I} : ∀ {l m : List V} {cs ds : List Value}, VRs ι l cs → VRs ι m ds → VRs ι (l ++ m) (cs ++ ds)
  | [], _, _, _, q, h => by rw [VRs.nil_iff.1 q]; exact h
  | u :: l, m, _, ds, q, h => by
    obtain ⟨x, r, q1, q2, rfl⟩ := VRs.cons_iff.1 q
    exact VRs.cons_iff.2 ⟨x, r ++ ds, q1, VRs.append q2 h, rfl⟩
theorem VRs.take {ι : I} : ∀ (n : Nat) {l : List V} {cs : List Value}, VRs ι l cs → VRs ι (l.take n) (cs.take n)
  | 0, _, _, _ => by simp [VRs]
  | n + 1, [], _, q => by rw [VRs.nil_iff.1 q]; simp [VRs]
  | n + 1, u :: l, _, q => by
    obtain ⟨x, r, q1, q2, rfl⟩ := VRs.cons_iff.1 q
    exact VRs.cons_iff.2 ⟨x, r.take n, q1, VRs.take n q2, rfl⟩
theorem VRs.drop {ι : I} : ∀ (n : Nat) {l : List V} {cs : List Value}, VRs ι l cs → VRs ι (l.drop n) (cs.drop n)
  | 0, _, _, q => q
  | n + 1, [], _, q => by rw [VRs.nil_iff.1 q]; simp [VRs]
  | n + 1, u :: l, _, q => by
    obtain ⟨x, r, q1, q2, rfl⟩ := VRs.cons_iff.1 q
    exact VRs.drop n q2

def bytesOf (s : ByteArray) : List Nat := s.data.toList.map UInt8.toNat
mutual
def ofVal : Value → V
  | .bool b => .bool b
  | .int k n => .int k n
  | .float .f64 b => .flt b
  | .string s => .str (bytesOf s)
  | .pointer none => .nilp
  | .slice none 0 0 => .nilsl
  | .map none => .nilmap
  | .nilFunc => .nilfn
  | .agg ⟨l⟩ => .agg (ofVals l)
  | .tuple ⟨l⟩ => .tup (ofVals l)
  | _ => .undef
def ofVals : List Value → List V
  | [] => []
  | v :: l => ofVal v :: ofVals l
end
theorem bytesOf_lt (s : ByteArray) : Bytes (bytesOf s) := by
  intro n hn
  obtain ⟨u, _, rfl⟩ := List.mem_map.1 hn
  exact u.toNat_lt
theorem strD_bytesOf (s : ByteArray) : strD (bytesOf s) = s := by
  unfold strD bytesOf
  rw [List.map_map]
  have : (Nat.toUInt8 ∘ UInt8.toNat) = id := by funext u; simp
  rw [this, List.map_id]
mutual
theorem ofVal_sound (ι : I) : ∀ v : Value, VR ι (ofVal v) v
  | .bool b => by simp only [ofVal, VR]
  | .int k n => by simp only [ofVal, VR]
  | .float .f64 b => by simp only [ofVal, VR]
  | .float .f32 b => by simp only [ofVal, VR]
  | .complex _ _ _ => by simp only [ofVal, VR]
  | .string s => by simp only [ofVal, VR]; exact ⟨bytesOf_lt s, by rw [strD_bytesOf]⟩
  | .pointer none => by simp only [ofVal, VR]
  | .pointer (some _) => by simp only [ofVal, VR]
  | .slice none 0 0 => by simp only [ofVal, VR]
  | .slice none (_ + 1) _ => by simp only [ofVal, VR]
  | .slice none 0 (_ + 1) => by simp only [ofVal, VR]
  | .slice (some _) _ _ => by simp only [ofVal, VR]
  | .map none => by simp only [ofVal, VR]
  | .map (some _) => by simp only [ofVal, VR]
  | .chan _ => by simp only [ofVal, VR]
  | .func _ _ _ => by simp only [ofVal, VR]
  | .nilFunc => by simp only [ofVal, VR]
  | .iface _ _ => by simp only [ofVal, VR]
  | .nilIface => by simp only [ofVal, VR]
  | .agg ⟨l⟩ => by simp only [ofVal, VR]; exact ⟨l, ofVals_sound ι l, rfl⟩
  | .tuple ⟨l⟩ => by simp only [ofVal, VR]; exact ⟨l, ofVals_sound ι l, rfl⟩
theorem ofVals_sound (ι : I) : ∀ l : List Value, VRs ι (ofVals l) l
  | [] => by simp only [ofVals, VRs]
  | v :: l => by simp only [ofVals, VRs]; exact ⟨v, l, ofVal_sound ι v, ofVals_sound ι l, rfl⟩
end
end Go.Proofs.Ytpbppgfogepjeaa.E
