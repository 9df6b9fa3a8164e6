/- The executor's operations on memory, one by one, and that they are the program's. No condition. || The executor's single operations are the program's: variables, structs, rows. No condition. -/
import Derived.Test.YtoamjihchmokcaaE5M
namespace Go.Proofs.Ytoamjihchmokcaa.E
open Go.ChangeShapes Go.WideShapes Go.ChangeAt Go.RowKit Go.Deep

def nthV : List V → Nat → Option V
  | [], _ => none
  | v :: _, 0 => some v
  | _ :: l, n + 1 => nthV l n
def nthF : List (Nat × Nat × Nat) → Nat → Option (Nat × Nat × Nat)
  | [], _ => none
  | v :: _, 0 => some v
  | _ :: l, n + 1 => nthF l n
theorem nthV_eq : ∀ (l : List V) (i : Nat), nthV l i = l[i]?
  | [], i => by simp [nthV]
  | v :: l, 0 => rfl
  | v :: l, n + 1 => by simp [nthV, nthV_eq l n]
theorem nthF_eq : ∀ (l : List (Nat × Nat × Nat)) (i : Nat), nthF l i = l[i]?
  | [], i => by simp [nthF]
  | v :: l, 0 => rfl
  | v :: l, n + 1 => by simp [nthF, nthF_eq l n]

def fillV (place : Nat → Option (Nat × Nat)) (cells : List V) : List (Nat × V) → Option (List V)
  | [] => some cells
  | p :: r => match place p.1 with
    | none => none
    | some q => match cellsV p.2 with
      | none => none
      | some vs => match Nat.beq vs.length q.2 with
        | false => none
        | true => match segV q.1 vs cells with
          | none => none
          | some c => fillV place c r
theorem foldl_seg : ∀ (vs : List Value) (off k : Nat) (cs : Array Value), off + k + vs.length ≤ cs.size →
    ((vs.zipIdx k).foldl (fun cs (p : Value × Nat) => cs.setIfInBounds (off + p.2) p.1) cs).toList = cs.toList.take (off + k) ++ vs ++ cs.toList.drop (off + k + vs.length)
  | [], off, k, cs, _ => by simp
  | v :: vs, off, k, cs, h => by
    rw [List.zipIdx_cons, List.foldl_cons, foldl_seg vs off (k + 1) _ (by simp at h ⊢; omega)]
    simp only [List.length_cons] at h ⊢
    have hlt : off + k < cs.toList.length := by simp; omega
    rw [Array.toList_setIfInBounds, show off + (k + 1) = off + k + 1 by omega, show off + k + 1 + vs.length = off + k + (vs.length + 1) by omega]
    rw [List.drop_set_of_lt (by omega), List.take_set, List.set_eq_take_append_cons_drop]
    have : off + k < (cs.toList.take (off + k + 1)).length := by rw [List.length_take]; omega
    rw [if_pos this, List.take_take, Nat.min_eq_left (by omega)]
    have hd : (cs.toList.take (off + k + 1)).drop (off + k + 1) = [] := by rw [List.drop_eq_nil_iff]; rw [List.length_take]; omega
    rw [hd]
    simp
theorem fill_sound {ι : I} (place : Nat → Option (Nat × Nat)) : ∀ (parts : List (Nat × V)) (xs : List (Nat × Value)) (cells m : List V) (cs : List Value), fillV place cells parts = some m → VRs ι cells cs → xs.map (·.1) = parts.map (·.1) → VRs ι (parts.map (·.2)) (xs.map (·.2)) →
    ∃ ms : List Value, Instr.fill place cs.toArray xs = some ms.toArray ∧ VRs ι m ms
  | [], xs, cells, m, cs, h, hc, h1, _ => by
    cases h
    simp only [List.map_nil, List.map_eq_nil_iff] at h1
    subst h1
    exact ⟨cs, rfl, hc⟩
  | p :: r, [], _, _, _, _, _, h1, _ => by simp at h1
  | p :: r, x :: xs, cells, m, cs, h, hc, h1, h2 => by
    simp only [List.map_cons, List.cons.injEq] at h1
    obtain ⟨y, q, g1, g2, e⟩ := VRs.cons_iff.1 h2
    simp only [List.map_cons, List.cons.injEq] at e
    obtain ⟨rfl, rfl⟩ := e
    unfold fillV at h
    split at h
    · cases h
    · rename_i pl hpl
      split at h
      · cases h
      · rename_i vs hvs
        split at h
        · cases h
        · rename_i hlen
          have hlen := Nat.eq_of_beq_eq_true hlen
          split at h
          · cases h
          · rename_i c hseg
            have hx := cellsV_sound hvs g1
            have hl := hx.length
            have hcl := hc.length
            obtain ⟨_, hb⟩ := segV_eq hseg
            have hv := VRs.seg hseg hx hc
            obtain ⟨ms, e1, e2⟩ := fill_sound place r xs c m _ h hv h1.2 g2
            refine ⟨ms, ?_, e2⟩
            unfold Instr.fill
            rw [h1.1, hpl]
            dsimp only
            have hsz : x.2.cells.size = pl.2 := by rw [← Array.length_toList, hl, hlen]
            rw [if_neg (by
              simp only [ne_eq, decide_not, Bool.or_eq_true, Bool.not_eq_eq_eq_not, Bool.not_true, decide_eq_false_iff_not, decide_eq_true_eq, List.size_toArray]
              omega)]
            have hf := foldl_seg x.2.cells.toList pl.1 0 cs.toArray (by simp at hl ⊢; omega)
            have e3 : Array.foldl (fun cs (p : Value × Nat) => cs.setIfInBounds (pl.1 + p.2) p.1) cs.toArray x.2.cells.zipIdx = (cs.take pl.1 ++ x.2.cells.toList ++ cs.drop (pl.1 + x.2.cells.toList.length)).toArray := by
              apply Array.ext'
              rw [← Array.foldl_toList, Array.toList_zipIdx, hf]
              simp
            have e4 := e1
            rw [← e3] at e4
            exact e4
end Go.Proofs.Ytoamjihchmokcaa.E
namespace Go.Proofs.Ytoamjihchmokcaa.E
open Go.ChangeShapes Go.WideShapes Go.ChangeAt Go.RowKit Go.Deep

section
variable {P : Program} {K : Ker} {w0 w : World} {ι : I} {h : H}

theorem room_lt (hr : room h = true) : h.n < 2 ^ DH := by
  have : h.n < 4096 := by simpa [room, Nat.blt_eq] using hr
  exact this
theorem Rep.row (r : Rep K w0 ι h w) (hr : room h = true) {l : List V} {cs : List Value} (hl : VRs ι l cs) (t : Nat) : Rep K w0 (ι.new h.n w.heap.size) (h.add (.cells l t false)) (w.alloc (.cells cs.toArray t)) :=
  r.alloc (room_lt hr) ⟨cs, [], hl.mono (r.le_new _), by simp, fun _ => rfl⟩
theorem new_ptr (ι : I) (n c : Nat) : VR (ι.new n c) (.ptr n 0) (.pointer (some ⟨c, 0, none⟩)) := by
  simp only [VR]; exact ⟨c, by simp [I.new], rfl⟩

theorem alloc_run {t : TypeId} {ti : TI} (ht : tiOf P t = some ti) {l : List V} (hz : cellsV ti.zero = some l) :
    ∃ cs : List Value, VRs ι l cs ∧ (Instr.alloc t true (.tuple #[])).run P w = .ok (.pointer (some ⟨w.heap.size, 0, none⟩)) (w.alloc (.cells cs.toArray t)) := by
  obtain ⟨z, hz1, hz2⟩ := run_zero (P := P) (w := w) ι ht
  refine ⟨z.cells.toList, cellsV_sound hz hz2, ?_⟩
  simp [Instr.alloc, Sem.run_bind, hz1, newVar, newRow, go_sem]
theorem alloc_sound (r : Rep K w0 ι h w) (hr : room h = true) {t : TypeId} {ti : TI} (ht : tiOf P t = some ti) {l : List V} (hz : cellsV ti.zero = some l) :
    ∃ w', (Instr.alloc t true (.tuple #[])).run P w = .ok (.pointer (some ⟨w.heap.size, 0, none⟩)) w' ∧ Rep K w0 (ι.new h.n w.heap.size) (h.add (.cells l t false)) w' := by
  obtain ⟨cs, hc, e⟩ := alloc_run (ι := ι) (w := w) ht hz
  exact ⟨_, e, r.row hr hc t⟩
theorem box_run (t : TypeId) {v : V} {x : Value} (hv : VR ι v x) {l : List V} (hz : cellsV v = some l) :
    ∃ cs : List Value, VRs ι l cs ∧ (Instr.box t x).run P w = .ok (.pointer (some ⟨w.heap.size, 0, none⟩)) (w.alloc (.cells cs.toArray t)) := by
  refine ⟨x.cells.toList, cellsV_sound hz hv, ?_⟩
  simp [Instr.box, newVar, newRow, go_sem]
theorem box_sound (r : Rep K w0 ι h w) (hr : room h = true) (t : TypeId) {v : V} {x : Value} (hv : VR ι v x) {l : List V} (hz : cellsV v = some l) :
    ∃ w', (Instr.box t x).run P w = .ok (.pointer (some ⟨w.heap.size, 0, none⟩)) w' ∧ Rep K w0 (ι.new h.n w.heap.size) (h.add (.cells l t false)) w' := by
  obtain ⟨cs, hc, e⟩ := box_run (P := P) (ι := ι) (w := w) t hv hz
  exact ⟨_, e, r.row hr hc t⟩

def buildV (ti : TI) (parts : List (Nat × V)) : Option V :=
  match ti.d with
  | .st fs => match cellsV ti.zero with
    | some z => match fillV (fun i => match nthF fs i with | some p => some (p.1, p.2.1) | none => none) z parts with
      | some m => some (.agg m)
      | none => none
    | none => none
  | _ => none
theorem build_sound {t : TypeId} {ti : TI} (ht : tiOf P t = some ti) {parts : List (Nat × V)} {v : V} (hb : buildV ti parts = some v) {xs : List (Nat × Value)} (h1 : xs.map (·.1) = parts.map (·.1)) (h2 : VRs ι (parts.map (·.2)) (xs.map (·.2))) :
    ∃ x, (Instr.build t xs.toArray).run P w = .ok x w ∧ VR ι v x := by
  unfold buildV at hb
  split at hb
  · rename_i fs hd
    split at hb
    · rename_i z hz
      split at hb
      · rename_i m hm
        cases hb
        obtain ⟨F, hF, hfs⟩ := under_st ht hd
        obtain ⟨i, u, zz, hi, hu, hzz, e, _⟩ := ti_some ht
        have hzv := cellsV_sound hz (by rw [e]; exact ofVal_sound ι zz)
        obtain ⟨ms, e1, e2⟩ := fill_sound _ parts xs z m zz.cells.toList hm hzv h1 h2
        refine ⟨.agg ms.toArray, run_build w t _ _ ?_, by simp only [VR]; exact ⟨ms, e2, rfl⟩⟩
        unfold Program.built
        simp only [hi, hF, hzz, fields_places hfs]
        rw [← e1]
        congr 1
        funext i
        rw [nthF_eq]
        simp only [List.getElem?_toArray, List.getElem?_map]
        cases fs[i]? <;> rfl
      · cases hb
    · cases hb
  · cases hb

def fieldV (ti : TI) (f : Nat) : Option (Nat × Nat × Nat) :=
  match ti.d with
  | .st fs => nthF fs f
  | _ => none
theorem fieldAt_sound {t : TypeId} {ti : TI} (ht : tiOf P t = some ti) {f : Nat} {p : Nat × Nat × Nat} (hf : fieldV ti f = some p) (hp : Nat.beq p.2.1 0 = false) (c o : Nat) :
    (Instr.fieldAt t (.pointer (some ⟨c, o, none⟩)) f).run P w = .ok (.pointer (some ⟨c, o + p.1, none⟩)) w := by
  unfold fieldV at hf
  split at hf
  · rename_i fs hd
    obtain ⟨F, hF, hfs⟩ := under_st ht hd
    rw [nthF_eq] at hf
    obtain ⟨fl, h1, h2⟩ := fields_at hfs f p hf
    obtain ⟨p1, p2, p3⟩ := p
    obtain ⟨e1, e2, e3⟩ := field_size h2 w
    have h1' : F[f]? = some fl := by simpa using h1
    have hne : p2 ≠ 0 := Nat.ne_of_beq_eq_false hp
    simp [Instr.fieldAt, run_underlying hF, h1', Instr.sureAddr, fieldPlace, e3, hne, e1, Addr.add_lit]
  · cases hf
theorem field_sound {T : Tb TI} (hT : TOk P T) {t : TypeId} {ti : TI} (ht : tiOf P t = some ti) {f : Nat} {p : Nat × Nat × Nat} (hf : fieldV ti f = some p) {tf : TI} (htf : T.at_ p.2.2 = some tf) {l : List V} {cs : List Value} (hl : VRs ι l cs) {v : V} (hv : loadV tf l p.1 = some v) :
    ∃ x, (Instr.field t (.agg cs.toArray) f).run P w = .ok x w ∧ VR ι v x := by
  unfold fieldV at hf
  split at hf
  · rename_i fs hd
    obtain ⟨F, hF, hfs⟩ := under_st ht hd
    rw [nthF_eq] at hf
    obtain ⟨fl, h1, h2⟩ := fields_at hfs f p hf
    obtain ⟨p1, p2, p3⟩ := p
    obtain ⟨e1, e2, e3⟩ := field_size h2 w
    have h1' : F[f]? = some fl := by simpa using h1
    have hti := hT _ _ htf
    dsimp only at hti hv
    rw [← e2] at hti
    unfold loadV at hv
    split at hv
    · cases hv
    · rename_i hodd
      have hag := run_isAgg (w := w) hti hodd
      split at hv
      · rename_i hagg
        split at hv
        · rename_i m hm
          cases hv
          obtain ⟨g1, g2⟩ := takeV_eq hm
          rw [dropV_eq] at g1
          have hvv : VRs ι m ((cs.drop p1).take tf.size) := by rw [g1]; exact (hl.drop p1).take _
          refine ⟨.agg ((cs.drop p1).take tf.size).toArray, ?_, by simp only [VR]; exact ⟨_, hvv, rfl⟩⟩
          simp [Instr.field, run_underlying hF, h1', part, hag, hagg, asAgg, run_size hti, e1]
        · cases hv
      · rename_i hagg
        split at hv
        · rename_i u q hu
          cases hv
          rw [dropV_eq] at hu
          have hvv := hl.drop p1
          rw [hu] at hvv
          obtain ⟨x, q', g1, g2, e⟩ := VRs.cons_iff.1 hvv
          have hx : cs[p1]? = some x := by
            have : (cs.drop p1)[0]? = some x := by rw [e]; rfl
            rw [List.getElem?_drop] at this
            simpa using this
          refine ⟨x, ?_, g1⟩
          simp [Instr.field, run_underlying hF, h1', part, hag, hagg, asAgg, e1, hx]
        · cases hv
  · cases hf
theorem part_sound {t : TypeId} {tf : TI} (hti : tiOf P t = some tf) {o : Nat} {l : List V} {cs : List Value} (hl : VRs ι l cs) {v : V} (hv : loadV tf l o = some v) : ∃ x, (part t cs.toArray o).run P w = .ok x w ∧ VR ι v x := by
  unfold loadV at hv
  split at hv
  · cases hv
  · rename_i hodd
    have hag := run_isAgg (w := w) hti hodd
    split at hv
    · rename_i hagg
      split at hv
      · rename_i m hm
        cases hv
        obtain ⟨g1, g2⟩ := takeV_eq hm
        rw [dropV_eq] at g1
        have hvv : VRs ι m ((cs.drop o).take tf.size) := by rw [g1]; exact (hl.drop o).take _
        refine ⟨.agg ((cs.drop o).take tf.size).toArray, ?_, by simp only [VR]; exact ⟨_, hvv, rfl⟩⟩
        simp [part, hag, hagg, run_size hti]
      · cases hv
    · rename_i hagg
      split at hv
      · rename_i u q hu
        cases hv
        rw [dropV_eq] at hu
        have hvv := hl.drop o
        rw [hu] at hvv
        obtain ⟨x, q', g1, g2, e⟩ := VRs.cons_iff.1 hvv
        have hx : cs[o]? = some x := by
          have : (cs.drop o)[0]? = some x := by rw [e]; rfl
          rw [List.getElem?_drop] at this
          simpa using this
        exact ⟨x, by simp [part, hag, hagg, hx], g1⟩
      · cases hv
theorem indexAt_sound {T : Tb TI} (hT : TOk P T) {t e : TypeId} {ti te : TI} (ht : tiOf P t = some ti) (hd : ti.d = .sl e) (hte : T.at_ e = some te) {c o len cp i : Nat} {k : IntKind} (hi : Nat.blt i len = true) :
    (Instr.indexAt t (.slice (some ⟨c, o, none⟩) len cp) (.int k (.ofNat i))).run P w = .ok (.pointer (some ⟨c, o + i * te.size, none⟩)) w := by
  have hu := under_sl ht hd
  have hs := run_size (w := w) (hT _ _ hte)
  have hi' : i < len := by simpa [Nat.blt_eq] using hi
  simp [Instr.indexAt, run_underlying hu, asIntOf, hs, hi', Addr.add_lit]
theorem indexArr_sound {T : Tb TI} (hT : TOk P T) {t e n : Nat} {ti te : TI} (ht : tiOf P t = some ti) (hd : ti.d = .arr n e) (hte : T.at_ e = some te) {c o i : Nat} {k : IntKind} (hi : Nat.blt i n = true) :
    (Instr.indexAt t (.pointer (some ⟨c, o, none⟩)) (.int k (.ofNat i))).run P w = .ok (.pointer (some ⟨c, o + i * te.size, none⟩)) w := by
  have hu := under_arr ht hd
  have hs := run_size (w := w) (hT _ _ hte)
  have hi' : i < n := by simpa [Nat.blt_eq] using hi
  simp [Instr.indexAt, run_underlying hu, asIntOf, hs, hi', Addr.add_lit, Instr.sureAddr]
def nthN : List Nat → Nat → Option Nat
  | [], _ => none
  | a :: _, 0 => some a
  | _ :: l, n + 1 => nthN l n
theorem nthN_eq : ∀ (l : List Nat) (i : Nat), nthN l i = l[i]?
  | [], i => by simp [nthN]
  | v :: l, 0 => rfl
  | v :: l, n + 1 => by simp [nthN, nthN_eq l n]
theorem index_sound {t : TypeId} {ti : TI} (ht : tiOf P t = some ti) (hd : ti.d = .str) {s : List Nat} (hs : Bytes s) {i b : Nat} {k : IntKind} (hi : nthN s i = some b) :
    (Instr.index t (.string (strD s)) (.int k (.ofNat i))).run P w = .ok (.int .u8 (.ofNat b)) w := by
  have hu := under_str ht hd
  rw [nthN_eq] at hi
  have hb : b < 256 := hs b (List.mem_of_getElem? hi)
  have hg : (strD s)[i]? = some b.toUInt8 := by
    have : (strD s).data[i]? = some b.toUInt8 := by simp [strD, hi]
    exact this
  simp [Instr.index, run_underlying hu, asIntOf, hg]
  omega
end
end Go.Proofs.Ytoamjihchmokcaa.E
