/- Each operation of the executor is the program's. No condition. || Each operation of the executor is the program's: all of them. No condition. -/
import Derived.Test.YtoamjihchmokcaaE15
namespace Go.Proofs.Ytoamjihchmokcaa.E
open Go.ChangeShapes Go.WideShapes Go.ChangeAt Go.RowKit Go.Deep Go.MapKept

section
variable {P : Program} {K : Ker} {w0 w : World} {ι : I} {h : H} {C : Cf}
theorem ptr_out {b o : Nat} {x : Value} (hx : VR ι (.ptr b o) x) : ∃ c, ι.blk b = some c ∧ x = .pointer (some ⟨c, o, none⟩) := by
  unfold VR at hx; exact hx
theorem newB_out {o : O} {v : V} {res : R} (hr : newB h o v = some res) : room h = true ∧ res = .mem v (h.add o) := by
  unfold newB at hr
  split at hr
  · rename_i hh
    cases hr; exact ⟨hh, rfl⟩
  · cases hr
theorem agg_out {l : List V} {x : Value} (hx : VR ι (.agg l) x) : ∃ cs : List Value, VRs ι l cs ∧ x = .agg cs.toArray := by
  unfold VR at hx; exact hx
theorem int_out {k : IntKind} {n : Int} {x : Value} (hx : VR ι (.int k n) x) : x = .int k n := by
  unfold VR at hx; exact hx
theorem str_out {s : List Nat} {x : Value} (hx : VR ι (.str s) x) : Bytes s ∧ x = .string (strD s) := by
  unfold VR at hx; exact hx
theorem agg_eq_sound (hC : C.Ok P) {op : BinOp} {t : Nat} {l m : List V} {v : V} (hv : aggR C.T op t (.agg l) (.agg m) = some v) {x y : Value} (hx : VR ι (.agg l) x) (hy : VR ι (.agg m) y) (p q : Operand) : ∃ z, ((do eqGuard op t p q x y; binOp op t x y) : Sem Value).run P w = .ok z w ∧ VR ι v z := by
  unfold aggR at hv
  split at hv
  rotate_left
  · cases hv
  rename_i ti hti
  split at hv
  rotate_left
  · cases hv
  rename_i heq
  split at hv
  rotate_left
  · cases hv
  rename_i c hc
  have ht := hC.T _ _ hti
  have he : ∀ d, (Op.equalIn (d + 6) t x y).run P w = .ok c w := fun d => eqV_sound hC.T 6 t _ _ c x y d hc hx hy
  have hx0 := hx
  have hy0 := hy
  obtain ⟨cs, _, rfl⟩ := agg_out hx
  obtain ⟨ds, _, rfl⟩ := agg_out hy
  have hst : ∃ fs, ti.d = .st fs := by
    unfold eqV at hc
    rw [hti] at hc
    dsimp only at hc
    split at hc
    · rename_i fs _ hd
      exact ⟨fs, hd⟩
    · cases hc
  obtain ⟨fs, hd⟩ := hst
  obtain ⟨F, hF, _⟩ := under_st ht hd
  obtain ⟨_, q2, _⟩ := eqOk_out ht heq hF
  have h6 := he 9994
  have hbe : (Op.equal t (.agg cs.toArray) (.agg ds.toArray)).run P w = .ok c w := h6
  cases op <;> simp only [relB, Option.some.injEq, reduceCtorEq] at hv
  · subst hv
    exact ⟨.bool c, by
      rw [Sem.run_bind, run_eqGuard_agg w .eql t p q _ _ q2]
      show ((do pure (.bool (← Op.equal t (.agg cs.toArray) (.agg ds.toArray))) : Sem Value).run P w) = _
      rw [Sem.run_bind, hbe]; rfl, by simp only [VR]⟩
  · subst hv
    exact ⟨.bool (!c), by
      rw [Sem.run_bind, run_eqGuard_agg w .neq t p q _ _ q2]
      show ((do pure (.bool (!(← Op.equal t (.agg cs.toArray) (.agg ds.toArray)))) : Sem Value).run P w) = _
      rw [Sem.run_bind, hbe]; rfl, by simp only [VR]⟩
theorem binR_sound (hC : C.Ok P) {op : BinOp} {t : Nat} {a b v : V} (hv : binR C.T op t a b = some v) {x y : Value} (hx : VR ι a x) (hy : VR ι b y) (p q : Operand) : ∃ z, ((do eqGuard op t p q x y; binOp op t x y) : Sem Value).run P w = .ok z w ∧ VR ι v z := by
  unfold binR at hv
  split at hv
  · split at hv
    · rw [int_out hx, int_out hy]
      exact shR_sound hv t p q
    · split at hv
      · rename_i hk
        have hk := kEq_eq hk
        subst hk
        rw [int_out hx, int_out hy]
        exact binI_sound hv t p q
      · cases hv
  · obtain ⟨h1, rfl⟩ := str_out hx
    obtain ⟨h2, rfl⟩ := str_out hy
    exact binS_sound h1 h2 hv t p q
  · split at hv
    · rename_i ti hti
      exact binN_sound (hC.T _ _ hti) hv hx hy p q
    · cases hv
theorem src_sound (hC : C.Ok P) (r : Rep K w0 ι h w) (ha : ∀ k, (ι.atom k).oneCell' = true) {tu : TI} {u e' : Nat} (hu : C.T.at_ u = some tu) (hd : tu.d = .sl e') {sz : Nat} {x : V} {p : List V × Nat} (hp : srcV h sz x = some p) (h1 : onesV p.1 = true) {y : Value} (hx : VR ι x y) : ∃ ns : List Value, VRs ι p.1 ns ∧ Src P sz u y p.2 ns w := by
  have hk := under_sl (hC.T _ _ hu) hd
  unfold srcV at hp
  split at hp
  · cases hp
    unfold VR at hx
    subst hx
    exact ⟨[], VRs.nil_iff.2 rfl, Src.ofNil w hk 0⟩
  · split at hp
    · rename_i l _ _ hb
      split at hp
      · rename_i m hm
        cases hp
        obtain ⟨c, cp, hbc, rfl, _⟩ := VR.sl_out hx
        obtain ⟨ms, q1, q2, q3⟩ := r.row_in hbc hb hm
        exact ⟨ms, q1, Src.ofSlice w hk _ _ _ ms q2 q3 (onesV_sound ha h1 q1)⟩
      · cases hp
    · cases hp
  · cases hp
theorem appendV_ones {e : Nat} {te : TI} {s : V} {news : List V} {n : Nat} {res : R} (hr : appendV h e te s news n = some res) : onesV news = true := by
  unfold appendV at hr
  split at hr
  · cases hr
  · assumption
theorem map1 (ρ : Operand → Value) (x : Operand) : Array.map ρ (⟨[x]⟩ : Array Operand) = #[ρ x] := by simp
theorem map2 (ρ : Operand → Value) (x y : Operand) : Array.map ρ (⟨[x, y]⟩ : Array Operand) = #[ρ x, ρ y] := by simp
theorem cells_store (r : Rep K w0 ι h w) (ha : ∀ k, (ι.atom k).oneCell' = true) {b c o : Nat} (hb : ι.blk b = some c) {l m vs : List V} {bt : Nat} {g : Bool} (hd : h.t.get b = .cells l bt g) {xs : List Value} (hx : VRs ι vs xs) (h1 : onesV vs = true) (hs : segV o vs l = some m) :
    ∃ w', (storeCells ⟨c, o, none⟩ xs).run P w = .ok () w' ∧ Rep K w0 ι (h.put b (.cells m bt g)) w' := by
  obtain ⟨cs, more, hl, hc, hg, _⟩ := r.cells_at hb hd
  have hlen := hx.length
  obtain ⟨_, hb2⟩ := segV_eq hs
  have hcl := hl.length
  have hst := run_storeCells_at (P := P) c o bt xs 0 (cs ++ more).toArray w hc (by simp at hlen ⊢; omega) (onesV_sound ha h1 hx)
  have e : (cs ++ more).toArray.toList.take (o + 0) ++ xs ++ (cs ++ more).toArray.toList.drop (o + 0 + xs.length) = (cs.take o ++ xs ++ cs.drop (o + xs.length)) ++ more := by
    simp only [Nat.add_zero, List.append_assoc]
    rw [List.take_append_of_le_length (by omega), List.drop_append_of_le_length (by rw [hlen]; omega)]
  rw [e] at hst
  exact ⟨_, hst, r.upd_row hb hd hc (VRs.seg hs hx hl) hg (by simp only [List.length_append, List.length_take, List.length_drop]; omega)⟩
theorem callR_sound (hC : C.Ok P) (hA : Atoms C P K w0 ι) (r : Rep K w0 ι h w) {e : Operand → V} {ρ : Operand → Value} (he : ∀ x, VR ι (e x) (ρ x)) (c : Call) (ty : TypeId) {res : R} (hr : callR C e h c = some res) : ROk P K w0 ι w res ((do let d ← resolve ρ c ty; invoke d.target d.args : Sem Next).run P w) := by
  have ha := hA.at_
  obtain ⟨callee, args, ats⟩ := c
  cases callee with
  | invoke => cases hr
  | value f =>
    simp only [callR] at hr
    have hf := he f
    split at hr
    · rename_i g caps hg
      rw [hg] at hf
      unfold VR at hf
      obtain ⟨cs, h1, h2⟩ := hf
      have hargs := mapV_sound he args.toList
      split at hr
      · rename_i hX
        split at hr
        rotate_left
        · cases hr
        rename_i t b hargs1
        rw [hargs1] at hargs
        split at hr
        rotate_left
        · cases hr
        rename_i es ck hb hroom
        cases hr
        have hcs := VRs.nil_iff.1 h1
        subst hcs
        obtain ⟨x, rest, g1, g2, g3⟩ := VRs.cons_iff.1 hargs
        have := VRs.nil_iff.1 g2
        subst this
        simp only [VR] at g1
        obtain ⟨y, ⟨c, hc, rfl⟩, rfl⟩ := g1
        obtain ⟨E, e1, e2, _⟩ := r.map_at hc hb
        obtain ⟨fn, f1, f2, f3, f4, f5⟩ := hC.ext g hX
        have hn : h.n < 2 ^ DH := by have : h.n < 4096 := by simpa [room, Nat.blt_eq] using hroom
                                     exact this
        have e0 : args.map ρ = #[.iface t (.map (some c))] := by
          have : args.map ρ = (args.toList.map ρ).toArray := by rw [← Array.toList_map]
          rw [this, g3]
        refine ⟨.iface t (.map (some w.heap.size)), w.alloc (.map E.toArray ck), _, ?_, r.le_new w.heap.size, r.alloc hn ⟨E, e1.mono (r.le_new _), rfl⟩, ?_⟩
        · have hcl : (Extern.MapsClone.clone #[.iface t (.map (some c))]).run P w = .ok (.iface t (.map (some w.heap.size))) (w.alloc (.map E.toArray ck)) := by
            have e : Extern.MapsClone.clone #[.iface t (.map (some c))] = (getObj c >>= fun o => match o with
                | .map entries clock => (newObj (.map entries clock) >>= fun n => pure (.iface t (.map (some n))))
                | _ => stuck "maps.clone: a map expected") := rfl
            have hg : (getObj c).run P w = .ok (.map E.toArray ck) w := by simp [getObj, Sem.run, e2]
            rw [e]
            simp [hg, Result.andThen, go_sem]
          have hcall := run_callFunc_extern f1 f2 f3 f4 f5 #[.iface t (.map (some c))] w
          rw [hcl] at hcall
          simp only [resolve, h2, Deferred.ofValue, e0]
          simpa [invoke] using hcall
        · simp only [VR]
          exact ⟨_, ⟨_, if_pos rfl, rfl⟩, rfl⟩
      cases hr
      refine ⟨args.toList.map ρ ++ cs, ?_, hargs.append h1⟩
      have e1 : args.map ρ = (args.toList.map ρ).toArray := by rw [← Array.toList_map]
      simp only [resolve, h2, Deferred.ofValue, e1]
      simp [invoke]
    · rename_i l hl
      cases hr
      rw [hl] at hf
      unfold VR at hf
      obtain ⟨c, h1, h2⟩ := hf
      refine ⟨c, args.toList.map ρ, h1, ?_, mapV_sound he args.toList⟩
      have e1 : args.map ρ = (args.toList.map ρ).toArray := by rw [← Array.toList_map]
      simp only [resolve, h2, Deferred.ofValue, e1]
      simp [invoke]
    · cases hr
  | builtin b =>
    have hres : ∀ s : Sem Value, (builtin b ats ty (args.map fun | .const _ => true | _ => false) (args.map ρ) = (do pure (Next.value (← s)))) → ROk P K w0 ι w res ((do pure (Next.value (← s)) : Sem Next).run P w) → ROk P K w0 ι w res ((do let d ← resolve ρ ⟨.builtin b, args, ats⟩ ty; invoke d.target d.args : Sem Next).run P w) := by
      intro s hs hk
      have : (do let d ← resolve ρ ⟨.builtin b, args, ats⟩ ty; invoke d.target d.args : Sem Next) = (do pure (Next.value (← s))) := by
        rw [← hs]; rfl
      rw [this]; exact hk
    simp only [callR] at hr
    split at hr
    · -- len
      rename_i x t
      refine hres _ rfl ?_
      split at hr
      · rename_i ti hti
        split at hr
        · rename_i v hd hv
          cases hr
          rw [map1]
          exact rok_val (hA.len _ _ hv ι rfl t _ ti _ w (hC.T _ _ hti) hd (he x))
        · rename_i e' v hd hv
          cases hr
          rw [map1]
          exact rok_val (hA.lenl _ _ hv ι rfl t _ ti e' _ w (hC.T _ _ hti) hd (he x))
        · refine rok_valO hr fun v hv => ?_
          rw [map1]
          exact len_sound r (hC.T _ _ hti) hv (he x)
      · cases hr
    · -- append
      rename_i s x t u
      refine hres _ rfl ?_
      split at hr
      rotate_left
      · cases hr
      rename_i ti tu hti htu
      split at hr
      rotate_left
      · cases hr
      rename_i el e' hd1 hd2
      split at hr
      rotate_left
      · cases hr
      rename_i te hte
      split at hr
      rotate_left
      · cases hr
      rename_i p hp
      have h1 := appendV_ones hr
      obtain ⟨ns, q1, q2⟩ := src_sound hC r ha htu hd2 hp h1 (he x)
      refine rok_vok ?_
      rw [map2]
      exact append_sound hC.T ha r (under_sl (hC.T _ _ hti) hd1) hte (he s) q1 (fun i hi => by
        obtain ⟨i', u', z, hi', _, _, e0, _⟩ := ti_some (hC.T _ _ hte)
        rw [hi] at hi'
        cases hi'
        have : te.size = i.size := by rw [e0]
        rw [← this]
        exact q2) hr
    · -- min
      refine hres _ rfl ?_
      have e1 : args.map ρ = (args.toList.map ρ).toArray := by rw [← Array.toList_map]
      refine rok_valO hr fun v hv => ?_
      rw [e1]
      exact least_sound hv (mapV_sound he args.toList) ats ty
    · refine hres _ rfl ?_
      have e1 : args.map ρ = (args.toList.map ρ).toArray := by rw [← Array.toList_map]
      refine rok_valO hr fun v hv => ?_
      rw [e1]
      exact most_sound hv (mapV_sound he args.toList) ats ty
    · -- delete
      rename_i m k t rest
      refine hres _ rfl ?_
      split at hr
      rotate_left
      · cases hr
      rename_i ti hti
      split at hr
      rotate_left
      · cases hr
      rename_i h' hh'
      cases hr
      obtain ⟨w', q1, q2⟩ := del_sound (ts := ⟨t :: rest⟩) (ty := ty) hC.T r (by simp) (hC.T _ _ hti) hh' (he m) (he k)
      refine rok_mem ⟨_, w', ι, by rw [map2]; exact q1, .refl _, q2, ?_⟩
      unfold VR
      exact ⟨[], VRs.nil_iff.2 rfl, rfl⟩
    · -- clear
      rename_i x t
      refine hres _ rfl ?_
      have vt : VR ι (.tup []) (.tuple #[]) := by
        unfold VR
        exact ⟨[], VRs.nil_iff.2 rfl, rfl⟩
      have hx := he x
      split at hr
      · rename_i ti b o cap ex hti hxx
        split at hr
        · rename_i el hd
          cases hr
          rw [hxx] at hx
          obtain ⟨c, cp, _, h2, _⟩ := VR.sl_out hx
          refine rok_val ⟨_, ?_, vt⟩
          simp [Builtin.clear_, run_underlying (under_sl (hC.T _ _ hti) hd), h2]
        · cases hr
      · rename_i ti hti hxx
        split at hr
        · rename_i el hd
          cases hr
          rw [hxx] at hx
          unfold VR at hx
          refine rok_val ⟨_, ?_, vt⟩
          simp [Builtin.clear_, run_underlying (under_sl (hC.T _ _ hti) hd), hx]
        · cases hr
      · rename_i ti b o n cap ex hti hxx
        split at hr
        rotate_left
        · cases hr
        rename_i el l bt g hd hdb
        split at hr
        rotate_left
        · cases hr
        rename_i te hte
        split at hr
        rotate_left
        · cases hr
        rename_i z hz
        split at hr
        rotate_left
        · cases hr
        rename_i m h1 hseg
        cases hr
        rw [hxx] at hx
        obtain ⟨c, cp, hbc, h2, _⟩ := VR.sl_out hx
        obtain ⟨zv, hz1, hz2⟩ := run_zero (P := P) (w := w) ι (hC.T _ _ hte)
        have hrow := repV_zero zv.cells (cellsV_sound hz hz2) (n + 1)
        have h1' : onesV (repV (n + 1) z) = true := by
          have key : ∀ k, onesV (repV k z) = true := by
            intro k
            induction k with
            | zero => rfl
            | succ k ih =>
              have app : ∀ (a b : List V), onesV a = true → onesV b = true → onesV (a ++ b) = true := by
                intro a b ha hb
                induction a with
                | nil => exact hb
                | cons x a iha =>
                  rw [List.cons_append]
                  unfold onesV at ha ⊢
                  revert ha
                  cases oneV x with
                  | true => exact iha
                  | false => exact fun h => h
              exact app _ _ h1 ih
          exact key _
        obtain ⟨w', q1, q2⟩ := cells_store (P := P) r ha hbc hdb hrow h1' hseg
        refine rok_mem ⟨_, w', ι, ?_, .refl _, q2, vt⟩
        have q1' : (storeCells ⟨c, o, none⟩ (List.map (fun x => zv.cells[x % zv.cells.size]!) (List.range ((n + 1) * zv.cells.size)))).run P w = .ok () w' := by
          rw [← q1]
          congr 2
          simp
        have hcl : Builtin.zeroCells zv.cells (n + 1) = (Array.range ((n + 1) * zv.cells.size)).map (zv.cells[· % zv.cells.size]!) := rfl
        simp [Builtin.clear_, run_underlying (under_sl (hC.T _ _ hti) hd), h2, hz1, hcl, q1']
      · cases hr
    · cases hr
end
end Go.Proofs.Ytoamjihchmokcaa.E
namespace Go.Proofs.Ytoamjihchmokcaa.E
open Go.ChangeShapes Go.WideShapes Go.ChangeAt Go.RowKit Go.Deep Go.MapKept

section
variable {P : Program} {K : Ker} {w0 w : World} {ι : I} {h : H} {C : Cf}
set_option maxHeartbeats 1000000 in
theorem opR_sound (hC : C.Ok P) (hA : Atoms C P K w0 ι) (r : Rep K w0 ι h w) {e : Operand → V} {ρ : Operand → Value} (he : ∀ x, VR ι (e x) (ρ x)) (o : Oper) {res : R} (hr : opR C e h o.op = some res) : ROk P K w0 ι w res ((execOp ρ o).run P w) := by
  have ha := hA.at_
  obtain ⟨dst, op, ty, pos, after, guard⟩ := o
  dsimp only at hr
  unfold opR at hr
  split at hr
  · -- move
    cases hr; exact ⟨_, rfl, he _⟩
  · cases hr; exact ⟨_, rfl, he _⟩
  · -- pick
    rename_i c a b
    have hc := he c
    split at hr
    · rename_i q
      cases hr
      rw [q] at hc
      unfold VR at hc
      exact ⟨ρ a, by simp [execOp, hc, asBool], he a⟩
    · rename_i q
      cases hr
      rw [q] at hc
      unfold VR at hc
      exact ⟨ρ b, by simp [execOp, hc, asBool], he b⟩
    · cases hr
  · -- alloc
    rename_i t
    split at hr
    rotate_left
    · cases hr
    rename_i ti hti
    split at hr
    rotate_left
    · cases hr
    rename_i l hl
    obtain ⟨hroom, rfl⟩ := newB_out hr
    obtain ⟨w', q1, q2⟩ := alloc_sound r hroom (hC.T _ _ hti) hl
    exact rok_mem ⟨_, w', _, q1, r.le_new _, q2, new_ptr ι _ _⟩
  · -- box
    rename_i t x
    split at hr
    rotate_left
    · cases hr
    rename_i l hl
    obtain ⟨hroom, rfl⟩ := newB_out hr
    obtain ⟨w', q1, q2⟩ := box_sound (P := P) r hroom t (he x) hl
    exact rok_mem ⟨_, w', _, q1, r.le_new _, q2, new_ptr ι _ _⟩
  · -- build
    rename_i t parts
    split at hr
    rotate_left
    · cases hr
    rename_i ti hti
    refine rok_valO hr fun v hv => ?_
    obtain ⟨m1, m2⟩ := mapP_sound he parts.toList
    have e1 : parts.map (fun (i, x) => (i, ρ x)) = (parts.toList.map fun p => (p.1, ρ p.2)).toArray := by rw [← Array.toList_map]
    rw [e1]
    exact build_sound (hC.T _ _ hti) hv m1 m2
  · -- buildSlice
    rename_i t n parts
    split at hr
    rotate_left
    · cases hr
    rename_i ti hti
    split at hr
    rotate_left
    · cases hr
    rename_i el hd
    split at hr
    rotate_left
    · cases hr
    rename_i te hte
    split at hr
    rotate_left
    · cases hr
    rename_i l hl hn
    obtain ⟨hroom, rfl⟩ := newB_out hr
    obtain ⟨m1, m2⟩ := mapP_sound he parts.toList
    have e1 : parts.map (fun (i, x) => (i, ρ x)) = (parts.toList.map fun p => (p.1, ρ p.2)).toArray := by rw [← Array.toList_map]
    obtain ⟨y, w', q1, q2, q3⟩ := buildSlice_sound r hroom (hC.T _ _ hti) hd (hC.T _ _ hte) hl m1 m2 (Nat.le_of_ble_eq_true hn)
    rw [← e1] at q1
    exact rok_mem ⟨_, w', _, q1, r.le_new _, q2, q3⟩
  · -- makeSlice
    rename_i t x y
    split at hr
    rotate_left
    · cases hr
    rename_i ti hti
    split at hr
    rotate_left
    · cases hr
    rename_i el hd
    split at hr
    rotate_left
    · cases hr
    rename_i te hte
    split at hr
    rotate_left
    · cases hr
    rename_i l n c hl
    obtain ⟨hroom, rfl⟩ := newB_out hr
    obtain ⟨z, w', q1, q2, q3⟩ := makeSlice_sound r hroom (hC.T _ _ hti) hd (hC.T _ _ hte) hl (he x) (he y)
    exact rok_mem ⟨_, w', _, q1, r.le_new _, q2, q3⟩
  · -- load
    rename_i t x
    have hx := he x
    split at hr
    rotate_left
    · cases hr
    rename_i b o hxx
    split at hr
    rotate_left
    · cases hr
    rename_i l bt g ti hd hti
    rw [hxx] at hx
    obtain ⟨c, hb, hx⟩ := ptr_out hx
    obtain ⟨cs, more, hl, hc, _, _⟩ := r.cells_at hb hd
    refine rok_valO hr fun v hv => ?_
    rw [hx]
    exact loadV_sound (hC.T _ _ hti) hv hc hl
  · -- store
    rename_i t x y
    have hx := he x
    split at hr
    rotate_left
    · cases hr
    rename_i b o hxx
    split at hr
    rotate_left
    · cases hr
    rename_i l bt g ti vs hd hti hvs
    split at hr
    rotate_left
    · cases hr
    rename_i m hn h1 hm
    cases hr
    rw [hxx] at hx
    obtain ⟨c, hb, hx⟩ := ptr_out hx
    obtain ⟨w', q1, q2⟩ := store_sound r ha (hC.T _ _ hti) hb hd (he y) hvs (Nat.eq_of_beq_eq_true hn) h1 hm
    rw [← hx] at q1
    exact rok_done ⟨w', q1, q2⟩
  · -- nilCheck
    rename_i x
    have hx := he x
    split at hr
    rotate_left
    · cases hr
    rename_i b o hxx
    cases hr
    rw [hxx] at hx
    have hx0 := hx
    obtain ⟨c, hb, hx⟩ := ptr_out hx
    exact ⟨.pointer (some ⟨c, o, none⟩), by simp [execOp, hx], by rw [← hx]; exact hx0⟩
  · -- binOp
    rename_i op t x y yt
    have hx := he x
    have hy := he y
    split at hr
    · rename_i l m hl hm
      rw [hl] at hx
      rw [hm] at hy
      exact rok_valO hr fun v hv => agg_eq_sound hC hv hx hy x y
    · split at hr
      · rename_i v hv
        cases hr
        exact rok_val (hA.bin _ _ _ _ hv ι rfl t x y _ _ w hx hy)
      · exact rok_valO hr fun v hv => binR_sound hC hv hx hy x y
  · -- unOp
    rename_i op t x
    exact rok_valO hr fun v hv => un_sound hv (he x)
  · -- convert
    rename_i s d x
    split at hr
    rotate_left
    · cases hr
    rename_i ts td hts htd
    exact rok_valO hr fun v hv => conv_sound hC.T r (hC.T _ _ hts) (hC.T _ _ htd) hv (he x)
  · -- makeFunc
    rename_i f caps
    cases hr
    refine rok_val ⟨_, rfl, ?_⟩
    unfold VR
    have e1 : caps.map ρ = (caps.toList.map ρ).toArray := by rw [← Array.toList_map]
    exact ⟨_, mapV_sound he caps.toList, by rw [e1]; simp⟩
  · -- makeMap
    rename_i t
    obtain ⟨hroom, rfl⟩ := newB_out hr
    obtain ⟨w', q1, q2⟩ := makeMap_sound (P := P) r hroom t
    refine rok_mem ⟨_, w', _, q1, r.le_new _, q2, ?_⟩
    unfold VR
    exact ⟨w.heap.size, by simp [I.new], rfl⟩
  · -- slice
    rename_i t x lo hi mx
    have hx := he x
    split at hr
    rotate_left
    · cases hr
    rename_i ti hti
    split at hr
    · rename_i s hd hxx
      rw [hxx] at hx
      obtain ⟨h1, hx⟩ := str_out hx
      split at hr
      · refine rok_valO hr fun v hv => ?_
        rw [hx]
        exact sub_sound (hC.T _ _ hti) hd h1 hv (mapO_sound he lo) (mapO_sound he hi)
      · cases hr
    · rename_i el b o len cap ex hd hxx
      rw [hxx] at hx
      split at hr
      · rename_i te hte
        exact rok_valO hr fun v hv => sliceAt_sound (hC.T _ _ hti) hd (hC.T _ _ hte) hv hx (mapO_sound he lo) (mapO_sound he hi) (mapO_sound he mx)
      · cases hr
    · rename_i el hd hxx
      rw [hxx] at hx
      unfold VR at hx
      split at hr
      · rename_i te hte
        refine rok_valO hr fun v hv => ?_
        rw [hx]
        exact sliceN_sound (hC.T _ _ hti) hd (hC.T _ _ hte) hv (mapO_sound he lo) (mapO_sound he hi) (mapO_sound he mx)
      · cases hr
    · rename_i n el b o hd hxx
      rw [hxx] at hx
      split at hr
      · rename_i te hte
        exact rok_valO hr fun v hv => sliceA_sound (hC.T _ _ hti) hd (hC.T _ _ hte) hv hx (mapO_sound he lo) (mapO_sound he hi)
      · cases hr
    · cases hr
  · -- fieldAddr
    rename_i t x f
    have hx := he x
    split at hr
    rotate_left
    · cases hr
    rename_i b o hxx
    split at hr
    rotate_left
    · cases hr
    rename_i ti hti
    split at hr
    rotate_left
    · cases hr
    rename_i p hp
    split at hr
    rotate_left
    · cases hr
    rename_i h0
    cases hr
    rw [hxx] at hx
    obtain ⟨c, hb, hx⟩ := ptr_out hx
    refine rok_val ⟨_, by rw [hx]; exact fieldAt_sound (hC.T _ _ hti) hp h0 c o, ?_⟩
    unfold VR
    exact ⟨c, hb, rfl⟩
  · -- field
    rename_i t x f
    have hx := he x
    split at hr
    rotate_left
    · cases hr
    rename_i l hxx
    split at hr
    rotate_left
    · cases hr
    rename_i ti hti
    split at hr
    rotate_left
    · cases hr
    rename_i p hp
    split at hr
    rotate_left
    · cases hr
    rename_i tf htf
    rw [hxx] at hx
    obtain ⟨cs, h1, hx⟩ := agg_out hx
    refine rok_valO hr fun v hv => ?_
    rw [hx]
    exact field_sound hC.T (hC.T _ _ hti) hp htf h1 hv
  · -- indexAddr
    rename_i t x y
    have hx := he x
    have hy := he y
    split at hr
    · rename_i b o len cap ex k i hxx hyy
      split at hr
      rotate_left
      · cases hr
      rename_i ti hti
      split at hr
      rotate_left
      · cases hr
      rename_i el hd
      split at hr
      rotate_left
      · cases hr
      rename_i te hte hlt
      cases hr
      rw [hxx] at hx
      rw [hyy] at hy
      obtain ⟨c, cp, hb, hx, _⟩ := VR.sl_out hx
      have hy := int_out hy
      refine rok_val ⟨_, by rw [hx, hy]; exact indexAt_sound hC.T (hC.T _ _ hti) hd hte hlt, ?_⟩
      unfold VR
      exact ⟨c, hb, rfl⟩
    · rename_i b o k i hxx hyy
      split at hr
      rotate_left
      · cases hr
      rename_i ti hti
      split at hr
      rotate_left
      · cases hr
      rename_i n el hd
      split at hr
      rotate_left
      · cases hr
      rename_i te hte hlt
      cases hr
      rw [hxx] at hx
      rw [hyy] at hy
      obtain ⟨c, hb, hx⟩ := ptr_out hx
      have hy := int_out hy
      refine rok_val ⟨_, by rw [hx, hy]; exact indexArr_sound hC.T (hC.T _ _ hti) hd hte hlt, ?_⟩
      unfold VR
      exact ⟨c, hb, rfl⟩
    · cases hr
  · -- index
    rename_i t x y
    have hx := he x
    have hy := he y
    split at hr
    rotate_left
    · cases hr
    rename_i s k i hxx hyy
    split at hr
    rotate_left
    · cases hr
    rename_i ti hti
    split at hr
    rotate_left
    · cases hr
    rename_i b hd hb
    cases hr
    rw [hxx] at hx
    rw [hyy] at hy
    obtain ⟨h1, hx⟩ := str_out hx
    have hy := int_out hy
    refine rok_val ⟨_, by rw [hx, hy]; exact index_sound (hC.T _ _ hti) hd h1 hb, ?_⟩
    unfold VR
    rfl
  · -- lookup
    rename_i t x k ok
    split at hr
    rotate_left
    · cases hr
    rename_i ti hti
    exact rok_valO hr fun v hv => look_sound hC.T r (hC.T _ _ hti) hv (he x) (he k)
  · -- mapUpdate
    rename_i t m k x
    split at hr
    rotate_left
    · cases hr
    rename_i ti hti
    unfold doneO at hr
    split at hr
    rotate_left
    · cases hr
    rename_i h' hh'
    cases hr
    exact rok_done (upd_sound hC.T r (hC.T _ _ hti) hh' (he m) (he k) (he x))
  · rename_i t m k x
    split at hr
    rotate_left
    · cases hr
    rename_i ti hti
    unfold doneO at hr
    split at hr
    rotate_left
    · cases hr
    rename_i h' hh'
    cases hr
    exact rok_done (upd_sound hC.T r (hC.T _ _ hti) hh' (he m) (he k) (he x))
  · -- range
    rename_i t x
    split at hr
    rotate_left
    · cases hr
    rename_i ti hti
    exact rok_vok (range_sound r (hC.T _ _ hti) hr (he x))
  · -- next
    rename_i x
    exact rok_mok (next_sound r hr (he x) ty)
  · -- entry
    rename_i x
    exact rok_valO hr fun v hv => entry_sound r hv (he x)
  · -- extract
    rename_i x i
    have hx := he x
    split at hr
    rotate_left
    · cases hr
    rename_i l hxx
    rw [hxx] at hx
    unfold VR at hx
    obtain ⟨cs, h1, hx⟩ := hx
    refine rok_valO hr fun v hv => ?_
    rw [nthV_eq] at hv
    obtain ⟨y, q1, q2⟩ := h1.at_ i v hv
    refine ⟨y, ?_, q2⟩
    rw [hx]
    simp [Instr.extract, q1]
  · -- makeInterface
    rename_i t x
    split at hr
    rotate_left
    · cases hr
    rename_i ti hti
    split at hr
    rotate_left
    · cases hr
    rename_i k v hd
    cases hr
    refine rok_val ⟨.iface t (ρ x), by simp [Instr.makeInterface, run_underlying (under_map (hC.T _ _ hti) hd)], ?_⟩
    simp only [VR]
    exact ⟨_, he x, rfl⟩
  · -- typeAssert
    rename_i x u t
    have hx := he x
    split at hr
    rotate_left
    · cases hr
    rename_i u' v hxx
    split at hr
    rotate_left
    · cases hr
    rename_i ti hu hti
    split at hr
    rotate_left
    · cases hr
    rename_i k v' hd
    cases hr
    have hu := Nat.eq_of_beq_eq_true hu
    subst hu
    rw [hxx] at hx
    simp only [VR] at hx
    obtain ⟨y, h1, h2⟩ := hx
    exact rok_val ⟨y, by simp [h2, Instr.typeAssert, run_underlying (under_map (hC.T _ _ hti) hd), go_sem, Result.andThen], h1⟩
  · -- call
    rename_i c
    exact callR_sound hC hA r he c ty hr
  · cases hr
end
end Go.Proofs.Ytoamjihchmokcaa.E
