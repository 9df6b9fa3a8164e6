/- Each operation of the executor is the program's: all of them. No condition. -/
import Derived.Test.YtamhijbnmhdhbaaE16
namespace Go.Proofs.Ytamhijbnmhdhbaa.E
open Go.ChangeShapes Go.WideShapes Go.ChangeAt Go.RowKit Go.Deep Go.MapKept

section
variable {P : Program} {K : Ker} {w0 w : World} {ι : I} {h : H} {C : Cf}
set_option maxHeartbeats 1000000 in
theorem opR_sound (hC : C.Ok P) (hA : Atoms C P K w0 ι) (r : Rep K w0 ι h w) {e : Operand → V} {ρ : Operand → Value} (he : ∀ x, VR ι (e x) (ρ x)) (o : Oper) {res : R} (hr : opR C e h o.op = some res) : ROk P K w0 ι w res ((execOp ρ o).run P w) := by
  have ha := hA.at_
  obtain ⟨dst, op, ty, pos, after, guard⟩ := o
  dsimp only at hr
  unfold opR at hr
  split at hr
  · -- move
    cases hr; exact ⟨_, rfl, he _⟩
  · cases hr; exact ⟨_, rfl, he _⟩
  · -- pick
    rename_i c a b
    have hc := he c
    split at hr
    · rename_i q
      cases hr
      rw [q] at hc
      unfold VR at hc
      exact ⟨ρ a, by simp [execOp, hc, asBool], he a⟩
    · rename_i q
      cases hr
      rw [q] at hc
      unfold VR at hc
      exact ⟨ρ b, by simp [execOp, hc, asBool], he b⟩
    · cases hr
  · -- alloc
    rename_i t
    split at hr
    rotate_left
    · cases hr
    rename_i ti hti
    split at hr
    rotate_left
    · cases hr
    rename_i l hl
    obtain ⟨hroom, rfl⟩ := newB_out hr
    obtain ⟨w', q1, q2⟩ := alloc_sound r hroom (hC.T _ _ hti) hl
    exact rok_mem ⟨_, w', _, q1, r.le_new _, q2, new_ptr ι _ _⟩
  · -- box
    rename_i t x
    split at hr
    rotate_left
    · cases hr
    rename_i l hl
    obtain ⟨hroom, rfl⟩ := newB_out hr
    obtain ⟨w', q1, q2⟩ := box_sound (P := P) r hroom t (he x) hl
    exact rok_mem ⟨_, w', _, q1, r.le_new _, q2, new_ptr ι _ _⟩
  · -- build
    rename_i t parts
    split at hr
    rotate_left
    · cases hr
    rename_i ti hti
    refine rok_valO hr fun v hv => ?_
    obtain ⟨m1, m2⟩ := mapP_sound he parts.toList
    have e1 : parts.map (fun (i, x) => (i, ρ x)) = (parts.toList.map fun p => (p.1, ρ p.2)).toArray := by rw [← Array.toList_map]
    rw [e1]
    exact build_sound (hC.T _ _ hti) hv m1 m2
  · -- buildSlice
    rename_i t n parts
    split at hr
    rotate_left
    · cases hr
    rename_i ti hti
    split at hr
    rotate_left
    · cases hr
    rename_i el hd
    split at hr
    rotate_left
    · cases hr
    rename_i te hte
    split at hr
    rotate_left
    · cases hr
    rename_i l hl hn
    obtain ⟨hroom, rfl⟩ := newB_out hr
    obtain ⟨m1, m2⟩ := mapP_sound he parts.toList
    have e1 : parts.map (fun (i, x) => (i, ρ x)) = (parts.toList.map fun p => (p.1, ρ p.2)).toArray := by rw [← Array.toList_map]
    obtain ⟨y, w', q1, q2, q3⟩ := buildSlice_sound r hroom (hC.T _ _ hti) hd (hC.T _ _ hte) hl m1 m2 (Nat.le_of_ble_eq_true hn)
    rw [← e1] at q1
    exact rok_mem ⟨_, w', _, q1, r.le_new _, q2, q3⟩
  · -- makeSlice
    rename_i t x y
    split at hr
    rotate_left
    · cases hr
    rename_i ti hti
    split at hr
    rotate_left
    · cases hr
    rename_i el hd
    split at hr
    rotate_left
    · cases hr
    rename_i te hte
    split at hr
    rotate_left
    · cases hr
    rename_i l n c hl
    obtain ⟨hroom, rfl⟩ := newB_out hr
    obtain ⟨z, w', q1, q2, q3⟩ := makeSlice_sound r hroom (hC.T _ _ hti) hd (hC.T _ _ hte) hl (he x) (he y)
    exact rok_mem ⟨_, w', _, q1, r.le_new _, q2, q3⟩
  · -- load
    rename_i t x
    have hx := he x
    split at hr
    rotate_left
    · cases hr
    rename_i b o hxx
    split at hr
    rotate_left
    · cases hr
    rename_i l bt g ti hd hti
    rw [hxx] at hx
    obtain ⟨c, hb, hx⟩ := ptr_out hx
    obtain ⟨cs, more, hl, hc, _, _⟩ := r.cells_at hb hd
    refine rok_valO hr fun v hv => ?_
    rw [hx]
    exact loadV_sound (hC.T _ _ hti) hv hc hl
  · -- store
    rename_i t x y
    have hx := he x
    split at hr
    rotate_left
    · cases hr
    rename_i b o hxx
    split at hr
    rotate_left
    · cases hr
    rename_i l bt g ti vs hd hti hvs
    split at hr
    rotate_left
    · cases hr
    rename_i m hn h1 hm
    cases hr
    rw [hxx] at hx
    obtain ⟨c, hb, hx⟩ := ptr_out hx
    obtain ⟨w', q1, q2⟩ := store_sound r ha (hC.T _ _ hti) hb hd (he y) hvs (Nat.eq_of_beq_eq_true hn) h1 hm
    rw [← hx] at q1
    exact rok_done ⟨w', q1, q2⟩
  · -- nilCheck
    rename_i x
    have hx := he x
    split at hr
    rotate_left
    · cases hr
    rename_i b o hxx
    cases hr
    rw [hxx] at hx
    have hx0 := hx
    obtain ⟨c, hb, hx⟩ := ptr_out hx
    exact ⟨.pointer (some ⟨c, o, none⟩), by simp [execOp, hx], by rw [← hx]; exact hx0⟩
  · -- binOp
    rename_i op t x y yt
    have hx := he x
    have hy := he y
    split at hr
    · rename_i l m hl hm
      rw [hl] at hx
      rw [hm] at hy
      exact rok_valO hr fun v hv => agg_eq_sound hC hv hx hy x y
    · split at hr
      · rename_i v hv
        cases hr
        exact rok_val (hA.bin _ _ _ _ hv ι rfl t x y _ _ w hx hy)
      · exact rok_valO hr fun v hv => binR_sound hC hv hx hy x y
  · -- unOp
    rename_i op t x
    exact rok_valO hr fun v hv => un_sound hv (he x)
  · -- convert
    rename_i s d x
    split at hr
    rotate_left
    · cases hr
    rename_i ts td hts htd
    exact rok_valO hr fun v hv => conv_sound hC.T r (hC.T _ _ hts) (hC.T _ _ htd) hv (he x)
  · -- makeFunc
    rename_i f caps
    cases hr
    refine rok_val ⟨_, rfl, ?_⟩
    unfold VR
    have e1 : caps.map ρ = (caps.toList.map ρ).toArray := by rw [← Array.toList_map]
    exact ⟨_, mapV_sound he caps.toList, by rw [e1]; simp⟩
  · -- makeMap
    rename_i t
    obtain ⟨hroom, rfl⟩ := newB_out hr
    obtain ⟨w', q1, q2⟩ := makeMap_sound (P := P) r hroom t
    refine rok_mem ⟨_, w', _, q1, r.le_new _, q2, ?_⟩
    unfold VR
    exact ⟨w.heap.size, by simp [I.new], rfl⟩
  · -- slice
    rename_i t x lo hi mx
    have hx := he x
    split at hr
    rotate_left
    · cases hr
    rename_i ti hti
    split at hr
    · rename_i s hd hxx
      rw [hxx] at hx
      obtain ⟨h1, hx⟩ := str_out hx
      split at hr
      · refine rok_valO hr fun v hv => ?_
        rw [hx]
        exact sub_sound (hC.T _ _ hti) hd h1 hv (mapO_sound he lo) (mapO_sound he hi)
      · cases hr
    · rename_i el b o len cap ex hd hxx
      rw [hxx] at hx
      split at hr
      · rename_i te hte
        exact rok_valO hr fun v hv => sliceAt_sound (hC.T _ _ hti) hd (hC.T _ _ hte) hv hx (mapO_sound he lo) (mapO_sound he hi) (mapO_sound he mx)
      · cases hr
    · rename_i el hd hxx
      rw [hxx] at hx
      unfold VR at hx
      split at hr
      · rename_i te hte
        refine rok_valO hr fun v hv => ?_
        rw [hx]
        exact sliceN_sound (hC.T _ _ hti) hd (hC.T _ _ hte) hv (mapO_sound he lo) (mapO_sound he hi) (mapO_sound he mx)
      · cases hr
    · rename_i n el b o hd hxx
      rw [hxx] at hx
      split at hr
      · rename_i te hte
        exact rok_valO hr fun v hv => sliceA_sound (hC.T _ _ hti) hd (hC.T _ _ hte) hv hx (mapO_sound he lo) (mapO_sound he hi)
      · cases hr
    · cases hr
  · -- fieldAddr
    rename_i t x f
    have hx := he x
    split at hr
    rotate_left
    · cases hr
    rename_i b o hxx
    split at hr
    rotate_left
    · cases hr
    rename_i ti hti
    split at hr
    rotate_left
    · cases hr
    rename_i p hp
    split at hr
    rotate_left
    · cases hr
    rename_i h0
    cases hr
    rw [hxx] at hx
    obtain ⟨c, hb, hx⟩ := ptr_out hx
    refine rok_val ⟨_, by rw [hx]; exact fieldAt_sound (hC.T _ _ hti) hp h0 c o, ?_⟩
    unfold VR
    exact ⟨c, hb, rfl⟩
  · -- field
    rename_i t x f
    have hx := he x
    split at hr
    rotate_left
    · cases hr
    rename_i l hxx
    split at hr
    rotate_left
    · cases hr
    rename_i ti hti
    split at hr
    rotate_left
    · cases hr
    rename_i p hp
    split at hr
    rotate_left
    · cases hr
    rename_i tf htf
    rw [hxx] at hx
    obtain ⟨cs, h1, hx⟩ := agg_out hx
    refine rok_valO hr fun v hv => ?_
    rw [hx]
    exact field_sound hC.T (hC.T _ _ hti) hp htf h1 hv
  · -- indexAddr
    rename_i t x y
    have hx := he x
    have hy := he y
    split at hr
    · rename_i b o len cap ex k i hxx hyy
      split at hr
      rotate_left
      · cases hr
      rename_i ti hti
      split at hr
      rotate_left
      · cases hr
      rename_i el hd
      split at hr
      rotate_left
      · cases hr
      rename_i te hte hlt
      cases hr
      rw [hxx] at hx
      rw [hyy] at hy
      obtain ⟨c, cp, hb, hx, _⟩ := VR.sl_out hx
      have hy := int_out hy
      refine rok_val ⟨_, by rw [hx, hy]; exact indexAt_sound hC.T (hC.T _ _ hti) hd hte hlt, ?_⟩
      unfold VR
      exact ⟨c, hb, rfl⟩
    · rename_i b o k i hxx hyy
      split at hr
      rotate_left
      · cases hr
      rename_i ti hti
      split at hr
      rotate_left
      · cases hr
      rename_i n el hd
      split at hr
      rotate_left
      · cases hr
      rename_i te hte hlt
      cases hr
      rw [hxx] at hx
      rw [hyy] at hy
      obtain ⟨c, hb, hx⟩ := ptr_out hx
      have hy := int_out hy
      refine rok_val ⟨_, by rw [hx, hy]; exact indexArr_sound hC.T (hC.T _ _ hti) hd hte hlt, ?_⟩
      unfold VR
      exact ⟨c, hb, rfl⟩
    · cases hr
  · -- index
    rename_i t x y
    have hx := he x
    have hy := he y
    split at hr
    rotate_left
    · cases hr
    rename_i s k i hxx hyy
    split at hr
    rotate_left
    · cases hr
    rename_i ti hti
    split at hr
    rotate_left
    · cases hr
    rename_i b hd hb
    cases hr
    rw [hxx] at hx
    rw [hyy] at hy
    obtain ⟨h1, hx⟩ := str_out hx
    have hy := int_out hy
    refine rok_val ⟨_, by rw [hx, hy]; exact index_sound (hC.T _ _ hti) hd h1 hb, ?_⟩
    unfold VR
    rfl
  · -- lookup
    rename_i t x k ok
    split at hr
    rotate_left
    · cases hr
    rename_i ti hti
    exact rok_valO hr fun v hv => look_sound hC.T r (hC.T _ _ hti) hv (he x) (he k)
  · -- mapUpdate
    rename_i t m k x
    split at hr
    rotate_left
    · cases hr
    rename_i ti hti
    unfold doneO at hr
    split at hr
    rotate_left
    · cases hr
    rename_i h' hh'
    cases hr
    exact rok_done (upd_sound hC.T r (hC.T _ _ hti) hh' (he m) (he k) (he x))
  · rename_i t m k x
    split at hr
    rotate_left
    · cases hr
    rename_i ti hti
    unfold doneO at hr
    split at hr
    rotate_left
    · cases hr
    rename_i h' hh'
    cases hr
    exact rok_done (upd_sound hC.T r (hC.T _ _ hti) hh' (he m) (he k) (he x))
  · -- range
    rename_i t x
    split at hr
    rotate_left
    · cases hr
    rename_i ti hti
    exact rok_vok (range_sound r (hC.T _ _ hti) hr (he x))
  · -- next
    rename_i x
    exact rok_mok (next_sound r hr (he x) ty)
  · -- entry
    rename_i x
    exact rok_valO hr fun v hv => entry_sound r hv (he x)
  · -- extract
    rename_i x i
    have hx := he x
    split at hr
    rotate_left
    · cases hr
    rename_i l hxx
    rw [hxx] at hx
    unfold VR at hx
    obtain ⟨cs, h1, hx⟩ := hx
    refine rok_valO hr fun v hv => ?_
    rw [nthV_eq] at hv
    obtain ⟨y, q1, q2⟩ := h1.at_ i v hv
    refine ⟨y, ?_, q2⟩
    rw [hx]
    simp [Instr.extract, q1]
  · -- makeInterface
    rename_i t x
    split at hr
    rotate_left
    · cases hr
    rename_i ti hti
    split at hr
    rotate_left
    · cases hr
    rename_i k v hd
    cases hr
    refine rok_val ⟨.iface t (ρ x), by simp [Instr.makeInterface, run_underlying (under_map (hC.T _ _ hti) hd)], ?_⟩
    simp only [VR]
    exact ⟨_, he x, rfl⟩
  · -- typeAssert
    rename_i x u t
    have hx := he x
    split at hr
    rotate_left
    · cases hr
    rename_i u' v hxx
    split at hr
    rotate_left
    · cases hr
    rename_i ti hu hti
    split at hr
    rotate_left
    · cases hr
    rename_i k v' hd
    cases hr
    have hu := Nat.eq_of_beq_eq_true hu
    subst hu
    rw [hxx] at hx
    simp only [VR] at hx
    obtain ⟨y, h1, h2⟩ := hx
    exact rok_val ⟨y, by simp [h2, Instr.typeAssert, run_underlying (under_map (hC.T _ _ hti) hd), go_sem, Result.andThen], h1⟩
  · -- call
    rename_i c
    exact callR_sound hC hA r he c ty hr
  · cases hr
end
end Go.Proofs.Ytamhijbnmhdhbaa.E
