/- The executor's slices: their parts, what is appended to them, rows laid. No condition. || The executor's slices of slices and texts, conversions, lengths, rows laid. No condition. -/
import Derived.Test.YtoamjihchmokcaaE7M
import Derived.Deep.AppendSrc
import Derived.Laws.BytesString
import Derived.Laws.Small
namespace Go.Proofs.Ytoamjihchmokcaa.E
open Go.ChangeShapes Go.WideShapes Go.ChangeAt Go.RowKit Go.Deep

def rowV (l : List V) (o n : Nat) : Option (List V) := takeV n (dropV o l)
def boundV (x : Option V) (d m : Nat) : Option Nat :=
  match x with
  | none => some d
  | some (.int _ (.ofNat i)) => match Nat.ble i m with
    | true => some i
    | false => none
  | _ => none
def exOk (ex : Option Nat) (sz : Nat) : Bool :=
  match ex with
  | none => true
  | some s => Nat.beq s sz
def sliceV (sz : Nat) (b o len cap : Nat) (ex : Option Nat) (lo hi mx : Option V) : Option V :=
  match mx with
  | none => match boundV hi len cap with
    | none => none
    | some h => match boundV lo 0 h with
      | none => none
      | some l => match Nat.beq l 0 with
        | true => some (.sl b o h cap ex)
        | false => match Nat.blt l cap, exOk ex sz with
          | true, true => some (.sl b (o + l * sz) (h - l) (cap - l) ex)
          | _, _ => none
  | some _ => match hi with
    | none => none
    | some _ => match boundV mx 0 cap with
      | none => none
      | some m => match boundV hi 0 m with
        | none => none
        | some h => match boundV lo 0 h with
          | none => none
          | some l => match Nat.beq m l with
            | true => some (.sl b o (h - l) (m - l) none)
            | false => some (.sl b (o + l * sz) (h - l) (m - l) none)
def sliceA (sz b o n : Nat) (lo hi : Option V) : Option V :=
  match boundV hi n n with
  | none => none
  | some h => match boundV lo 0 h, Nat.ble n 9223372036854775807 with
    | some l, true => match Nat.beq n l with
      | true => some (.sl b o (h - l) (n - l) none)
      | false => some (.sl b (o + l * sz) (h - l) (n - l) none)
    | _, _ => none
def sliceN (lo hi mx : Option V) : Option V :=
  match boundV mx 0 0 with
  | none => none
  | some _ => match boundV hi 0 0 with
    | none => none
    | some _ => match boundV lo 0 0 with
      | none => none
      | some _ => match mx with
        | none => some .nilsl
        | some _ => match hi with
          | none => none
          | some _ => some .nilsl
noncomputable def srcV (h : H) (sz : Nat) (x : V) : Option (List V × Nat) :=
  match x with
  | .nilsl => some ([], 0)
  | .sl b o n _ _ => match h.t.get b with
    | .cells l _ _ => match rowV l o (n * sz) with
      | some m => some (m, n)
      | none => none
    | _ => none
  | _ => none
noncomputable def appendV (h : H) (e : Nat) (te : TI) (s : V) (news : List V) (n : Nat) : Option R :=
  match onesV news with
  | false => none
  | true => match s with
    | .nilsl => match Nat.beq n 0 with
      | true => some (.val .nilsl)
      | false => match room h, Nat.ble ((2 * n + 1600) * (te.by_ + 1)) 281474976710656 with
        | true, true => some (.mem (.sl h.n 0 n n (some te.size)) (h.add (.cells news e true)))
        | _, _ => none
    | .sl b o len cap ex => match h.t.get b with
      | .cells l t g => match Nat.ble (len + n) cap with
        | true => match segV (o + len * te.size) news l with
          | some m => some (.mem (.sl b o (len + n) cap ex) (h.put b (.cells m t g)))
          | none => none
        | false => match room h, Nat.ble ((2 * (len + n) + 1600) * (te.by_ + 1)) 281474976710656, rowV l o (len * te.size) with
          | true, true, some olds => match onesV olds, ex with
            | true, none => some (.mem (.sl h.n 0 (len + n) (len + n) (some te.size)) (h.add (.cells (olds ++ news) e true)))
            | true, some sz => match Nat.beq o 0, Nat.beq sz te.size, Nat.beq t e, g with
              | true, true, true, true => some (.mem (.sl h.n 0 (len + n) (len + n) (some te.size)) ((h.put b .dead).add (.cells (olds ++ news) e true)))
              | _, _, _, _ => none
            | _, _ => none
          | _, _, _ => none
      | _ => none
    | _ => none

def VOk (K : Ker) (w0 : World) (ι : I) (w : World) (res : R) (run : Result Value) : Prop :=
  match res with
  | .val v => ∃ y, run = .ok y w ∧ VR ι v y
  | .mem v h' => ∃ y w' κ, run = .ok y w' ∧ ι.Le κ ∧ Rep K w0 κ h' w' ∧ VR κ v y
  | _ => False
section
variable {P : Program} {K : Ker} {w0 w : World} {ι : I} {h : H}

theorem Rep.row_in (r : Rep K w0 ι h w) {b c : Nat} (hb : ι.blk b = some c) {l : List V} {t : Nat} {g : Bool} (hd : h.t.get b = .cells l t g) {o n : Nat} {m : List V} (hm : rowV l o n = some m) :
    ∃ ms : List Value, VRs ι m ms ∧ ms.length = n ∧ ∀ (j : Nat) (u : Value), ms[j]? = some u → w.cell? ((⟨c, o, none⟩ : Addr).add j) = some u := by
  obtain ⟨cs, more, hl, hc, _, _⟩ := r.cells_at hb hd
  obtain ⟨e1, e2⟩ := takeV_eq hm
  rw [dropV_eq] at e1
  have hv : VRs ι m ((cs.drop o).take n) := by rw [e1]; exact (hl.drop o).take _
  have hlen := hv.length
  refine ⟨_, hv, by rw [hlen, e2], fun j u hj => ?_⟩
  rw [Addr.add_lit, cell_in hc]
  have hj' : j < n := by
    have := (List.getElem?_eq_some_iff.1 hj).1
    rw [hlen, e2] at this
    exact this
  rw [List.getElem?_take, if_pos hj', List.getElem?_drop] at hj
  have : o + j < cs.length := (List.getElem?_eq_some_iff.1 hj).1
  simp only [List.getElem?_toArray]
  rw [List.getElem?_append_left this]
  exact hj

theorem grow_le (need c : Nat) (h : c < need) : Builtin.nextslicecap need c ≤ 2 * need + 1600 := by
  unfold Builtin.nextslicecap
  split
  · omega
  · split
    · omega
    · have key : ∀ (r c : Nat), c < need → Builtin.growBy need r c ≤ 2 * need + 1600 := by
        intro r
        induction r with
        | zero => intro c h; simp only [Builtin.growBy]; omega
        | succ r ih =>
          intro c h
          simp only [Builtin.growBy]
          rw [if_neg (by omega)]
          by_cases h2 : c + (c + 768) / 4 < need
          · exact ih _ h2
          · cases r with
            | zero => simp only [Builtin.growBy]; omega
            | succ r => simp only [Builtin.growBy]; rw [if_pos (by omega)]; omega
      exact key 4 c h

theorem append_room_row (t tx ty e : TypeId) (i : TypeInfo) (ht : P.underlying t = some (.slice e)) (hi : P.info? e = some i) (c o sLen sCap bt : Nat) (x : Value) (n : Nat) (news : List Value) (hs : Src P i.size tx x n news w) (cur : Array Value) (hg : w.heap[c]? = some (.cells cur bt (0, 0)))
    (hroom : sLen + n ≤ sCap) (hf : o + sLen * i.size + news.length ≤ cur.size) :
    (Builtin.append_ #[t, tx] ty #[.slice (some ⟨c, o, none⟩) sLen sCap, x]).run P w = .ok (.slice (some ⟨c, o, none⟩) (sLen + n) sCap) (w.setRow c (cur.toList.take (o + sLen * i.size) ++ news ++ cur.toList.drop (o + sLen * i.size + news.length)).toArray) := by
  have hst := run_storeCells_at (P := P) c (o + sLen * i.size) bt news 0 cur w hg (by simpa using hf) hs.one
  simp only [Nat.add_zero] at hst
  rcases hs.kind with ⟨e', hk⟩ | hk <;> simp [Builtin.append_, run_underlying ht, run_underlying hk, sizeOf, typeInfo, hi, hs.len, hroom, hs.cells, Addr.add_lit, hst]

set_option maxHeartbeats 1000000 in
theorem append_sound {T : Tb TI} (hT : TOk P T) (ha : ∀ k, (ι.atom k).oneCell' = true) (r : Rep K w0 ι h w) {t tx ty e : TypeId} {te : TI} (hu : P.underlying t = some (.slice e)) (hte : T.at_ e = some te) {s : V} {sv x : Value} (hs : VR ι s sv) {news : List V} {n : Nat} {ns : List Value} (hn : VRs ι news ns) (hx : ∀ i : TypeInfo, P.info? e = some i → Src P i.size tx x n ns w) {res : R} (hr : appendV h e te s news n = some res) :
    VOk K w0 ι w res ((Builtin.append_ #[t, tx] ty #[sv, x]).run P w) := by
  obtain ⟨i, u, z, hi, hu', hz, e0, hzs⟩ := ti_some (hT _ _ hte)
  have hS := hx i hi
  have hnl := hS.newsLen
  have esz : te.size = i.size := by rw [e0]
  have eby : te.by_ = i.bytes := by rw [e0]
  -- a new row
  have grow : ∀ (κ : I) (h1 : H) (olds : List V) (os : List Value) (base : Option Addr) (sLen sCap : Nat), ι.Le κ → (∀ k, (κ.atom k).oneCell' = true) → Rep K w0 κ h1 w → room h1 = true → VRs κ olds os → os.length = sLen * i.size →
      (∀ w' : World, w'.heap = w.heap → (Builtin.firstCells i.size sLen (.slice base sLen sCap)).run P w' = .ok os.toArray w') → sCap < sLen + n → (2 * (sLen + n) + 1600) * (te.by_ + 1) ≤ 281474976710656 →
      ∃ y w' κ', (Builtin.append_ #[t, tx] ty #[.slice base sLen sCap, x]).run P w = .ok y w' ∧ ι.Le κ' ∧ Rep K w0 κ' (h1.add (.cells (olds ++ news) e true)) w' ∧ VR κ' (.sl h1.n 0 (sLen + n) (sLen + n) (some te.size)) y := by
    intro κ h1 olds os base sLen sCap hle _ hrep hroom hol hlen hfc hcap hbig
    have hb1 : 2 * (sLen + n) + 1600 ≤ (2 * (sLen + n) + 1600) * (te.by_ + 1) := Nat.le_mul_of_pos_right _ (by omega)
    have hfit : Builtin.nextslicecap (sLen + n) sCap * i.bytes ≤ 281474976710656 := by
      refine Nat.le_trans (Nat.mul_le_mul (grow_le _ _ hcap) (Nat.le_succ i.bytes)) ?_
      rw [← eby]
      exact hbig
    have hrun := run_append_grow_src (P := P) (w := w) t tx ty e i z hu hi hz base sLen sCap os (hfc w.drew rfl) x n ns hS hcap (by omega) hfit
    have hge := grownCap_ge w (sLen + n) sCap e
    have hmx := grownCap_le_maxLen w (sLen + n) sCap e (by unfold maxLen; omega)
    have harr : ((os ++ ns).toArray ++ Builtin.zeroCells z.cells (grownCap w (sLen + n) sCap e - (sLen + n))) = ((os ++ ns) ++ (Builtin.zeroCells z.cells (grownCap w (sLen + n) sCap e - (sLen + n))).toList).toArray := by
      apply Array.ext'; simp
    rw [harr] at hrun
    generalize hmore : (Builtin.zeroCells z.cells (grownCap w (sLen + n) sCap e - (sLen + n))).toList = more at hrun
    have hml : more.length = (grownCap w (sLen + n) sCap e - (sLen + n)) * i.size := by
      rw [← hmore, ← hzs]; simp [Builtin.zeroCells]
    have htot : ((os ++ ns) ++ more).length = grownCap w (sLen + n) sCap e * i.size := by
      rw [List.length_append, List.length_append, hlen, hnl, hml, ← Nat.add_mul, ← Nat.add_mul]
      congr 1
      omega
    have hadopt := (hrep.drew).adopt (w' := w.drew.alloc (.cells ((os ++ ns) ++ more).toArray e)) (room_lt hroom) (c := w.heap.size) (t := e) (l := olds ++ news) (cs := os ++ ns) (more := more) (hol.append (hn.mono hle)) (fun hk => Nat.lt_irrefl _ (hrep.base.lt hk))
      (fun b _ _ hbb => by have := (hrep.lt b _ hbb).2; omega) (heap_alloc_new w.drew _) (fun k _ hk2 => Below.heap_alloc w.drew _ k hk2) (by simp) (fun arr t f e => by
        have : w.heap[w.heap.size]? = some (.cells arr t f) := e
        simp at this) rfl rfl rfl
    refine ⟨_, _, _, hrun, hle.trans (hrep.le_newx w.heap.size ((os ++ ns) ++ more).length), hadopt, ?_⟩
    refine VR.sl_mk (by simp [I.newx]) (Nat.le_refl _) hge (by unfold maxLen at hmx; exact hmx) (fun h => by cases h) (fun sz hsz => ?_)
    cases hsz
    show (if h1.n = h1.n then some ((os ++ ns) ++ more).length else κ.ext h1.n) = _
    rw [if_pos rfl, htot, esz, Nat.zero_add]
  unfold appendV at hr
  split at hr
  · cases hr
  cases s
  case nilsl =>
    simp only [VR] at hs
    subst hs
    dsimp only at hr
    split at hr
    · rename_i h0
      cases hr
      have h0 := Nat.eq_of_beq_eq_true h0
      subst h0
      have hns : ns = [] := List.eq_nil_of_length_eq_zero (by rw [hnl, Nat.zero_mul])
      subst hns
      refine ⟨.slice none 0 0, ?_, by simp only [VR]⟩
      rcases hS.kind with ⟨e', hk⟩ | hk <;> simp [Builtin.append_, run_underlying hu, run_underlying hk, sizeOf, typeInfo, hi, hS.len, hS.cells]
    · rename_i h0
      split at hr
      · rename_i h1 h2
        cases hr
        have h0 := Nat.ne_of_beq_eq_false h0
        have h2 := Nat.le_of_ble_eq_true h2
        have := grow ι h [] [] none 0 0 (.refl _) ha r h1 (VRs.nil_iff.2 rfl) (by simp) (fun w' _ => by simp [Builtin.firstCells]) (by omega) (by simpa using h2)
        simp only [List.nil_append, Nat.zero_add] at this
        exact this
      · cases hr
  case sl b o len cap ex =>
    dsimp only at hr
    cases hd : h.t.get b with
    | dead => rw [hd] at hr; cases hr
    | map _ _ => rw [hd] at hr; cases hr
    | iter _ _ _ _ => rw [hd] at hr; cases hr
    | iter0 => rw [hd] at hr; cases hr
    | loop _ _ _ => rw [hd] at hr; cases hr
    | dfr => rw [hd] at hr; cases hr
    | cells l bt g =>
    rw [hd] at hr
    dsimp only at hr
    obtain ⟨c, cp, hb, rfl, hlc, hcc, hcm, hex1, hex2⟩ := VR.sl_out hs
    obtain ⟨cs, more, hl, hc, hg, hK⟩ := r.cells_at hb hd
    have hcl := hl.length
    split at hr
    · rename_i hfit
      have hfit := Nat.le_of_ble_eq_true hfit
      split at hr
      · rename_i m hm
        cases hr
        obtain ⟨_, hb2⟩ := segV_eq hm
        have hnn := hn.length
        have hrun := append_room_row (P := P) (w := w) t tx ty e i hu hi c o len cp bt x n ns hS (cs ++ more).toArray hc (by omega) (by rw [← esz]; simp; omega)
        refine ⟨_, _, ι, hrun, .refl _, ?_, ?_⟩
        · have e1 : (cs ++ more).toArray.toList.take (o + len * i.size) ++ ns ++ (cs ++ more).toArray.toList.drop (o + len * i.size + ns.length) = (cs.take (o + len * te.size) ++ ns ++ cs.drop (o + len * te.size + ns.length)) ++ more := by
            rw [← esz]
            simp only [List.append_assoc]
            rw [List.take_append_of_le_length (by omega), List.drop_append_of_le_length (by omega)]
          rw [e1]
          exact r.upd_row hb hd hc (VRs.seg hm hn hl) hg (by simp only [List.length_append, List.length_take, List.length_drop]; omega)
        · exact VR.sl_mk hb hfit hcc hcm hex1 hex2
      · cases hr
    · rename_i hfit
      have hfit : cap < len + n := by
        rcases Nat.lt_or_ge cap (len + n) with hlt | hge
        · exact hlt
        · have := Nat.ble_eq_true_of_le hge
          rw [this] at hfit; cases hfit
      split at hr
      rotate_left
      · cases hr
      rename_i olds h1 h2 hm
      have h2 := Nat.le_of_ble_eq_true h2
      obtain ⟨os, hos, hol, hoc⟩ := r.row_in hb hd hm
      have hfc : ∀ w' : World, w'.heap = w.heap → (Builtin.firstCells i.size len (.slice (some ⟨c, o, none⟩) len cp)).run P w' = .ok os.toArray w' := fun w' hw' =>
        run_firstCells_some (P := P) w' i.size len ⟨c, o, none⟩ len cp os (by rw [hol, esz]) (fun j v hj => by
          have := hoc j v hj
          rw [← this]
          simp [World.cell?, hw'])
      split at hr
      · cases hr
        have hcp := hex1 rfl
        subst hcp
        exact grow ι h olds os _ len cp (.refl _) ha r h1 hos (by rw [hol, esz]) hfc hfit h2
      · rename_i sz _ _
        split at hr
        rotate_left
        · cases hr
        rename_i q1 q2 q3
        cases hr
        have q1 := Nat.eq_of_beq_eq_true q1
        have q2 := Nat.eq_of_beq_eq_true q2
        have q3 := Nat.eq_of_beq_eq_true q3
        subst q1 q2 q3
        have hbn := (r.lt b c hb).1
        have hkill := r.kill hbn
        rcases Nat.lt_or_ge cp (len + n) with hlt | hge
        · exact grow ι (h.put b .dead) olds os _ len cp (.refl _) ha hkill h1 hos (by rw [hol, esz]) hfc hlt h2
        · -- in place
          have hext := (r.ext b _ (hex2 _ rfl)).2 c hb
          obtain ⟨arr, t', f', q1, q2⟩ := hext
          rw [hc] at q1
          cases q1
          have hlen2 : (cs ++ more).length = cp * te.size := by simpa using q2
          have hnn := hn.length
          have hmul : (len + n) * te.size ≤ cp * te.size := Nat.mul_le_mul_right _ hge
          have hmul2 : len * te.size + n * te.size ≤ cp * te.size := by rw [← Nat.add_mul]; exact hmul
          have hrun := append_room_row (P := P) (w := w) t tx ty bt i hu hi c 0 len cp bt x n ns hS (cs ++ more).toArray hc (by omega) (by rw [hnl, ← esz, List.size_toArray]; omega)
          have hos2 : os = (cs ++ more).take (len * te.size) := by
            apply List.ext_getElem?
            intro j
            by_cases hj : j < len * te.size
            · have hj2 : j < os.length := by omega
              have := hoc j os[j] (List.getElem?_eq_getElem hj2)
              rw [Addr.add_lit, cell_in hc, Nat.zero_add] at this
              rw [List.getElem?_take, if_pos hj, List.getElem?_eq_getElem hj2]
              simpa using this.symm
            · rw [List.getElem?_eq_none (by omega), List.getElem?_take, if_neg hj]
          have e1 : (cs ++ more).toArray.toList.take (0 + len * i.size) ++ ns ++ (cs ++ more).toArray.toList.drop (0 + len * i.size + ns.length) = (os ++ ns) ++ (cs ++ more).drop (len * te.size + ns.length) := by
            rw [← esz, hos2]; simp
          rw [e1] at hrun
          have hlen3 : ((os ++ ns) ++ (cs ++ more).drop (len * te.size + ns.length)).length = (cs ++ more).length := by
            rw [List.length_append, List.length_append, List.length_drop, hol, hnl, ← esz]
            omega
          have hcell2 := hc
          have hadopt := hkill.adopt (w' := w.setRow c ((os ++ ns) ++ (cs ++ more).drop (len * te.size + ns.length)).toArray) (room_lt h1) (c := c) (t := bt) (l := olds ++ news) (cs := os ++ ns) (more := (cs ++ more).drop (len * te.size + ns.length)) (hos.append hn) hK
            (fun b' hb' hlt' hbb => by
              by_cases e : b' = b
              · subst e
                have : (h.t.set b' O.dead).get b' = .dead := by rw [r.perf.get_set _ _ _ (by have := r.fit; omega) (by have := r.fit; omega), if_pos rfl]
                exact hb' this
              · have hfit' := r.fit
                have hlt'' : b' < h.n := hlt'
                have : (h.t.set b O.dead).get b' = h.t.get b' := by rw [r.perf.get_set _ _ _ (by omega) (by omega), if_neg e]
                rw [this] at hb'
                exact e (r.inj b' b c hlt'' hbn hb' (by rw [hd]; simp) hbb hb))
            (setRow_heap hc) (fun k hk _ => setRow_others w c _ k hk) (by simp [World.setRow]) (fun arr t f e => by
              rw [hc] at e
              cases e
              rw [hlen3]; simp) rfl rfl rfl
          refine ⟨_, _, _, hrun, hkill.le_newx c _, hadopt, ?_⟩
          refine VR.sl_mk (by simp [I.newx]) (Nat.le_refl _) hge hcm (fun h => by cases h) (fun sz hsz => ?_)
          cases hsz
          show (if h.n = h.n then some _ else _) = _
          rw [if_pos rfl, hlen3, hlen2, Nat.zero_add]
      · cases hr
  all_goals cases hr
end
end Go.Proofs.Ytoamjihchmokcaa.E
namespace Go.Proofs.Ytoamjihchmokcaa.E
open Go.ChangeShapes Go.WideShapes Go.ChangeAt Go.RowKit Go.Deep

def OVR (ι : I) : Option V → Option Value → Prop
  | none, x => x = none
  | some v, x => ∃ y, x = some y ∧ VR ι v y
section
variable {P : Program} {K : Ker} {w0 w : World} {ι : I} {h : H}

theorem boundV_some {x : Option V} {d m i : Nat} (h : boundV x d m = some i) {y : Option Value} (hy : OVR ι x y) : (y = none ∧ x = none ∧ i = d) ∨ ∃ k, y = some (.int k (i : Int)) ∧ i ≤ m := by
  unfold boundV at h
  split at h
  · cases h; exact .inl ⟨hy, rfl, rfl⟩
  · rename_i k n
    split at h
    · rename_i hle
      cases h
      obtain ⟨z, rfl, hz⟩ := hy
      simp only [VR] at hz
      exact .inr ⟨k, by rw [hz]; rfl, Nat.le_of_ble_eq_true hle⟩
    · cases h
  · cases h

theorem bound_run (k : IntKind) (i y : Nat) (code : BoundsCode) (h : i ≤ y) : (Instr.sliceBound (.int k (i : Int)) y code).run P w = .ok i w := by
  simp [Instr.sliceBound, asIntOf, h]
theorem sliceAt_sound {t e : TypeId} {ti te : TI} (ht : tiOf P t = some ti) (hd : ti.d = .sl e) (hte : tiOf P e = some te) {b o len cap : Nat} {ex : Option Nat} {lo hi mx : Option V} {v : V} (hv : sliceV te.size b o len cap ex lo hi mx = some v) {x : Value} (hx : VR ι (.sl b o len cap ex) x) {l' h' m' : Option Value} (hlo : OVR ι lo l') (hhi : OVR ι hi h') (hmx : OVR ι mx m') :
    ∃ y, (Instr.sliceAt t x l' h' m').run P w = .ok y w ∧ VR ι v y := by
  obtain ⟨c, cp, hb, rfl, hlc, hcc, hcm, hex1, hex2⟩ := VR.sl_out hx
  have hu := under_sl ht hd
  have hs := run_size (w := w) hte
  have hsl : ∀ a b d, (Instr.sliceAt t (.slice (some ⟨c, o, none⟩) len cp) a b d).run P w = (Instr.slice t (.slice (some ⟨c, o, none⟩) len cp) a b d).run P w := fun a b d => by simp [Instr.sliceAt, run_underlying hu]
  rw [hsl]
  unfold sliceV at hv
  split at hv
  · -- no third bound
    obtain rfl : m' = none := hmx
    split at hv
    · cases hv
    rename_i hh hhb
    split at hv
    · cases hv
    rename_i ll hlb
    have hlhh : ll ≤ hh := by
      rcases boundV_some hlb hlo with ⟨_, _, rfl⟩ | ⟨k, _, hle⟩
      · exact Nat.zero_le _
      · exact hle
    have hhc : hh ≤ cap := by
      rcases boundV_some hhb hhi with ⟨_, _, rfl⟩ | ⟨k, _, hle⟩
      · exact hlc
      · exact hle
    have hrun : (Instr.slice t (.slice (some ⟨c, o, none⟩) len cp) l' h' none).run P w = .ok (.slice (some (if cp = ll then ⟨c, o, none⟩ else ⟨c, o + ll * te.size, none⟩)) (hh - ll) (cp - ll)) w := by
      rcases boundV_some hhb hhi with ⟨rfl, _, rfl⟩ | ⟨k, rfl, hle⟩ <;> rcases boundV_some hlb hlo with ⟨rfl, _, rfl⟩ | ⟨k2, rfl, hle2⟩
      · simp [Instr.slice, run_underlying hu, Instr.sliceBounds, hs, Addr.add_lit]
      · simp [Instr.slice, run_underlying hu, Instr.sliceBounds, hs, Addr.add_lit, bound_run, hle2]; split <;> rfl
      · simp [Instr.slice, run_underlying hu, Instr.sliceBounds, hs, Addr.add_lit, bound_run, show hh ≤ cp by omega]
      · simp [Instr.slice, run_underlying hu, Instr.sliceBounds, hs, Addr.add_lit, bound_run, hle2, show hh ≤ cp by omega]; split <;> rfl
    split at hv
    · rename_i h0
      cases hv
      have h0 := Nat.eq_of_beq_eq_true h0
      subst h0
      refine ⟨_, hrun, ?_⟩
      have : (if cp = 0 then (⟨c, o, none⟩ : Addr) else ⟨c, o + 0 * te.size, none⟩) = ⟨c, o, none⟩ := by split <;> simp
      rw [this]
      exact VR.sl_mk hb hhc hcc hcm hex1 hex2
    · rename_i h0
      split at hv
      · rename_i hlt hex
        cases hv
        have hlt : ll < cap := by simpa [Nat.blt_eq] using hlt
        refine ⟨_, hrun, ?_⟩
        rw [if_neg (by omega)]
        refine VR.sl_mk hb (by omega) (by omega) (by omega) (fun e => by rw [hex1 e]) (fun sz hsz => ?_)
        have e1 := hex2 sz hsz
        have e2 : sz = te.size := by
          rw [hsz] at hex
          exact Nat.eq_of_beq_eq_true hex
        subst e2
        rw [e1]
        congr 1
        rw [Nat.add_assoc, ← Nat.add_mul]
        congr 2
        omega
      · cases hv
  · -- three bounds
    rename_i m0
    split at hv
    · cases hv
    rename_i h0
    split at hv
    · cases hv
    rename_i mm hmb
    split at hv
    · cases hv
    rename_i hh hhb
    split at hv
    · cases hv
    rename_i ll hlb
    have hlhh : ll ≤ hh := by
      rcases boundV_some hlb hlo with ⟨_, _, rfl⟩ | ⟨k, _, hle⟩
      · exact Nat.zero_le _
      · exact hle
    rcases boundV_some hmb hmx with ⟨_, e, _⟩ | ⟨km, rfl, hmle⟩
    · cases e
    rcases boundV_some hhb hhi with ⟨_, e, _⟩ | ⟨kh, rfl, hhle⟩
    · cases e
    have hrun : (Instr.slice t (.slice (some ⟨c, o, none⟩) len cp) l' (some (.int kh hh)) (some (.int km mm))).run P w = .ok (.slice (some (if mm = ll then ⟨c, o, none⟩ else ⟨c, o + ll * te.size, none⟩)) (hh - ll) (mm - ll)) w := by
      rcases boundV_some hlb hlo with ⟨rfl, _, rfl⟩ | ⟨k2, rfl, hle2⟩
      · simp [Instr.slice, run_underlying hu, Instr.sliceBounds, hs, Addr.add_lit, bound_run, hhle, show mm ≤ cp by omega]
      · simp [Instr.slice, run_underlying hu, Instr.sliceBounds, hs, Addr.add_lit, bound_run, hhle, hle2, show mm ≤ cp by omega]; split <;> rfl
    refine ⟨_, hrun, ?_⟩
    split at hv
    · rename_i he
      cases hv
      rw [if_pos (Nat.eq_of_beq_eq_true he)]
      exact VR.sl_mk hb (by omega) (Nat.le_refl _) (by omega) (fun _ => rfl) (fun _ h => by cases h)
    · rename_i he
      cases hv
      rw [if_neg (Nat.ne_of_beq_eq_false he)]
      exact VR.sl_mk hb (by omega) (Nat.le_refl _) (by omega) (fun _ => rfl) (fun _ h => by cases h)
theorem sliceA_sound {t e n : Nat} {ti te : TI} (ht : tiOf P t = some ti) (hd : ti.d = .arr n e) (hte : tiOf P e = some te) {b o : Nat} {lo hi : Option V} {v : V} (hv : sliceA te.size b o n lo hi = some v) {x : Value} (hx : VR ι (.ptr b o) x) {l' h' : Option Value} (hlo : OVR ι lo l') (hhi : OVR ι hi h') :
    ∃ y, (Instr.sliceAt t x l' h' none).run P w = .ok y w ∧ VR ι v y := by
  simp only [VR] at hx
  obtain ⟨c, hb, rfl⟩ := hx
  have hu := under_arr ht hd
  have hs := run_size (w := w) hte
  unfold sliceA at hv
  split at hv
  · cases hv
  rename_i hh hhb
  split at hv
  rotate_left
  · cases hv
  rename_i ll hlb hnm
  have hnm := Nat.le_of_ble_eq_true hnm
  have hlhh : ll ≤ hh := by
    rcases boundV_some hlb hlo with ⟨_, _, rfl⟩ | ⟨k, _, hle⟩
    · exact Nat.zero_le _
    · exact hle
  have hhc : hh ≤ n := by
    rcases boundV_some hhb hhi with ⟨_, _, rfl⟩ | ⟨k, _, hle⟩
    · exact Nat.le_refl _
    · exact hle
  have hrun : (Instr.sliceAt t (.pointer (some ⟨c, o, none⟩)) l' h' none).run P w = .ok (.slice (some (if n = ll then ⟨c, o, none⟩ else ⟨c, o + ll * te.size, none⟩)) (hh - ll) (n - ll)) w := by
    rcases boundV_some hhb hhi with ⟨rfl, _, rfl⟩ | ⟨k, rfl, hle⟩ <;> rcases boundV_some hlb hlo with ⟨rfl, _, rfl⟩ | ⟨k2, rfl, hle2⟩
    · simp [Instr.sliceAt, Instr.sureAddr, run_underlying hu, Instr.sliceBounds, hs, Addr.add_lit]
    · simp [Instr.sliceAt, Instr.sureAddr, run_underlying hu, Instr.sliceBounds, hs, Addr.add_lit, bound_run, hle2]
    · simp [Instr.sliceAt, Instr.sureAddr, run_underlying hu, Instr.sliceBounds, hs, Addr.add_lit, bound_run, hle]
    · simp [Instr.sliceAt, Instr.sureAddr, run_underlying hu, Instr.sliceBounds, hs, Addr.add_lit, bound_run, hle2, hle]
  refine ⟨_, hrun, ?_⟩
  split at hv
  · rename_i hq
    cases hv
    rw [if_pos (Nat.eq_of_beq_eq_true hq)]
    exact VR.sl_mk hb (by omega) (Nat.le_refl _) (by omega) (fun _ => rfl) (fun _ h => by cases h)
  · rename_i hq
    cases hv
    rw [if_neg (Nat.ne_of_beq_eq_false hq)]
    exact VR.sl_mk hb (by omega) (Nat.le_refl _) (by omega) (fun _ => rfl) (fun _ h => by cases h)
theorem sliceN_sound {t e : TypeId} {ti te : TI} (ht : tiOf P t = some ti) (hd : ti.d = .sl e) (hte : tiOf P e = some te) {lo hi mx : Option V} {v : V} (hv : sliceN lo hi mx = some v) {l' h' m' : Option Value} (hlo : OVR ι lo l') (hhi : OVR ι hi h') (hmx : OVR ι mx m') :
    ∃ y, (Instr.sliceAt t (.slice none 0 0) l' h' m').run P w = .ok y w ∧ VR ι v y := by
  have hu := under_sl ht hd
  have hs := run_size (w := w) hte
  unfold sliceN at hv
  split at hv
  · cases hv
  rename_i mm hmb
  split at hv
  · cases hv
  rename_i hh hhb
  split at hv
  · cases hv
  rename_i ll hlb
  have fin : v = .nilsl → ∃ y : Value, (Result.ok (Value.slice none 0 0) w = Result.ok y w) ∧ VR ι v y := fun e => ⟨_, rfl, by subst e; simp only [VR]⟩
  have hm0 : m' = none ∨ ∃ k, m' = some (.int k 0) := by
    rcases boundV_some hmb hmx with ⟨h1, _, _⟩ | ⟨k, h1, h2⟩
    · exact .inl h1
    · exact .inr ⟨k, by rw [h1, show mm = 0 by omega]; rfl⟩
  have hh0 : h' = none ∨ ∃ k, h' = some (.int k 0) := by
    rcases boundV_some hhb hhi with ⟨h1, _, _⟩ | ⟨k, h1, h2⟩
    · exact .inl h1
    · exact .inr ⟨k, by rw [h1, show hh = 0 by omega]; rfl⟩
  have hl0 : l' = none ∨ ∃ k, l' = some (.int k 0) := by
    rcases boundV_some hlb hlo with ⟨h1, _, _⟩ | ⟨k, h1, h2⟩
    · exact .inl h1
    · exact .inr ⟨k, by rw [h1, show ll = 0 by omega]; rfl⟩
  have hv2 : v = .nilsl ∧ (m' ≠ none → h' ≠ none) := by
    cases mx with
    | none => cases hv; exact ⟨rfl, fun h => absurd hmx h⟩
    | some mv =>
      cases hi with
      | none => cases hv
      | some hv' =>
        cases hv
        refine ⟨rfl, fun _ h => ?_⟩
        obtain ⟨_, h1, _⟩ := hhi
        rw [h1] at h; cases h
  have b0 : ∀ (k : IntKind) (code : BoundsCode), (Instr.sliceBound (.int k 0) 0 code).run P w = .ok 0 w := fun k code => bound_run k 0 0 code (Nat.le_refl _)
  obtain ⟨y, hy, hyv⟩ := fin hv2.1
  cases hy
  refine ⟨_, ?_, hyv⟩
  rcases hm0 with rfl | ⟨km, rfl⟩ <;> rcases hh0 with rfl | ⟨kh, rfl⟩ <;> rcases hl0 with rfl | ⟨kl, rfl⟩
  all_goals first
    | (simp [Instr.sliceAt, run_underlying hu, Instr.slice, Instr.sliceBounds, hs, b0]; done)
    | (refine absurd (rfl : (none : Option Value) = none) (hv2.2 ?_); simp; done)
end
end Go.Proofs.Ytoamjihchmokcaa.E
