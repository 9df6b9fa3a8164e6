/- The program's order and the document's are one; what a plan says of the pods. Conditions: few objects that may be, of unlike names. || Maps that hold any values, read as a partial function of the key. No condition. -/
import Derived.Test.YtpbppgfogepjeaaRolLawM
import Derived.Test.YtpbppgfogepjeaaFew17
import Derived.Test.YtpbppgfogepjeaaVicOrder
import Derived.Test.YtpbppgfogepjeaaFrame
import Derived.Maps.OwnSet
import Derived.Maps.RangeWalk
import Derived.StillTailTactics
namespace Go.Proofs.Ytpbppgfogepjeaa
open Go.ChangeShapes Go.WideShapes Go.ChangeAt Go.RowKit Go.Deep

theorem may_o {x : ObI} (h : checkOf x.kd x.nm x.o = 0) : mayOk x.kd x.o = true := by
  unfold checkOf at h
  split at h
  · cases h
  · split at h
    · cases h
    · split at h
      · rename_i h1
        rw [Bool.and_eq_true] at h1
        exact h1.1
      · cases h
theorem btw_of {a l h : Int} (e : btw a l h = true) : l ≤ a ∧ a ≤ h := by
  unfold btw at e
  simpa using e
theorem wl_rep {x : ObI} (h : checkOf x.kd x.nm x.o = 0) (hk : x.kd = 0) : 0 ≤ x.o.w.rep ∧ x.o.w.rep ≤ 1000000 := by
  have := may_o h
  rw [hk] at this
  unfold mayOk at this
  rw [if_pos rfl] at this
  unfold wlOk at this
  rw [Bool.and_eq_true] at this
  exact btw_of this.1
theorem pod_ph {x : ObI} (h : checkOf x.kd x.nm x.o = 0) (hk : x.kd = 1) : 0 ≤ x.o.p.phase ∧ x.o.p.phase ≤ 3 := by
  have := may_o h
  rw [hk] at this
  unfold mayOk at this
  rw [if_neg (by decide), if_pos rfl] at this
  unfold podOk at this
  simp only [Bool.and_eq_true] at this
  exact btw_of this.2.2.1

theorem later_nm {a b : List UInt8} : (!Op.bytesLess a b && !(a == b)) = Op.bytesLess b a := by
  cases h1 : Op.bytesLess a b
  · cases h2 : Op.bytesLess b a
    · have := less_tri h1 h2
      subst this
      simp
    · have : a ≠ b := fun e => by subst e; rw [less_irrefl] at h2; cases h2
      simp [this]
  · cases h2 : Op.bytesLess b a
    · rfl
    · have := less_trO h1 h2
      rw [less_irrefl] at this
      cases this
theorem soon_iff (a b : ObI) : soonI a b = true ↔ a.o.p.phase < b.o.p.phase ∨ (a.o.p.phase = b.o.p.phase ∧ (b.o.p.since < a.o.p.since ∨ (b.o.p.since = a.o.p.since ∧ Op.bytesLess b.nm.toList a.nm.toList = true))) := by
  have e : soonI a b = if a.o.p.phase = b.o.p.phase then (if a.o.p.since = b.o.p.since then (!Op.bytesLess a.nm.toList b.nm.toList && !(a.nm.toList == b.nm.toList)) else decide (a.o.p.since > b.o.p.since)) else decide (a.o.p.phase < b.o.p.phase) := rfl
  rw [e, later_nm]
  by_cases h1 : a.o.p.phase = b.o.p.phase
  · rw [if_pos h1]
    by_cases h2 : a.o.p.since = b.o.p.since
    · rw [if_pos h2, h1, h2]
      simp
    · rw [if_neg h2, h1]
      simp
      omega
  · rw [if_neg h1]
    simp [h1]
theorem soon_tr (a b c : ObI) (h1 : soonI a b = true) (h2 : soonI b c = true) : soonI a c = true := by
  rw [soon_iff] at *
  rcases h1 with h1 | ⟨e1, h1⟩
  · rcases h2 with h2 | ⟨e2, _⟩
    · exact .inl (by omega)
    · exact .inl (by omega)
  · rcases h2 with h2 | ⟨e2, h2⟩
    · exact .inl (by omega)
    · refine .inr ⟨e1.trans e2, ?_⟩
      rcases h1 with h1 | ⟨f1, h1⟩
      · rcases h2 with h2 | ⟨f2, _⟩
        · exact .inl (by omega)
        · exact .inl (by omega)
      · rcases h2 with h2 | ⟨f2, h2⟩
        · exact .inl (by omega)
        · exact .inr ⟨f2.trans f1, less_trO h2 h1⟩
theorem soon_irr (a b : ObI) (h1 : soonI a b = true) (h2 : soonI b a = true) : False := by
  have := soon_tr _ _ _ h1 h2
  rw [soon_iff] at this
  rcases this with h | ⟨_, h | ⟨_, h⟩⟩
  · omega
  · omega
  · rw [less_irrefl] at h
    cases h
theorem soon_tot (a b : ObI) (h : a.nm ≠ b.nm) : soonI a b = true ∨ soonI b a = true := by
  rw [soon_iff, soon_iff]
  rcases Int.lt_trichotomy a.o.p.phase b.o.p.phase with h1 | h1 | h1
  · exact .inl (.inl h1)
  · rcases Int.lt_trichotomy a.o.p.since b.o.p.since with h2 | h2 | h2
    · exact .inr (.inr ⟨h1.symm, .inl h2⟩)
    · cases h3 : Op.bytesLess a.nm.toList b.nm.toList
      · cases h4 : Op.bytesLess b.nm.toList a.nm.toList
        · exact absurd (toList_injO.1 (less_tri h3 h4)) h
        · exact .inl (.inr ⟨h1, .inr ⟨h2.symm, rfl⟩⟩)
      · exact .inr (.inr ⟨h1.symm, .inr ⟨h2, rfl⟩⟩)
    · exact .inl (.inr ⟨h1, .inl h2⟩)
  · exact .inr (.inl h1)
theorem soon_of {a b : TOb} (ha : 0 ≤ a.1.o.p.phase ∧ a.1.o.p.phase ≤ 2) (hb : 0 ≤ b.1.o.p.phase ∧ b.1.o.p.phase ≤ 2) (hne : a.1.nm ≠ b.1.nm) (h : TOOb a b) : soonI a.1 b.1 = true := by
  have hr : ∀ p : Int, 0 ≤ p ∧ p ≤ 2 → rankI p = p + 1 := fun p hp => by
    unfold rankI
    repeat' split
    all_goals omega
  rw [soon_iff]
  unfold TOOb at h
  rw [hr _ ha, hr _ hb] at h
  rcases h with h | ⟨h1, h⟩
  · exact .inl (by omega)
  · refine .inr ⟨by omega, ?_⟩
    rcases h with h | ⟨h2, h⟩
    · exact .inl h
    · refine .inr ⟨h2, ?_⟩
      rcases h with h | ⟨h3, _⟩
      · exact h
      · exact absurd (toList_injO.1 h3.symm) hne

structure LiveOk (L : List ObI) : Prop where
  unlike : L.Pairwise fun a b => a.nm ≠ b.nm
  ph : ∀ y ∈ L, 0 ≤ y.o.p.phase ∧ y.o.p.phase ≤ 2
theorem live_ok {F : ObI → Prop} {x : ObI} {l : List ObI} (h : FewOk F l) : LiveOk (liveI x l) := by
  have hk : ∀ y ∈ liveI x l, y.kd = 1 := fun y hy => liveI_kind hy
  refine ⟨?_, fun y hy => ?_⟩
  · have h1 : (liveI x l).Pairwise fun a b => ¬ (a.kd = b.kd ∧ a.nm = b.nm) := h.unlike.sublist List.filter_sublist
    exact List.Pairwise.imp_of_mem (fun {a b} ha hb hh e => hh ⟨(hk a ha).trans (hk b hb).symm, e⟩) h1
  · have hm := List.mem_filter.1 hy
    have h1 := pod_ph (h.each y hm.1).2 (hk y hy)
    have h2 := hm.2
    unfold isLive at h2
    rw [Bool.and_eq_true] at h2
    have h3 : y.o.p.phase ≠ 3 := by
      have := h2.2
      intro e
      rw [show y.ov.phase = y.o.p.phase from rfl, e] at this
      cases this
    omega
theorem one_order {L ys : List ObI} (h : LiveOk L) (hs : SortedO L ys) : ys = insL L [] := by
  have hp := hs.perm
  have h2 := insAll_spec soonI soon_tr L [] List.Pairwise.nil (h.unlike.imp fun {a b} hne => soon_tot a b hne) (fun a ha => by cases ha)
  rw [List.append_nil] at h2
  refine sorted_one soonI soon_irr ?_ h2.1 (hp.trans h2.2.symm)
  have hu : ys.Pairwise fun a b => a.nm ≠ b.nm := (hp.pairwise_iff (fun {a b} h e => h e.symm)).2 h.unlike
  obtain ⟨d, hd1, hd2, rfl⟩ := hs
  rw [List.pairwise_map] at hu ⊢
  have hm : ∀ t ∈ d, t.1 ∈ L := fun t ht => hp.mem_iff.1 (List.mem_map_of_mem ht)
  refine List.Pairwise.imp_of_mem (fun {a b} ha hb hh => ?_) (hd2.and hu)
  exact soon_of (h.ph _ (hm a ha)) (h.ph _ (hm b hb)) hh.2 hh.1

theorem says35 {L : List ObI} (h : LiveOk L) (x : ObI) (n s a : Int) :
    let S := stepL (pvI x) n s a (insL L []) (L.filter fun y => !freshB x y).length (L.filter fun y => freshB x y).length (rdy (pvI x) L) (rdy (pvI x) (L.filter fun y => freshB x y))
    ((L.length : Int) ≤ n + s → (L.length : Int) + S.create ≤ n + s) ∧ (rdy (pvI x) L < n - a ∨ n - a ≤ rdy (pvI x) L - lostN (pvI x) L S.names) := by
  have h2 := insAll_spec soonI soon_tr L [] List.Pairwise.nil (h.unlike.imp fun {a b} hne => soon_tot a b hne) (fun a ha => by cases ha)
  rw [List.append_nil] at h2
  refine step_says (pvI x) n s a L (insL L []) h.unlike (fun p hp q hq e => ?_) h2.2 _ _ _ ?_
  · have := h.unlike
    rcases List.getElem_of_mem hp with ⟨i, hi, rfl⟩
    rcases List.getElem_of_mem hq with ⟨j, hj, rfl⟩
    rcases Nat.lt_trichotomy i j with hh | hh | hh
    · exact absurd e (List.pairwise_iff_getElem.1 this i j hi hj hh)
    · subst hh; rfl
    · exact absurd e.symm (List.pairwise_iff_getElem.1 this j i hj hi hh)
  · exact len_split (pvI x) L
end Go.Proofs.Ytpbppgfogepjeaa
namespace Go.Proofs.Ytpbppgfogepjeaa
open Go.ChangeShapes Go.WideShapes Go.ChangeAt Go.RowKit Go.Deep Go.Maps

def heldElem (v : Value) : Option (DataW Value × List MemPlace) := some (.held v, [])

def Tells (D : DataW Value) (f : Lit → Option Value) : Prop := ∀ kl, Maps.has D kl = (f kl).isSome ∧ ∀ z, D.atKey kl z = ((f kl).map DataW.held).getD z

def fset {α : Type} (f : Lit → Option α) (kl : Lit) (v : α) : Lit → Option α := fun x => if x.sameKey kl = true then some v else f x

def MapIs (w : World) (P : Program) (k : TypeId) (b n : Nat) (f : Lit → Option Value) : Prop := ∃ D, w.ownsMap P k heldElem b n D ∧ Maps.size D = n ∧ Tells D f

theorem ownsMap_size {P : Program} {k : TypeId} {R : Value → Option (DataW Value × List MemPlace)} {w : World} {b n : Nat} {D : DataW Value} (h : w.ownsMap P k R b n D) : w.ownsMap P k R b (Maps.size D) D := by
  obtain ⟨es, clock, h1, h2, _, rfl⟩ := h
  exact ⟨es, clock, h1, h2, by simp [Maps.size, length_sorted], rfl⟩

theorem Tells.nil : Tells (.map []) (fun _ => none) := fun _ => ⟨rfl, fun _ => rfl⟩

section
variable {P : Program} {k : TypeId} {w w' : World} {b n : Nat} {f : Lit → Option Value}

theorem MapIs.made (w : World) (P : Program) (k : TypeId) : MapIs (w.alloc (.map #[] 0)) P k w.heap.size 0 (fun _ => none) :=
  ⟨.map [], World.ownsMap_made w P k heldElem, rfl, Tells.nil⟩

theorem MapIs.lt (h : MapIs w P k b n f) : b < w.heap.size := let ⟨_, h1, _⟩ := h; h1.lt

theorem MapIs.same (h : MapIs w P k b n f) (hb : w'.heap[b]? = w.heap[b]?) : MapIs w' P k b n f := by
  obtain ⟨D, ⟨es, clock, h1, r⟩, hn, h2⟩ := h
  exact ⟨D, ⟨es, clock, hb.trans h1, r⟩, hn, h2⟩

theorem MapIs.fr (h : MapIs w P k b n f) {S : Nat → Prop} (hf : Fr S w w') (hS : ¬ S b) : MapIs w' P k b n f := h.same (hf.block b h.lt hS)
theorem MapIs.below (h : MapIs w P k b n f) (hf : Below w.heap.size w w') : MapIs w' P k b n f := h.same (hf.block b h.lt)

theorem Tells.put {D : DataW Value} (h : Tells D f) (hD : IsMap D) {kl : Lit} (hk : WideAt.IsKeyLit kl) (v : Value) : Tells (D.put kl (.held v)) (fset f kl v) := by
  intro x
  by_cases e : x = kl
  · subst e
    have hs : x.sameKey x = true := by
      cases x <;> simp [Lit.sameKey, WideAt.IsKeyLit] at hk ⊢
    refine ⟨?_, fun z => ?_⟩
    · rw [has_put_same hD hk]; simp [fset, hs]
    · rw [atKey_put_same hD hk]; simp [fset, hs]
  · have hs : x.sameKey kl = false := sameKey_ne e
    refine ⟨?_, fun z => ?_⟩
    · rw [has_put_other e, (h x).1]; simp [fset, hs]
    · rw [atKey_put_other e, (h x).2]; simp [fset, hs]

theorem Fr.turned {b : Nat} (S : Nat → Prop) (h : w.mapTurned w' b) (hS : S b) : Fr S w w' := Fr.grown h.grown (fun k hk => by cases hk; exact hS)

theorem MapIs.look (h : MapIs w P k b n f) {t e : TypeId} (K : Keyed P k) (ht : P.underlying t = some (.map k e)) {z : Value} (hz : (zeroValue e).run P w = .ok z w) {key : Value} {kl : Lit} (hkey : keyOf P k key = some kl) :
    (Instr.lookup t (.map (some b)) key false).run P w = .ok ((f kl).getD z) w := by
  obtain ⟨D, h1, _, h2⟩ := h
  obtain ⟨v, ps, hrun, hv⟩ := h1.lookup K ht hz (zd := .held z) (zp := []) rfl hkey
  rw [(h2 kl).2] at hv
  simp only [heldElem, Option.some.injEq, Prod.mk.injEq] at hv
  rw [hrun]
  cases hf : f kl with
  | none => rw [hf] at hv; simp at hv; rw [hv.1]; rfl
  | some u => rw [hf] at hv; simp at hv; rw [hv.1]; rfl

theorem MapIs.store (h : MapIs w P k b n f) {t e : TypeId} (K : Keyed P k) (ht : P.underlying t = some (.map k e)) (hn : n < maxLen) {key val : Value} {kl : Lit} (hkey : keyOf P k key = some kl) :
    ∃ w', (Instr.mapUpdate t (.map (some b)) key val).run P w = .ok () w' ∧ MapIs w' P k b (if (f kl).isSome then n else n + 1) (fset f kl val) ∧ w.mapTurned w' b := by
  obtain ⟨D, h1, hs, h2⟩ := h
  obtain ⟨w', hr, ho, ht'⟩ := h1.store K ht hn hkey (d := .held val) (ps := []) rfl
  have e : Maps.size (D.put kl (.held val)) = if (f kl).isSome then n else n + 1 := by
    rw [size_put (h1.tidy K), (h2 kl).1, hs]
  exact ⟨w', hr, ⟨_, e ▸ ownsMap_size ho, e, h2.put h1.isMap (K.key hkey) val⟩, ht'⟩

theorem MapIs.len (h : MapIs w P k b n f) {t e : TypeId} (ht : P.underlying t = some (.map k e)) (ty : TypeId) :
    (Builtin.len_ #[t] ty #[.map (some b)]).run P w = .ok (.int .i64 n) w := by
  obtain ⟨D, h1, hs, h2⟩ := h
  rw [← hs]
  exact h1.len ht ty
end

section
variable {P : Program} (w : World) {ops : Array Oper} {rest : List Oper} {o : Oper} {a : Act} {Q : Exit → Act → World → Prop}

theorem wpList_look (hg : o.guard = none) (m x : Operand) (t : TypeId) (hop : o.op = Op.lookup t m x false) (k e : TypeId) (K : Keyed P k) (ht : P.underlying t = some (.map k e)) {z : Value} (hz : (zeroValue e).run P w = .ok z w)
    (b n : Nat) (f : Lit → Option Value) (hm : a.eval m = .map (some b)) (hown : MapIs w P k b n f) (key : Value) (kl : Lit) (hx : a.eval x = key) (hkey : keyOf P k key = some kl)
    (v : Value) (hv : (f kl).getD z = v)
    (hK : wpList P ops Q rest (a.put o.dst v) w) : wpList P ops Q (o :: rest) a w := by
  subst hv
  refine wpList_plain hg fun K' hK' => ?_
  have hrun := hown.look K ht hz hkey
  unfold Oper.wp
  simp [execOp, hop, hm, hx, hrun, Result.andThen]
  exact hK' _ _ hK

theorem wpList_map_store (hg : o.guard = none) (m x v : Operand) (t : TypeId) (hop : o.op = Op.mapUpdate t m x v) (k e : TypeId) (K : Keyed P k) (ht : P.underlying t = some (.map k e))
    (b n : Nat) (f : Lit → Option Value) (hm : a.eval m = .map (some b)) (hown : MapIs w P k b n f) (hn : n < maxLen) (key val : Value) (kl : Lit) (hx : a.eval x = key) (hv : a.eval v = val) (hkey : keyOf P k key = some kl)
    (n' : Nat) (hn' : (if (f kl).isSome then n else n + 1) = n')
    (hK : ∀ w', MapIs w' P k b n' (fset f kl val) → w.mapTurned w' b → wpList P ops Q rest (a.put o.dst undef) w') : wpList P ops Q (o :: rest) a w := by
  refine wpList_plain hg fun K' hK' => ?_
  subst hn'
  obtain ⟨w', hrun, r1, r2⟩ := hown.store K ht hn (val := val) hkey
  unfold Oper.wp
  simp [execOp, hop, hm, hx, hv, hrun, Result.andThen]
  exact hK' _ _ (hK w' r1 r2)

end

section
variable {P : Program} (w : World) {ops : Array Oper} {rest : List Oper} {o : Oper} {a : Act} {Q : Exit → Act → World → Prop}

end


def byStr {α : Type} (enc : α → Value) (f : List UInt8 → Option α) : Lit → Option Value
  | .string s => (f s).map enc
  | _ => none

def sset {α : Type} (f : List UInt8 → Option α) (s : List UInt8) (x : α) : List UInt8 → Option α := fun y => if y = s then some x else f y

theorem fset_byStr {α : Type} (enc : α → Value) (f : List UInt8 → Option α) (s : List UInt8) (x : α) : fset (byStr enc f) (.string s) (enc x) = byStr enc (sset f s x) := by
  funext kl
  cases kl <;> simp [fset, byStr, Lit.sameKey]
  rename_i y
  by_cases h : y = s <;> simp [sset, h]

theorem byStr_nil {α : Type} (enc : α → Value) : byStr enc (fun _ => none) = fun _ => none := by
  funext kl
  cases kl <;> rfl

def StrMap {α : Type} (enc : α → Value) (w : World) (P : Program) (k : TypeId) (b n : Nat) (f : List UInt8 → Option α) : Prop := MapIs w P k b n (byStr enc f)

theorem StrMap.made {α : Type} (enc : α → Value) (w : World) (P : Program) (k : TypeId) : StrMap enc (w.alloc (.map #[] 0)) P k w.heap.size 0 (fun _ => none) := by
  unfold StrMap
  rw [byStr_nil]
  exact MapIs.made w P k
end Go.Proofs.Ytpbppgfogepjeaa
