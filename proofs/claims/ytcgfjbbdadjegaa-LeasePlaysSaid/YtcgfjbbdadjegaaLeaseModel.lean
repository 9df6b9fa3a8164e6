/- The plain law of LeasePlays: a list of leases in the order in which they came, beside a board. No program. -/
import Derived.Test.YtcgfjbbdadjegaaLeasePlain
import Derived.Test.YtcgfjbbdadjegaaVals
namespace Go.Proofs.Ytcgfjbbdadjegaa
open Go.Maps Go.RowKit

/-- The list and the board tell the same. -/
structure Sync (ls : List Lease) (b : Bd) : Prop where
  f : ∀ s, b.f s = ls.find? (fun x => decide (x.name.data.toList = s))
  nd : (ls.map fun x => x.name.data.toList).Nodup
  n : b.n = ls.length

theorem Sync.key {ls : List Lease} {b : Bd} (h : Sync ls b) : ∀ s x, b.f s = some x → x.name.data.toList = s := fun s x hx => by
  rw [h.f] at hx
  simpa using List.find?_some hx

theorem Sync.mem {ls : List Lease} {b : Bd} (h : Sync ls b) {x : Lease} (hx : x ∈ ls) : b.f x.name.data.toList = some x := by
  rw [h.f]
  have hnd := h.nd
  clear h
  induction ls with
  | nil => cases hx
  | cons y ys ih =>
    rw [List.map_cons, List.nodup_cons] at hnd
    rw [List.find?_cons]
    rcases List.mem_cons.1 hx with rfl | hx
    · simp
    · have hne : y.name.data.toList ≠ x.name.data.toList := fun e => hnd.1 (by rw [e]; exact List.mem_map.2 ⟨x, hx, rfl⟩)
      rw [decide_eq_false hne]
      exact ih hx hnd.2

theorem Sync.of {ls : List Lease} {b : Bd} (h : Sync ls b) {s : List UInt8} {x : Lease} (hx : b.f s = some x) : x ∈ ls := by
  rw [h.f] at hx
  exact List.mem_of_find?_eq_some hx

/-- Where one of that name is. -/
def nmIs (nm : ByteArray) (x : Lease) : Bool := x.name.toList == nm.toList

theorem nmIs_iff {nm : ByteArray} {x : Lease} : nmIs nm x = true ↔ x.name = nm := by
  unfold nmIs
  rw [beq_iff_eq, toList_inj]

structure FoundAt (ls : List Lease) (b : Bd) (nm : ByteArray) (i : Int) (x : Lease) : Prop where
  no : i < 0 → i = -1 ∧ b.f nm.data.toList = none ∧ x = .zero
  yes : 0 ≤ i → ∃ k : Nat, i = k ∧ ls[k]? = some x ∧ x.name = nm ∧ b.f nm.data.toList = some x

/-- The list behind an act that came about. -/
def mset (ls : List Lease) (i : Int) (x : Lease) : List Lease := if i < 0 then ls ++ [x] else ls.set i.toNat x

theorem Sync.act {ls : List Lease} {b : Bd} (h : Sync ls b) {nm : ByteArray} {i : Int} {x y : Lease} (hf : FoundAt ls b nm i x) (hy : y.name = nm) : Sync (mset ls i y) (b.putAt nm.data.toList y) := by
  unfold mset
  by_cases hi : i < 0
  · rw [if_pos hi]
    obtain ⟨_, hn, _⟩ := hf.no hi
    refine ⟨fun s => ?_, ?_, ?_⟩
    · show sset b.f nm.data.toList y s = _
      rw [List.find?_append]
      unfold sset
      by_cases e : s = nm.data.toList
      · subst e
        rw [if_pos rfl, ← h.f, hn]
        simp [hy]
      · rw [if_neg e, h.f]
        have : ¬ nm.data.toList = s := fun q => e q.symm
        simp [hy, this]
    · rw [List.map_append]
      refine List.nodup_append.2 ⟨h.nd, by simp, fun a ha c hc => ?_⟩
      obtain ⟨z, hz, rfl⟩ := List.mem_map.1 ha
      simp only [List.map_cons, List.map_nil, List.mem_singleton] at hc
      subst hc
      intro e
      have := h.mem hz
      rw [e, hy, hn] at this
      cases this
    · simp [Bd.putAt, hn, h.n]
  · rw [if_neg hi]
    obtain ⟨k, rfl, hk, hxn, hb⟩ := hf.yes (by omega)
    obtain ⟨hkl, hke⟩ := List.getElem?_eq_some_iff.1 hk
    have hm : (ls.set k y).map (fun x => x.name.data.toList) = ls.map fun x => x.name.data.toList := by
      rw [List.map_set]
      refine List.ext_getElem? fun j => ?_
      rw [List.getElem?_set]
      split
      · rename_i e
        subst e
        simp [hkl, hke, hxn, hy]
      · rfl
    refine ⟨fun s => ?_, by rw [Int.toNat_natCast, hm]; exact h.nd, by simp [Bd.putAt, hb, h.n]⟩
    rw [Int.toNat_natCast]
    show sset b.f nm.data.toList y s = _
    have hnd : ((ls.set k y).map fun x => x.name.data.toList).Nodup := by rw [hm]; exact h.nd
    have hS : Sync (ls.set k y) ⟨(ls.set k y).length, fun s => (ls.set k y).find? (fun x => decide (x.name.data.toList = s))⟩ := ⟨fun _ => rfl, hnd, rfl⟩
    unfold sset
    by_cases e : s = nm.data.toList
    · subst e
      rw [if_pos rfl]
      have := hS.mem (x := y) (List.mem_of_getElem? (i := k) (by simp [hkl]))
      rw [← hy]
      exact this.symm
    · rw [if_neg e]
      cases hb2 : b.f s with
      | some z =>
        have hz := h.of hb2
        have hzs := h.key s z hb2
        obtain ⟨j, hj, hje⟩ := List.getElem_of_mem hz
        have hjk : k ≠ j := fun q => e (by subst q; rw [← hzs, ← hje, hke, hxn])
        have := hS.mem (x := z) (List.mem_of_getElem? (i := j) (by rw [List.getElem?_set]; simp [hjk, hj, hje]))
        rw [← hzs]
        exact this.symm
      | none =>
        symm
        rw [List.find?_eq_none]
        intro z hz hq
        have hzs : z.name.data.toList = s := by simpa using hq
        rcases List.mem_or_eq_of_mem_set hz with q | q
        · have := h.mem q
          rw [hzs, hb2] at this
          cases this
        · subst q
          exact e (by rw [← hzs, hy])

/-- Whether whom an act may be. -/
def wantOf (kd tk : Int) (nm ho : ByteArray) (now i : Int) (x : Lease) : Int :=
  if nameOf nm.data.toList = true ∧ nameOf ho.data.toList = true then
    if tk < 1 ∨ 1800 < tk then 1
    else if kd ≠ 0 ∧ kd ≠ 1 ∧ i < 0 then 7
    else if (kd ≠ 0 ∧ kd ≠ 1 ∧ ¬ (0 ≤ i ∧ x.holder = ho ∧ now < x.till)) ∨ (0 ≤ i ∧ now < x.till ∧ x.holder ≠ ho) then 12 else 0
  else 6

/-- What the board does. -/
def actOf (b : Bd) (kd tk : Int) (nm ho : ByteArray) (now : Int) : Lease × Int × Bd :=
  if kd = 0 ∨ kd = 1 then takeOf b nm ho now tk else if kd = 2 then renewOf b nm ho now tk else (.zero, (giveOf b nm ho now).1, (giveOf b nm ho now).2)

/-- What the model makes of its lease. -/
def newOf (kd tk : Int) (ho : ByteArray) (now i : Int) (x : Lease) : Lease :=
  if kd = 0 ∨ kd = 1 then ⟨x.name, x.holder, wrap64 (now + tk), if i < 0 ∨ x.holder ≠ ho then wrap64 (x.turns + 1) else x.turns⟩
  else if kd = 2 then ⟨x.name, x.holder, max x.till (wrap64 (now + tk)), x.turns⟩ else ⟨x.name, x.holder, now, x.turns⟩

def tkOf (kd tk : Int) : Int := if kd = 0 ∨ kd = 1 ∨ kd = 2 then tk else 1

structure ActOk (b : Bd) (kd tk : Int) (nm ho : ByteArray) (now i : Int) (x : Lease) : Prop where
  bad : wantOf kd (tkOf kd tk) nm ho now i x ≠ 0 → (actOf b kd tk nm ho now).2.1 = wantOf kd (tkOf kd tk) nm ho now i x ∧ (actOf b kd tk nm ho now).1 = .zero ∧ (actOf b kd tk nm ho now).2.2 = b
  good : wantOf kd (tkOf kd tk) nm ho now i x = 0 → (actOf b kd tk nm ho now).2.1 = 0 ∧ (actOf b kd tk nm ho now).2.2 = b.putAt nm.data.toList ⟨nm, ho, (newOf kd (tkOf kd tk) ho now i x).till, (newOf kd (tkOf kd tk) ho now i x).turns⟩ ∧
    (kd = 0 ∨ kd = 1 ∨ kd = 2 → (actOf b kd tk nm ho now).1 = ⟨nm, ho, (newOf kd (tkOf kd tk) ho now i x).till, (newOf kd (tkOf kd tk) ho now i x).turns⟩)

theorem wrap_in {n : Int} (h1 : 0 ≤ n) (h2 : n ≤ 4611686018427387904 + 1800) : wrap64 n = n := by
  unfold wrap64
  omega

theorem right_want {kd tk now i : Int} {nm ho : ByteArray} {x : Lease} (h0 : 0 ≤ now) (h1 : now ≤ 4611686018427387904) :
    (rightOf nm ho now tk ≠ 0 → wantOf kd tk nm ho now i x = rightOf nm ho now tk) ∧ (rightOf nm ho now tk = 0 → wantOf kd tk nm ho now i x = (if kd ≠ 0 ∧ kd ≠ 1 ∧ i < 0 then 7
    else if (kd ≠ 0 ∧ kd ≠ 1 ∧ ¬ (0 ≤ i ∧ x.holder = ho ∧ now < x.till)) ∨ (0 ≤ i ∧ now < x.till ∧ x.holder ≠ ho) then 12 else 0)) := by
  unfold rightOf wantOf
  by_cases hn : nameOf nm.data.toList = true ∧ nameOf ho.data.toList = true
  · rw [if_pos hn, if_pos hn]
    by_cases ht : tk < 1 ∨ 1800 < tk
    · rw [if_pos (by omega), if_pos ht]; exact ⟨fun _ => rfl, fun h => by cases h⟩
    · rw [if_neg (by omega), if_neg ht]; exact ⟨fun h => absurd rfl h, fun _ => rfl⟩
  · rw [if_neg hn, if_neg hn]; exact ⟨fun _ => rfl, fun h => by cases h⟩

theorem act_ok {ls : List Lease} {b : Bd} {kd tk now i : Int} {nm ho : ByteArray} {x : Lease} (h0 : 0 ≤ now) (h1 : now ≤ 4611686018427387904) (h512 : b.n < 512) (hf : FoundAt ls b nm i x) : ActOk b kd tk nm ho now i x := by
  have hR := right_want (kd := kd) (tk := tkOf kd tk) (i := i) (x := x) (nm := nm) (ho := ho) h0 h1
  by_cases hk : kd = 0 ∨ kd = 1
  · have e1 : tkOf kd tk = tk := by unfold tkOf; rw [if_pos (by omega)]
    have e2 : actOf b kd tk nm ho now = takeOf b nm ho now tk := by unfold actOf; rw [if_pos hk]
    have e3 : newOf kd tk ho now i x = ⟨x.name, x.holder, wrap64 (now + tk), if i < 0 ∨ x.holder ≠ ho then wrap64 (x.turns + 1) else x.turns⟩ := by unfold newOf; rw [if_pos hk]
    rw [e1] at hR
    by_cases hr : rightOf nm ho now tk = 0
    · have hw := hR.2 hr
      have hg := right_range hr
      have ew : wrap64 (now + tk) = now + tk := wrap_in (by omega) (by omega)
      rw [if_neg (by omega)] at hw
      by_cases hi : i < 0
      · obtain ⟨_, hn, rfl⟩ := hf.no hi
        rw [if_neg (by omega)] at hw
        have ht : takeOf b nm ho now tk = (⟨nm, ho, now + tk, 1⟩, 0, b.put ⟨nm, ho, now + tk, 1⟩) := by
          unfold takeOf
          rw [if_pos hr, hn]
          dsimp only
          rw [if_neg (by omega)]
        refine ⟨fun h => ?_, fun _ => ?_⟩
        · rw [e1, hw] at h; exact absurd rfl h
        · rw [e1, e2, e3, ht, ew, if_pos (.inl hi), show wrap64 (Lease.zero.turns + 1) = 1 from (by show wrap64 (0 + 1) = 1; unfold wrap64; decide)]
          exact ⟨rfl, rfl, fun _ => rfl⟩
      · obtain ⟨k, rfl, _, hxn, hb⟩ := hf.yes (by omega)
        by_cases hh : x.holder = ho
        · rw [if_neg (by rintro (h | h); exact absurd hk (by omega); exact h.2.2 hh)] at hw
          have ht : takeOf b nm ho now tk = (⟨nm, ho, now + tk, x.turns⟩, 0, b.put ⟨nm, ho, now + tk, x.turns⟩) := by
            unfold takeOf
            rw [if_pos hr, hb]
            dsimp only
            rw [if_pos hh]
          refine ⟨fun h => ?_, fun _ => ?_⟩
          · rw [e1, hw] at h; exact absurd rfl h
          · rw [e1, e2, e3, ht, ew, if_neg (by rintro (h | h); exact hi h; exact h hh)]
            exact ⟨rfl, rfl, fun _ => rfl⟩
        · by_cases hl : now < x.till
          · rw [if_pos (.inr ⟨by omega, hl, hh⟩)] at hw
            have ht : takeOf b nm ho now tk = (.zero, 12, b) := by
              unfold takeOf
              rw [if_pos hr, hb]
              dsimp only
              rw [if_neg hh, if_pos hl]
            refine ⟨fun _ => ?_, fun h => ?_⟩
            · rw [e1, e2, hw, ht]; exact ⟨rfl, rfl, rfl⟩
            · rw [e1, hw] at h; cases h
          · rw [if_neg (by rintro (h | h); exact absurd hk (by omega); exact hl h.2.1)] at hw
            have ht : takeOf b nm ho now tk = (⟨nm, ho, now + tk, wrap64 (x.turns + 1)⟩, 0, b.put ⟨nm, ho, now + tk, wrap64 (x.turns + 1)⟩) := by
              unfold takeOf
              rw [if_pos hr, hb]
              dsimp only
              rw [if_neg hh, if_neg hl]
            refine ⟨fun h => ?_, fun _ => ?_⟩
            · rw [e1, hw] at h; exact absurd rfl h
            · rw [e1, e2, e3, ht, ew, if_pos (.inr hh)]
              exact ⟨rfl, rfl, fun _ => rfl⟩
    · have hw := hR.1 hr
      have ht : takeOf b nm ho now tk = (.zero, rightOf nm ho now tk, b) := by unfold takeOf; rw [if_neg hr]
      refine ⟨fun _ => ?_, fun h => ?_⟩
      · rw [e1, e2, hw, ht]; exact ⟨rfl, rfl, rfl⟩
      · rw [e1, hw] at h; exact absurd h hr
  · -- Renew and Give ask for the own lease
    have hown : ownOf b nm ho now = if i < 0 then (.zero, 7) else if x.holder = ho ∧ now < x.till then (x, 0) else (.zero, 12) := by
      unfold ownOf
      by_cases hi : i < 0
      · rw [(hf.no hi).2.1, if_pos hi]
      · obtain ⟨k, _, _, _, hb⟩ := hf.yes (by omega)
        rw [hb, if_neg hi]
    have hwant : ∀ {tk' : Int}, rightOf nm ho now tk' = 0 → wantOf kd tk' nm ho now i x = if i < 0 then 7 else if x.holder = ho ∧ now < x.till then 0 else 12 := by
      intro tk' hr
      rw [(right_want h0 h1).2 hr]
      by_cases hi : i < 0
      · rw [if_pos (by omega), if_pos hi]
      · rw [if_neg (by omega), if_neg hi]
        by_cases ho' : x.holder = ho ∧ now < x.till
        · rw [if_pos ho', if_neg]
          rintro (h | h)
          · exact h.2.2 ⟨by omega, ho'⟩
          · exact h.2.2 ho'.1
        · rw [if_neg ho', if_pos (.inl ⟨by omega, by omega, fun h => ho' h.2⟩)]
    by_cases h2 : kd = 2
    · have e1 : tkOf kd tk = tk := by unfold tkOf; rw [if_pos (by omega)]
      have e2 : actOf b kd tk nm ho now = renewOf b nm ho now tk := by unfold actOf; rw [if_neg hk, if_pos h2]
      have e3 : newOf kd tk ho now i x = ⟨x.name, x.holder, max x.till (wrap64 (now + tk)), x.turns⟩ := by unfold newOf; rw [if_neg hk, if_pos h2]
      rw [e1] at hR
      by_cases hr : rightOf nm ho now tk = 0
      · have hw := hwant hr
        have hg := right_range hr
        have ew : wrap64 (now + tk) = now + tk := wrap_in (by omega) (by omega)
        have ht : renewOf b nm ho now tk = renewWith b nm now tk (ownOf b nm ho now) := by unfold renewOf; rw [if_pos hr]
        rw [hown] at ht
        by_cases hi : i < 0
        · rw [if_pos hi] at hw ht
          refine ⟨fun _ => ?_, fun h => ?_⟩
          · rw [e1, e2, hw, ht]; exact ⟨rfl, rfl, rfl⟩
          · rw [e1, hw] at h; cases h
        · rw [if_neg hi] at hw ht
          obtain ⟨k, rfl, _, hxn, hb⟩ := hf.yes (by omega)
          by_cases hh : x.holder = ho ∧ now < x.till
          · rw [if_pos hh] at hw ht
            refine ⟨fun h => ?_, fun _ => ?_⟩
            · rw [e1, hw] at h; exact absurd rfl h
            · rw [e1, e2, e3, ht, ew]
              have hx := hh.1
              subst hxn hx
              exact ⟨rfl, rfl, fun _ => rfl⟩
          · rw [if_neg hh] at hw ht
            refine ⟨fun _ => ?_, fun h => ?_⟩
            · rw [e1, e2, hw, ht]; exact ⟨rfl, rfl, rfl⟩
            · rw [e1, hw] at h; cases h
      · have hw := hR.1 hr
        have ht : renewOf b nm ho now tk = (.zero, rightOf nm ho now tk, b) := by unfold renewOf; rw [if_neg hr]
        refine ⟨fun _ => ?_, fun h => ?_⟩
        · rw [e1, e2, hw, ht]; exact ⟨rfl, rfl, rfl⟩
        · rw [e1, hw] at h; exact absurd h hr
    · have e1 : tkOf kd tk = 1 := by unfold tkOf; rw [if_neg (by omega)]
      have e2 : actOf b kd tk nm ho now = (.zero, (giveOf b nm ho now).1, (giveOf b nm ho now).2) := by unfold actOf; rw [if_neg hk, if_neg h2]
      have e3 : newOf kd 1 ho now i x = ⟨x.name, x.holder, now, x.turns⟩ := by unfold newOf; rw [if_neg hk, if_neg h2]
      have hkd : ¬ (kd = 0 ∨ kd = 1 ∨ kd = 2) := by omega
      rw [e1] at hR
      by_cases hr : rightOf nm ho now 1 = 0
      · have hw := hwant hr
        have ht : giveOf b nm ho now = giveWith b nm now (ownOf b nm ho now) := by unfold giveOf; rw [if_pos hr]
        rw [hown] at ht
        by_cases hi : i < 0
        · rw [if_pos hi] at hw ht
          refine ⟨fun _ => ?_, fun h => ?_⟩
          · rw [e1, e2, hw, ht]; exact ⟨rfl, rfl, rfl⟩
          · rw [e1, hw] at h; cases h
        · rw [if_neg hi] at hw ht
          obtain ⟨k, rfl, _, hxn, hb⟩ := hf.yes (by omega)
          by_cases hh : x.holder = ho ∧ now < x.till
          · rw [if_pos hh] at hw ht
            refine ⟨fun h => ?_, fun _ => ?_⟩
            · rw [e1, hw] at h; exact absurd rfl h
            · rw [e1, e2, e3, ht]
              have hx := hh.1
              subst hxn hx
              exact ⟨rfl, rfl, fun h => absurd h hkd⟩
          · rw [if_neg hh] at hw ht
            refine ⟨fun _ => ?_, fun h => ?_⟩
            · rw [e1, e2, hw, ht]; exact ⟨rfl, rfl, rfl⟩
            · rw [e1, hw] at h; cases h
      · have hw := hR.1 hr
        have ht : giveOf b nm ho now = (rightOf nm ho now 1, b) := by unfold giveOf; rw [if_neg hr]
        refine ⟨fun _ => ?_, fun h => ?_⟩
        · rw [e1, e2, hw, ht]; exact ⟨rfl, rfl, rfl⟩
        · rw [e1, hw] at h; exact absurd h hr

/-- No more leases than the list has. -/
theorem all_le {ls : List Lease} {b : Bd} (h : Sync ls b) {xs : List Lease} (hA : AllOf b.f xs) : xs.length ≤ ls.length := by
  obtain ⟨h1, h2, h3⟩ := hA
  have hs : ∀ x ∈ xs, x ∈ ls := fun x hx => h.of (h2 x hx)
  have hnd : xs.Nodup := List.Pairwise.of_map (fun x : Lease => x.name.data.toList) (fun a b hab e => hab (by rw [e])) h1
  clear h1 h2 h3 h
  induction xs generalizing ls with
  | nil => exact Nat.zero_le _
  | cons x xs ih =>
    rw [List.nodup_cons] at hnd
    obtain ⟨l1, l2, rfl⟩ := List.append_of_mem (hs x (by simp))
    have := ih (ls := l1 ++ l2) (fun y hy => by
      have h3 := hs y (by simp [hy])
      have hne : y ≠ x := fun e => hnd.1 (e ▸ hy)
      simp [hne] at h3 ⊢
      exact h3) hnd.2
    simp at this ⊢
    omega
end Go.Proofs.Ytcgfjbbdadjegaa
