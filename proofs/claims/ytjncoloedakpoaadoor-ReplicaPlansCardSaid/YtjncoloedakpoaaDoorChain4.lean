/- The check of a row of operations, in a region; frames that are written out. No condition. -/
import Derived.Test.YtjncoloedakpoaaDoorChain3
namespace Go.Proofs.YtjncoloedakpoaaDoor
open Go.ChangeShapes Go.WideShapes Go.ChangeAt Go.RowKit Go.Deep

variable {P : Program} {β : Nat → Nat × Nat} {C : World → Prop} {T : Tab} {ops : Array Oper} {N : Nat}

def lookK : List (Nat × SV) → Nat → Option SV
  | [], _ => none
  | e :: r, s => match Nat.beq e.1 s with
    | true => some e.2
    | false => lookK r s
theorem lookK_mem : ∀ {l : List (Nat × SV)} {s : Nat} {v : SV}, lookK l s = some v → (s, v) ∈ l
  | [], _, _, h => by cases h
  | x :: r, s, v, h => by
    unfold lookK at h
    split at h
    · rename_i hb
      cases h
      have := beq_true hb
      subst this
      simp
    · simp [lookK_mem h]

def mixL (β : Nat → Nat × Nat) (ws : Option (List Nat)) (kn : List (Nat × SV)) (f : Nat → Value) : Nat → List Value → List Value
  | _, [] => []
  | i, x :: r => (match lookK kn i with
    | some sv => sv.den β
    | none => match ws with
      | none => f i
      | some l => match memN l i with
        | true => f i
        | false => x) :: mixL β ws kn f (i + 1) r
def wsOk (ws : Option (List Nat)) (ds : List Nat) : Bool :=
  match ws with
  | none => true
  | some l => ds.all (memN l)

theorem memN_of : ∀ {l : List Nat} {y : Nat}, y ∈ l → memN l y = true
  | x :: r, y, h => by
    unfold memN
    rcases List.mem_cons.1 h with rfl | h
    · rw [Nat.beq_refl]; rfl
    · rw [memN_of h, Bool.or_true]

theorem mixL_at {ws : Option (List Nat)} {kn : List (Nat × SV)} {f : Nat → Value} : ∀ (L : List Value) (i k : Nat), (mixL β ws kn f i L)[k]? = (L[k]?).map fun x => match lookK kn (i + k) with
    | some sv => sv.den β
    | none => match ws with
      | none => f (i + k)
      | some l => match memN l (i + k) with
        | true => f (i + k)
        | false => x
  | [], i, k => by simp [mixL]
  | x :: r, i, k => by
    unfold mixL
    cases k with
    | zero => simp only [List.getElem?_cons_zero, Option.map_some, Nat.add_zero]
    | succ k =>
      rw [List.getElem?_cons_succ, List.getElem?_cons_succ, mixL_at r (i + 1) k, show i + 1 + k = i + (k + 1) by omega]

def outV (S : St) (s : Nat) : Option SV :=
  match look S.env s with
  | some ⟨_, [], _, sv⟩ => some sv
  | _ => none

def mkInit (l : List (Nat × SV)) : List Ent := l.map fun p => ⟨p.1, [], none, p.2⟩

theorem mkInit_inv {L : List Value} {ds : List Deferred} {init : List (Nat × SV)} (h : init.map (fun p => L[p.1]?) = init.map (fun p => some (p.2.den β))) : Inv β ⟨mkInit init, [], []⟩ ⟨L.toArray, ds⟩ := by
  have key : ∀ s e, look (mkInit init) s = some e → e.gs = [] ∧ e.org = none ∧ L[s]? = some (e.sv.den β) := by
    intro s e he
    have h1 := look_slot he
    unfold mkInit at h1
    obtain ⟨p, hp, rfl⟩ := List.mem_map.1 h1.2
    refine ⟨rfl, rfl, ?_⟩
    have hs := h1.1
    dsimp only at hs ⊢
    subst hs
    exact (List.map_inj_left.1 h) p hp
  refine ⟨fun s e he => ?_, fun s e he => ?_, fun s e he => ?_⟩
  · obtain ⟨h1, h2, h3⟩ := key s e he
    rw [h1]
    simpa [holds] using h3
  · obtain ⟨h1, h2, h3⟩ := key s e he
    rw [h2]
    intro g hg
    cases hg
  · obtain ⟨h1, h2, h3⟩ := key s e he
    rw [h1]
    intro p hp
    cases hp

theorem frame_lit {S' : St} {a' : Act} {l : List Oper} {L : List Value} {ds : List Deferred} {kn : List (Nat × SV)} (i1 : Inv β S' a') (i2 : a'.tmps.size = N) (i3 : a'.defers = ds) (i4 : ∀ s, s ∉ dstsOf l → a'.tmps[s]? = L.toArray[s]?)
    (hN : L.length = N) (hk : (kn.map fun p => outV S' p.1) = kn.map fun p => some p.2) (ws : Option (List Nat)) (hws : wsOk ws (dstsOf l) = true) (L' : (Nat → Value) → List Value) (hm : ∀ f, mixL β ws kn f 0 L = L' f) : ∃ f, a' = ⟨(L' f).toArray, ds⟩ := by
  obtain ⟨tm, df⟩ := a'
  dsimp only at i2 i3 i4
  subst i3
  refine ⟨fun i => tm.getD i undef, ?_⟩
  congr 1
  rw [← hm]
  apply Array.ext_getElem?
  intro i
  rw [show (mixL β ws kn (fun i => tm.getD i undef) 0 L).toArray[i]? = (mixL β ws kn (fun i => tm.getD i undef) 0 L)[i]? from List.getElem?_toArray .., mixL_at, Nat.zero_add]
  by_cases hlt : i < L.length
  · have hlt2 : i < tm.size := by omega
    have hf : some (tm.getD i undef) = tm[i]? := by
      rw [Array.getElem?_eq_getElem hlt2, Array.getD, dif_pos hlt2]
      rfl
    rw [List.getElem?_eq_getElem hlt, Option.map_some]
    cases hkn : lookK kn i with
    | some sv =>
      dsimp only
      have h1 := (List.map_inj_left.1 hk) _ (lookK_mem hkn)
      dsimp only at h1
      unfold outV at h1
      split at h1
      · rename_i sl org sv2 he
        cases h1
        have h2 := i1.at_ i _ he
        dsimp only at h2
        rw [h2]
        rfl
      · cases h1
    | none =>
      dsimp only
      cases ws with
      | none => exact hf.symm
      | some lw =>
        dsimp only
        cases hws1 : memN lw i
        · dsimp only
          rw [i4 i (fun hh => by
            have := List.all_eq_true.1 hws i hh
            rw [hws1] at this
            cases this), List.getElem?_toArray, List.getElem?_eq_getElem hlt]
        · exact hf.symm
  · have hlt2 : ¬ i < tm.size := by omega
    rw [Array.getElem?_eq_none (by omega), List.getElem?_eq_none (by omega)]
    rfl
theorem chain_quiet (hT : T.Ok P β C) {l : List Oper} {L : List Value} {ds : List Deferred} (init kn : List (Nat × SV)) (obs : List Ob) (hN : L.length = N)
    (hI : init.map (fun p => L[p.1]?) = init.map (fun p => some (p.2.den β)))
    (hrun : (runL T N ops l ⟨mkInit init, [], []⟩).map (fun S => (kn.map fun p => outV S p.1, S.obs)) = some (kn.map fun p => some p.2, obs))
    (hob : ∀ ob ∈ obs, ob.holds P β C) (ws : Option (List Nat)) (hws : wsOk ws (dstsOf l) = true) (L' : (Nat → Value) → List Value) (hm : ∀ f, mixL β ws kn f 0 L = L' f) {Q : Act → Prop} (h : ∀ f, Q ⟨(L' f).toArray, ds⟩) : wpQuiet P ops C Q l ⟨L.toArray, ds⟩ := by
  obtain ⟨S', hS, he⟩ := Option.map_eq_some_iff.1 hrun
  simp only [Prod.mk.injEq] at he
  obtain ⟨hk, ho⟩ := he
  refine runL_sound hT l _ S' _ (mkInit_inv hI) (by simpa using hN) hS (fun ob hb => hob ob (ho ▸ hb)) fun a' i1 i2 i3 i4 => ?_
  obtain ⟨f, hf⟩ := frame_lit (l := l) i1 i2 i3 i4 hN hk ws hws L' hm
  rw [hf]
  exact h f

theorem wpList_of_quiet {R : Act → Prop} {Q : Exit → Act → World → Prop} {l2 : List Oper} (h2 : ∀ a' w', C w' → R a' → wpList P ops Q l2 a' w') : ∀ (l : List Oper) (a : Act) (w : World), C w → wpQuiet P ops C R l a → wpList P ops Q (l ++ l2) a w
  | [], a, w, hw, h => h2 a w hw h
  | o :: l, a, w, hw, h => by
    rw [List.cons_append]
    unfold wpQuiet at h
    unfold wpList
    split
    · rename_i hq
      rw [if_pos hq] at h
      exact .inl (Oper.wp_of_quiet hw (fun a' w' hw' hk => wpList_of_quiet h2 l a' w' hw' hk) h)
    · rename_i hq
      rw [if_neg hq] at h
      exact wpList_of_quiet h2 l _ w hw h

theorem region_chain (C : World → Prop) (β : Nat → Nat × Nat) (T : Tab) {id : Nat} {l : List Oper} {L : List Value} {ds : List Deferred} {Q : Exit → Act → World → Prop} {w : World} (n : Nat) (hC : C w) (hT : T.Ok P β C) (init kn : List (Nat × SV)) (obs : List Ob) (hN : L.length = N)
    (hI : init.map (fun p => L[p.1]?) = init.map (fun p => some (p.2.den β)))
    (hrun : (runL T N l.toArray (l.take n) ⟨mkInit init, [], []⟩).map (fun S => (kn.map fun p => outV S p.1, S.obs)) = some (kn.map fun p => some p.2, obs))
    (hob : ∀ ob ∈ obs, ob.holds P β C) (ws : Option (List Nat)) (hws : wsOk ws (dstsOf (l.take n)) = true) (L' : (Nat → Value) → List Value) (hm : ∀ f, mixL β ws kn f 0 L = L' f)
    (h : ∀ f w', C w' → wpList P l.toArray Q (l.drop n) ⟨(L' f).toArray, ds⟩ w') : (Code.region id l.toArray false).wp P Q ⟨L.toArray, ds⟩ w := by
  refine wp_region_lit ?_
  have := wpList_of_quiet (P := P) (ops := l.toArray) (Q := Q) (l2 := l.drop n) (fun a' w' hw' (h : ∀ w', C w' → wpList P l.toArray Q (l.drop n) a' w') => h w' hw') (l.take n) ⟨L.toArray, ds⟩ w hC
    (chain_quiet hT init kn obs hN hI hrun hob ws hws L' hm (fun f w' hw' => h f w' hw'))
  rwa [List.take_append_drop] at this

def allB (l : List Oper) : Bool := ordL l 0 && (Region.noSelect l.toArray && pairsB l.toArray l 0)
theorem region_chain_all (C : World → Prop) (β : Nat → Nat × Nat) (T : Tab) {id : Nat} {l : List Oper} {L : List Value} {ds : List Deferred} {Q : Exit → Act → World → Prop} {w : World} (hmx : P.follows .mixedOrders = true) (hB : allB l = true) (hC : C { w with drawn := w.drawn + 1 }) (hT : T.Ok P β C) (init kn : List (Nat × SV)) (obs : List Ob) (hN : L.length = N)
    (hI : init.map (fun p => L[p.1]?) = init.map (fun p => some (p.2.den β)))
    (hrun : (runL T N l.toArray l ⟨mkInit init, [], []⟩).map (fun S => (kn.map fun p => outV S p.1, S.obs)) = some (kn.map fun p => some p.2, obs))
    (hob : ∀ ob ∈ obs, ob.holds P β C) (ws : Option (List Nat)) (hws : wsOk ws (dstsOf l) = true) (L' : (Nat → Value) → List Value) (hm : ∀ f, mixL β ws kn f 0 L = L' f)
    (h : ∀ f w', C w' → Q .normal ⟨(L' f).toArray, ds⟩ w') : (Code.region id l.toArray true).wp P Q ⟨L.toArray, ds⟩ w := by
  unfold allB at hB
  simp only [Bool.and_eq_true] at hB
  have hord : ∀ i o, l.toArray[i]? = some o → ∀ e ∈ o.after, Region.binds .any e = true → e.on < i := fun i o ho => by
    have := ordL_spec hB.1 i o (by simpa using ho)
    simpa using this
  refine wp_region_quiet (C := C) hmx (lexB_of hB.2.1 hord (by simpa using hB.2.2)) hC ?_
  exact chain_quiet hT init kn obs hN hI hrun hob ws hws L' hm (fun f w' hw' => h f w' hw')
end Go.Proofs.YtjncoloedakpoaaDoor
