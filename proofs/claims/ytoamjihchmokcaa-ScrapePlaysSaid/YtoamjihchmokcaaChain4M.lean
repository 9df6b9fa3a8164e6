/- The check of a region's head, pair by pair: cheap at great regions. No condition. || A row of operations that only read, reckoned with symbols by one check. No condition. || The check's steps are the program's. No condition. || The check of a whole row of operations. No condition. || The check of a row of operations, in a region; frames that are written out. No condition. -/
import Derived.Test.YtoamjihchmokcaaHeadLitM
import Derived.BigQuiet
import Derived.IntWalk
import Derived.Laws.Concat
namespace Go.Proofs.Ytoamjihchmokcaa
open Go.ChangeShapes Go.WideShapes Go.ChangeAt Go.RowKit Go.Deep

def pairsB (ops : Array Oper) : List Oper → Nat → Bool
  | [], _ => true
  | o :: rest, k => rest.all (fun oj => oj.after.any (fun e => Region.binds .any e && e.on == k) || o.apart ops oj) && pairsB ops rest (k + 1)

def ordL : List Oper → Nat → Bool
  | [], _ => true
  | o :: rest, k => o.after.toList.all (fun e => !Region.binds .any e || decide (e.on < k)) && ordL rest (k + 1)

theorem ordL_spec : ∀ {l : List Oper} {k : Nat}, ordL l k = true → ∀ (i : Nat) (o : Oper), l[i]? = some o → ∀ e ∈ o.after, Region.binds .any e = true → e.on < k + i
  | [], _, _, i, o, hi => by simp at hi
  | o :: rest, k, h, i, o', hi => by
    unfold ordL at h
    simp only [Bool.and_eq_true] at h
    intro e he hb
    cases i with
    | zero =>
      simp only [List.getElem?_cons_zero, Option.some.injEq] at hi
      subst hi
      have := List.all_eq_true.1 h.1 e (by simpa using he)
      simp only [hb, Bool.not_true, Bool.false_or, decide_eq_true_eq] at this
      exact this
    | succ i =>
      have := ordL_spec h.2 i o' (by simpa using hi) e he hb
      omega

end Go.Proofs.Ytoamjihchmokcaa
namespace Go.Proofs.Ytoamjihchmokcaa
open Go.ChangeShapes Go.WideShapes Go.ChangeAt Go.RowKit Go.Deep

inductive SV where
  | val (v : Value)
  | ptr (k o : Nat)
def SV.den (β : Nat → Nat × Nat) : SV → Value
  | .val v => v
  | .ptr k o => .pointer (some ⟨(β k).1, (β k).2 + o, none⟩)

structure Ent where
  slot : Nat
  gs : List (Nat × Bool)
  org : Option Nat
  sv : SV

inductive Ob where
  | call (f : Nat) (args : List SV) (v : Value)
  | idx (cond : Option (Bool × Bool)) (t : Nat) (x i : Value) (sv : SV)
  | cat (a b : ByteArray)

structure Sta where
  fld : List (Nat × Nat × Nat)
  one : List Nat
  many : List (Nat × Nat)
  two : List Nat
  slT : List Nat
  stT : List Nat
  bT : List Nat
  cv : List (Nat × Nat)

structure Tab where
  s : Sta
  blks : List (Nat × List Value)
  calls : List (Nat × Value)
  idx : List (Nat × SV)

structure St where
  env : List Ent
  G : List (Nat × Bool)
  obs : List Ob

def look : List Ent → Nat → Option Ent
  | [], _ => none
  | e :: r, s => match Nat.beq e.slot s with
    | true => some e
    | false => look r s
def lookG : List (Nat × Bool) → Nat → Option Bool
  | [], _ => none
  | e :: r, s => match Nat.beq e.1 s with
    | true => some e.2
    | false => lookG r s
def lookB : List (Nat × List Value) → Nat → Option (List Value)
  | [], _ => none
  | e :: r, s => match Nat.beq e.1 s with
    | true => some e.2
    | false => lookB r s
def lookM : List (Nat × Nat) → Nat → Option Nat
  | [], _ => none
  | e :: r, s => match Nat.beq e.1 s with
    | true => some e.2
    | false => lookM r s
def takeV : Nat → List Value → Option (List Value)
  | 0, _ => some []
  | _ + 1, [] => none
  | n + 1, v :: r => match takeV n r with
    | some l => some (v :: l)
    | none => none
def dropV : Nat → List Value → List Value
  | 0, l => l
  | _ + 1, [] => []
  | n + 1, _ :: r => dropV n r
def memN : List Nat → Nat → Bool
  | [], _ => false
  | x :: r, y => Nat.beq x y || memN r y
theorem beq_true {a b : Nat} (h : Nat.beq a b = true) : a = b := Nat.eq_of_beq_eq_true h
theorem lookB_mem : ∀ {l : List (Nat × List Value)} {k : Nat} {v : List Value}, lookB l k = some v → (k, v) ∈ l
  | [], _, _, h => by cases h
  | x :: r, k, v, h => by
    unfold lookB at h
    split at h
    · rename_i hb
      cases h
      have h1 := beq_true hb
      subst h1
      simp
    · simp [lookB_mem h]
theorem lookM_mem : ∀ {l : List (Nat × Nat)} {k : Nat} {v : Nat}, lookM l k = some v → (k, v) ∈ l
  | [], _, _, h => by cases h
  | x :: r, k, v, h => by
    unfold lookM at h
    split at h
    · rename_i hb
      cases h
      have h1 := beq_true hb
      subst h1
      simp
    · simp [lookM_mem h]
theorem dropV_at : ∀ {n : Nat} {l : List Value} {i : Nat} {v : Value}, (dropV n l)[i]? = some v → l[n + i]? = some v
  | 0, l, i, v, h => by rw [Nat.zero_add]; exact h
  | n + 1, [], i, v, h => by simp [dropV] at h
  | n + 1, x :: r, i, v, h => by
    rw [show n + 1 + i = (n + i) + 1 by omega, List.getElem?_cons_succ]
    exact dropV_at h
theorem takeV_at : ∀ {n : Nat} {l r : List Value}, takeV n l = some r → r.length = n ∧ ∀ (i : Nat) (v : Value), r[i]? = some v → l[i]? = some v
  | 0, l, r, h => by
    cases h
    exact ⟨rfl, fun i v h => by cases h⟩
  | n + 1, [], r, h => by cases h
  | n + 1, x :: l, r, h => by
    unfold takeV at h
    split at h
    · rename_i q hq
      cases h
      obtain ⟨h1, h2⟩ := takeV_at hq
      refine ⟨by simp [h1], fun i v h => ?_⟩
      cases i with
      | zero => exact h
      | succ i =>
        rw [List.getElem?_cons_succ] at h ⊢
        exact h2 i v h
    · cases h
theorem memN_mem : ∀ {l : List Nat} {y : Nat}, memN l y = true → y ∈ l
  | [], _, h => by cases h
  | x :: r, y, h => by
    unfold memN at h
    simp only [Bool.or_eq_true] at h
    rcases h with h | h
    · simp [beq_true h]
    · simp [memN_mem h]
def holds (G : List (Nat × Bool)) (gs : List (Nat × Bool)) : Bool := gs.all fun p => lookG G p.1 == some p.2
def loadV (T : Tab) (t k o : Nat) : Option Value :=
  match lookB T.blks k with
  | none => none
  | some l => match memN T.s.one t with
    | true => match dropV o l with
      | v :: _ => some v
      | [] => none
    | false => match lookM T.s.many t with
      | some n => match takeV n (dropV o l) with
        | some vs => some (.agg ⟨vs⟩)
        | none => none
      | none => none

def memOp : Op → Bool
  | .load .. => true
  | _ => false

inductive Out where
  | v (org : Option Nat) (sv : SV)
  | call (f : Nat) (args : List SV) (v : Value)
  | idx (t : Nat) (x i : Value) (sv : SV)
  | cat (a b : ByteArray)

def St.with (S : St) (d : Nat) (gs : List (Nat × Bool)) (org : Option Nat) (sv : SV) : Option St :=
  match org with
  | some g => some ⟨⟨d, gs, some g, sv⟩ :: S.env, S.G, S.obs⟩
  | none => match sv with
    | .val (.bool c) => match lookG S.G d with
      | none => some ⟨⟨d, gs, some d, sv⟩ :: S.env, (d, c) :: S.G, S.obs⟩
      | some _ => none
    | _ => some ⟨⟨d, gs, none, sv⟩ :: S.env, S.G, S.obs⟩

variable {P : Program} {β : Nat → Nat × Nat} {C : World → Prop}

def isSl : Option TypeDesc → Bool
  | some (.slice _) => true
  | _ => false

def isSt : Option TypeDesc → Bool
  | some .string => true
  | _ => false

def isBl : Option TypeDesc → Bool
  | some .bool => true
  | _ => false

structure Sta.Ok (s : Sta) (P : Program) : Prop where
  fld : ∀ (a o : Nat) (w : World), s.fld.map (fun x => (Instr.fieldAt x.1 (.pointer (some ⟨a, o, none⟩)) x.2.1).run P w) = s.fld.map (fun x => .ok (.pointer (some ⟨a, o + x.2.2, none⟩)) w)
  one : ∀ w, s.one.map (fun t => (isAgg t).run P w) = s.one.map (fun _ => .ok false w)
  many : ∀ w, s.many.map (fun p => (isAgg p.1).run P w) = s.many.map (fun _ => .ok true w)
  size : ∀ w, s.many.map (fun p => (sizeOf p.1).run P w) = s.many.map (fun p => .ok p.2 w)
  two : ∀ t ∈ s.two, ∀ (a b c d : Int) (w : World) (x y : Operand), ((do eqGuard .eql t x y (.agg #[.int .i64 a, .int .i64 b]) (.agg #[.int .i64 c, .int .i64 d]); binOp .eql t (.agg #[.int .i64 a, .int .i64 b]) (.agg #[.int .i64 c, .int .i64 d])) : Sem Value).run P w = .ok (.bool ((a == c) && (b == d))) w
  slT : s.slT.all (fun t => isSl (P.underlying t)) = true
  stT : s.stT.all (fun t => isSt (P.underlying t)) = true
  bT : s.bT.all (fun t => isBl (P.underlying t)) = true
  cv : ∀ (n : Int) (w : World), s.cv.map (fun p => (convert p.1 p.2 (.int .i64 n)).run P w) = s.cv.map (fun _ => .ok (.int .u64 (IntKind.u64.wrap n)) w)

structure Tab.Ok (T : Tab) (P : Program) (β : Nat → Nat × Nat) (C : World → Prop) : Prop where
  s : T.s.Ok P
  blk : ∀ x ∈ T.blks, ∀ (i : Nat) (v : Value), x.2[i]? = some v → ∀ w, C w → w.cell? ⟨(β x.1).1, (β x.1).2 + i, none⟩ = some v

theorem loadCells_run {P : Program} (w : World) (b o : Nat) : ∀ (vs : List Value) (i : Nat) (acc : Array Value), (∀ (j : Nat) (v : Value), vs[j]? = some v → w.cell? ⟨b, o + i + j, none⟩ = some v) →
    (loadCellsFrom ⟨b, o, none⟩ i vs.length acc).run P w = .ok (acc ++ vs.toArray) w := by
  intro vs
  induction vs with
  | nil => intro i acc _; simp [loadCellsFrom]
  | cons v r ih =>
    intro i acc h
    have h0 := h 0 v rfl
    have e : (Addr.add ⟨b, o, none⟩ i) = ⟨b, o + i, none⟩ := Addr.add_lit b o i
    rw [Nat.add_zero] at h0
    simp only [List.length_cons, loadCellsFrom, e]
    rw [Sem.run_bind, run_load, h0]
    simp only [Result.andThen_ok]
    rw [ih (i + 1) (acc.push v) (fun j u hj => by
      have := h (j + 1) u (by rw [List.getElem?_cons_succ]; exact hj)
      rw [show o + (i + 1) + j = o + i + (j + 1) by omega]
      exact this)]
    simp

theorem loadV_sound {T : Tab} (hT : T.Ok P β C) {t k o : Nat} {v : Value} (h : loadV T t k o = some v) (w : World) (hw : C w) : (Instr.loadAt t (.pointer (some ⟨(β k).1, (β k).2 + o, none⟩))).run P w = .ok v w := by
  unfold loadV at h
  split at h
  · cases h
  · rename_i l hl
    have hb := hT.blk _ (lookB_mem hl)
    dsimp only at hb
    split at h
    · rename_i hone
      split at h
      · rename_i u r hd
        cases h
        have h1 := (List.map_inj_left.1 (hT.s.one w)) t (memN_mem hone)
        have h2 := hb o v (by have := dropV_at (n := o) (l := l) (i := 0) (v := v) (by rw [hd]; rfl); simpa using this) w hw
        simp [Instr.loadAt, Instr.sureAddr, loadVar, h1, h2]
      · cases h
    · split at h
      · rename_i n hn
        split at h
        · rename_i vs hv
          cases h
          obtain ⟨e1, e2⟩ := takeV_at hv
          have h1 := (List.map_inj_left.1 (hT.s.many w)) _ (lookM_mem hn)
          have h2 := (List.map_inj_left.1 (hT.s.size w)) _ (lookM_mem hn)
          dsimp only at h1 h2
          have h3 := loadCells_run (P := P) w (β k).1 ((β k).2 + o) vs 0 #[] (fun j v hj => by
            have := hb (o + j) v (dropV_at (e2 j v hj)) w hw
            rw [show (β k).2 + o + 0 + j = (β k).2 + (o + j) by omega]
            exact this)
          rw [e1] at h3
          simp [Instr.loadAt, Instr.sureAddr, loadVar, h1, h2, h3, loadCells]
        · cases h
      · cases h

def condOk : Option (Bool × Bool) → Prop
  | none => True
  | some (c, b) => c = b

def Ob.holds (P : Program) (β : Nat → Nat × Nat) (C : World → Prop) : Ob → Prop
  | .call f args v => (∃ fn, P.funcs[f]? = some fn ∧ (fn.name == "runtime.NumGoroutine") = false ∧ fn.body.isNone = false) ∧
    ∀ w, C w → Calls P f (args.map (SV.den β)).toArray w fun e w' => e = .returned v ∧ C w'
  | .cat a b => a.size + b.size ≤ 9223372036854775807
  | .idx c t x i sv => condOk c → ∀ w, C w → (Instr.indexAt t x i).run P w = .ok (sv.den β) w

structure Inv (β : Nat → Nat × Nat) (S : St) (a : Act) : Prop where
  at_ : ∀ s e, look S.env s = some e → a.tmps[s]? = some (if holds S.G e.gs then e.sv.den β else undef)
  org : ∀ s e, look S.env s = some e → ∀ g, e.org = some g → ∃ c, e.sv = .val (.bool c) ∧ lookG S.G g = some c
  gs : ∀ s e, look S.env s = some e → ∀ p ∈ e.gs, (lookG S.G p.1).isSome = true
end Go.Proofs.Ytoamjihchmokcaa
namespace Go.Proofs.Ytoamjihchmokcaa
open Go.ChangeShapes Go.WideShapes Go.ChangeAt Go.RowKit Go.Deep

variable {P : Program} {β : Nat → Nat × Nat} {C : World → Prop} {S : St} {a : Act} {T : Tab}

end Go.Proofs.Ytoamjihchmokcaa
namespace Go.Proofs.Ytoamjihchmokcaa
open Go.ChangeShapes Go.WideShapes Go.ChangeAt Go.RowKit Go.Deep

variable {P : Program} {β : Nat → Nat × Nat} {C : World → Prop} {S S' : St} {a : Act} {T : Tab} {ops : Array Oper} {N : Nat}

structure Grows (G G' : List (Nat × Bool)) : Prop where
  at_ : ∀ k, (lookG G k).isSome = true → lookG G' k = lookG G k
theorem Grows.holds {G G' : List (Nat × Bool)} (h : Grows G G') {gs : List (Nat × Bool)} (hk : ∀ p ∈ gs, (lookG G p.1).isSome = true) : holds G' gs = holds G gs := by
  unfold Go.Proofs.Ytoamjihchmokcaa.holds
  induction gs with
  | nil => rfl
  | cons x r ih =>
    rw [List.all_cons, List.all_cons, h.at_ x.1 (hk x (by simp)), ih fun p hp => hk p (by simp [hp])]

def dstsOf (l : List Oper) : List Nat := l.filterMap (·.dst)

end Go.Proofs.Ytoamjihchmokcaa
namespace Go.Proofs.Ytoamjihchmokcaa
open Go.ChangeShapes Go.WideShapes Go.ChangeAt Go.RowKit Go.Deep

variable {P : Program} {β : Nat → Nat × Nat} {C : World → Prop} {T : Tab} {ops : Array Oper} {N : Nat}

def lookK : List (Nat × SV) → Nat → Option SV
  | [], _ => none
  | e :: r, s => match Nat.beq e.1 s with
    | true => some e.2
    | false => lookK r s
theorem lookK_mem : ∀ {l : List (Nat × SV)} {s : Nat} {v : SV}, lookK l s = some v → (s, v) ∈ l
  | [], _, _, h => by cases h
  | x :: r, s, v, h => by
    unfold lookK at h
    split at h
    · rename_i hb
      cases h
      have := beq_true hb
      subst this
      simp
    · simp [lookK_mem h]

def mixL (β : Nat → Nat × Nat) (ws : Option (List Nat)) (kn : List (Nat × SV)) (f : Nat → Value) : Nat → List Value → List Value
  | _, [] => []
  | i, x :: r => (match lookK kn i with
    | some sv => sv.den β
    | none => match ws with
      | none => f i
      | some l => match memN l i with
        | true => f i
        | false => x) :: mixL β ws kn f (i + 1) r
def wsOk (ws : Option (List Nat)) (ds : List Nat) : Bool :=
  match ws with
  | none => true
  | some l => ds.all (memN l)

theorem memN_of : ∀ {l : List Nat} {y : Nat}, y ∈ l → memN l y = true
  | x :: r, y, h => by
    unfold memN
    rcases List.mem_cons.1 h with rfl | h
    · rw [Nat.beq_refl]; rfl
    · rw [memN_of h, Bool.or_true]

theorem mixL_at {ws : Option (List Nat)} {kn : List (Nat × SV)} {f : Nat → Value} : ∀ (L : List Value) (i k : Nat), (mixL β ws kn f i L)[k]? = (L[k]?).map fun x => match lookK kn (i + k) with
    | some sv => sv.den β
    | none => match ws with
      | none => f (i + k)
      | some l => match memN l (i + k) with
        | true => f (i + k)
        | false => x
  | [], i, k => by simp [mixL]
  | x :: r, i, k => by
    unfold mixL
    cases k with
    | zero => simp only [List.getElem?_cons_zero, Option.map_some, Nat.add_zero]
    | succ k =>
      rw [List.getElem?_cons_succ, List.getElem?_cons_succ, mixL_at r (i + 1) k, show i + 1 + k = i + (k + 1) by omega]

def outV (S : St) (s : Nat) : Option SV :=
  match look S.env s with
  | some ⟨_, [], _, sv⟩ => some sv
  | _ => none

theorem frame_lit {S' : St} {a' : Act} {l : List Oper} {L : List Value} {ds : List Deferred} {kn : List (Nat × SV)} (i1 : Inv β S' a') (i2 : a'.tmps.size = N) (i3 : a'.defers = ds) (i4 : ∀ s, s ∉ dstsOf l → a'.tmps[s]? = L.toArray[s]?)
    (hN : L.length = N) (hk : (kn.map fun p => outV S' p.1) = kn.map fun p => some p.2) (ws : Option (List Nat)) (hws : wsOk ws (dstsOf l) = true) (L' : (Nat → Value) → List Value) (hm : ∀ f, mixL β ws kn f 0 L = L' f) : ∃ f, a' = ⟨(L' f).toArray, ds⟩ := by
  obtain ⟨tm, df⟩ := a'
  dsimp only at i2 i3 i4
  subst i3
  refine ⟨fun i => tm.getD i undef, ?_⟩
  congr 1
  rw [← hm]
  apply Array.ext_getElem?
  intro i
  rw [show (mixL β ws kn (fun i => tm.getD i undef) 0 L).toArray[i]? = (mixL β ws kn (fun i => tm.getD i undef) 0 L)[i]? from List.getElem?_toArray .., mixL_at, Nat.zero_add]
  by_cases hlt : i < L.length
  · have hlt2 : i < tm.size := by omega
    have hf : some (tm.getD i undef) = tm[i]? := by
      rw [Array.getElem?_eq_getElem hlt2, Array.getD, dif_pos hlt2]
      rfl
    rw [List.getElem?_eq_getElem hlt, Option.map_some]
    cases hkn : lookK kn i with
    | some sv =>
      dsimp only
      have h1 := (List.map_inj_left.1 hk) _ (lookK_mem hkn)
      dsimp only at h1
      unfold outV at h1
      split at h1
      · rename_i sl org sv2 he
        cases h1
        have h2 := i1.at_ i _ he
        dsimp only at h2
        rw [h2]
        rfl
      · cases h1
    | none =>
      dsimp only
      cases ws with
      | none => exact hf.symm
      | some lw =>
        dsimp only
        cases hws1 : memN lw i
        · dsimp only
          rw [i4 i (fun hh => by
            have := List.all_eq_true.1 hws i hh
            rw [hws1] at this
            cases this), List.getElem?_toArray, List.getElem?_eq_getElem hlt]
        · exact hf.symm
  · have hlt2 : ¬ i < tm.size := by omega
    rw [Array.getElem?_eq_none (by omega), List.getElem?_eq_none (by omega)]
    rfl
def allB (l : List Oper) : Bool := ordL l 0 && (Region.noSelect l.toArray && pairsB l.toArray l 0)
end Go.Proofs.Ytoamjihchmokcaa
