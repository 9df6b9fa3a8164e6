/- The executor's lengths, least and greatest, conversions, rows laid, parts of texts. No condition. -/
import Derived.Laws.MakeOwn
import Derived.Test.YtoamjihchmokcaaE9M
namespace Go.Proofs.Ytoamjihchmokcaa.E
open Go.ChangeShapes Go.WideShapes Go.ChangeAt Go.RowKit Go.Deep

section
variable {P : Program} {K : Ker} {w0 w : World} {ι : I} {h : H}

noncomputable def lenV (d : TD) (h : H) (x : V) : Option V :=
  match d, x with
  | .str, .str s => some (.int .i64 (.ofNat s.length))
  | .sl _, .sl _ _ n _ _ => some (.int .i64 (.ofNat n))
  | .sl _, .nilsl => some (.int .i64 (.ofNat 0))
  | .map _ _, .nilmap => some (.int .i64 (.ofNat 0))
  | .map _ _, .map b => match h.t.get b with
    | .map es _ => some (.int .i64 (.ofNat es.length))
    | _ => none
  | _, _ => none
theorem ESR.length : ∀ {l : List (V × V × Nat)} {es : List MapEntry}, ESR ι l es → es.length = l.length
  | [], _, h => by cases h; rfl
  | _ :: _, _, ⟨_, _, _, _, _, h3, e⟩ => by rw [e]; simp [ESR.length h3]
theorem Rep.map_at (r : Rep K w0 ι h w) {b c : Nat} (hb : ι.blk b = some c) {es : List (V × V × Nat)} {ck : Nat} (hd : h.t.get b = .map es ck) : ∃ E : List MapEntry, ESR ι es E ∧ w.heap[c]? = some (.map E.toArray ck) ∧ ¬ K c := by
  obtain ⟨o, hc, ho, hor⟩ := r.at_ hb (by rw [hd]; simp)
  rw [hd] at hor
  obtain ⟨E, h1, rfl⟩ := hor
  exact ⟨E, h1, ho, hc⟩
theorem len_sound (r : Rep K w0 ι h w) {t ty : TypeId} {ti : TI} (ht : tiOf P t = some ti) {x v : V} (hv : lenV ti.d h x = some v) {y : Value} (hx : VR ι x y) : ∃ z, (Builtin.len_ #[t] ty #[y]).run P w = .ok z w ∧ VR ι v z := by
  unfold lenV at hv
  split at hv
  · rename_i s hd
    cases hv
    simp only [VR] at hx
    obtain ⟨_, rfl⟩ := hx
    refine ⟨goInt (strD s).size, by simp [Builtin.len_, run_underlying (under_str ht hd)], by simp only [VR, strD_size]; rfl⟩
  · rename_i hd
    cases hv
    obtain ⟨c, cp, _, rfl, _⟩ := VR.sl_out hx
    exact ⟨_, by simp [Builtin.len_, run_underlying (under_sl ht hd)]; rfl, by simp only [VR]; rfl⟩
  · rename_i hd
    cases hv
    simp only [VR] at hx
    subst hx
    exact ⟨_, by simp [Builtin.len_, run_underlying (under_sl ht hd)]; rfl, by simp only [VR]; rfl⟩
  · rename_i hd
    cases hv
    simp only [VR] at hx
    subst hx
    exact ⟨_, by simp [Builtin.len_, run_underlying (under_map ht hd)]; rfl, by simp only [VR]; rfl⟩
  · rename_i hd
    split at hv
    · rename_i es ck hm
      cases hv
      simp only [VR] at hx
      obtain ⟨c, hb, rfl⟩ := hx
      obtain ⟨E, h1, h2, _⟩ := r.map_at hb hm
      refine ⟨goInt E.length, ?_, by simp only [VR]; rw [h1.length]; rfl⟩
      have hg : (getObj c).run P w = .ok (.map E.toArray ck) w := by simp [getObj, Sem.run, h2]
      simp [Builtin.len_, run_underlying (under_map ht hd), hg]
    · cases hv
  · cases hv

def leastV : List V → Option V
  | [.int k a, .int _ b] => match iLt b a with
    | true => some (.int k b)
    | false => some (.int k a)
  | _ => none
def mostV : List V → Option V
  | [.int k a, .int _ b] => match iLt a b with
    | true => some (.int k b)
    | false => some (.int k a)
  | _ => none
theorem least_sound {l : List V} {v : V} (hv : leastV l = some v) {xs : List Value} (hx : VRs ι l xs) (ts : Array TypeId) (t : TypeId) : ∃ z, (Builtin.min_ ts t xs.toArray).run P w = .ok z w ∧ VR ι v z := by
  unfold leastV at hv
  split at hv
  · rename_i k a _ b
    obtain ⟨x, r, h1, h2, rfl⟩ := VRs.cons_iff.1 hx
    obtain ⟨y, r2, h3, h4, rfl⟩ := VRs.cons_iff.1 h2
    obtain rfl := VRs.nil_iff.1 h4
    simp only [VR] at h1 h3
    subst h1 h3
    refine ⟨.int k (if b < a then b else a), by simp [Builtin.min_, Builtin.min2], ?_⟩
    rw [iLt_eq] at hv
    by_cases hlt : b < a
    · rw [decide_eq_true hlt] at hv; cases hv; simp only [VR, if_pos hlt]
    · rw [decide_eq_false hlt] at hv; cases hv; simp only [VR, if_neg hlt]
  · cases hv
theorem most_sound {l : List V} {v : V} (hv : mostV l = some v) {xs : List Value} (hx : VRs ι l xs) (ts : Array TypeId) (t : TypeId) : ∃ z, (Builtin.max_ ts t xs.toArray).run P w = .ok z w ∧ VR ι v z := by
  unfold mostV at hv
  split at hv
  · rename_i k a _ b
    obtain ⟨x, r, h1, h2, rfl⟩ := VRs.cons_iff.1 hx
    obtain ⟨y, r2, h3, h4, rfl⟩ := VRs.cons_iff.1 h2
    obtain rfl := VRs.nil_iff.1 h4
    simp only [VR] at h1 h3
    subst h1 h3
    refine ⟨.int k (if b > a then b else a), by simp [Builtin.max_, Builtin.max2], ?_⟩
    rw [iLt_eq] at hv
    by_cases hlt : a < b
    · rw [decide_eq_true hlt] at hv; cases hv; simp only [VR, if_pos hlt, gt_iff_lt]
    · rw [decide_eq_false hlt] at hv; cases hv; simp only [VR, if_neg hlt, gt_iff_lt]
  · cases hv

def byteOf : List V → Option (List Nat)
  | [] => some []
  | .int .u8 (.ofNat n) :: l => match Nat.blt n 256, byteOf l with
    | true, some r => some (n :: r)
    | _, _ => none
  | _ => none
noncomputable def convV (T : Tb TI) (h : H) (s d : TI) (x : V) : Option V :=
  match d.d, x with
  | .int k, .int _ n => some (.int k (wrapF k n))
  | .str, .str b => match s.d with
    | .str => some (.str b)
    | _ => none
  | .str, .nilsl => match s.d with
    | .sl e => match T.at_ e with
      | some te => match te.d with
        | .int .u8 => some (.str [])
        | _ => none
      | none => none
    | _ => none
  | .str, .sl b o n _ _ => match s.d with
    | .sl e => match T.at_ e with
      | some te => match te.d with
        | .int .u8 => match h.t.get b with
          | .cells l _ _ => match rowV l o n with
            | some m => match byteOf m with
              | some r => some (.str r)
              | none => none
            | none => none
          | _ => none
        | _ => none
      | none => none
    | _ => none
  | _, _ => none
theorem byteOf_eq : ∀ {l : List V} {r : List Nat} {xs : List Value}, byteOf l = some r → VRs ι l xs → Bytes r ∧ xs = (r.map Int.ofNat).map (Value.int .u8)
  | [], r, xs, h, hx => by cases h; rw [VRs.nil_iff.1 hx]; exact ⟨(by intro _ h; cases h), rfl⟩
  | v :: l, r, xs, h, hx => by
    unfold byteOf at h
    split at h
    · rename_i e; cases e
    · rename_i n l' e
      cases e
      split at h
      · rename_i r' hlt hr
        cases h
        obtain ⟨x, q, h1, h2, rfl⟩ := VRs.cons_iff.1 hx
        obtain ⟨i1, i2⟩ := byteOf_eq hr h2
        simp only [VR] at h1
        have hlt : n < 256 := by simpa [Nat.blt_eq] using hlt
        exact ⟨fun m hm => by rcases List.mem_cons.1 hm with rfl | hm; exact hlt; exact i1 m hm, by rw [h1, i2]; rfl⟩
      · cases h
    · cases h
theorem foldl_bytes : ∀ (r : List Nat) (s : ByteArray), ((r.map Int.ofNat).foldl (fun r n => r.push (UInt8.ofNat n.toNat)) s) = s ++ strD r
  | [], s => by apply ByteArray.ext; simp [strD]
  | n :: r, s => by
    rw [List.map_cons, List.foldl_cons, foldl_bytes r]
    apply ByteArray.ext
    simp [strD, ByteArray.push]
theorem conv_sound {T : Tb TI} (hT : TOk P T) (r : Rep K w0 ι h w) {t u : TypeId} {s d : TI} (hs : tiOf P t = some s) (hd : tiOf P u = some d) {x v : V} (hv : convV T h s d x = some v) {y : Value} (hx : VR ι x y) : ∃ z, (convert t u y).run P w = .ok z w ∧ VR ι v z := by
  obtain ⟨us, hus, _, hus2⟩ := run_under (w := w) hs
  unfold convV at hv
  split at hv
  · rename_i k _ n hk
    cases hv
    simp only [VR] at hx
    subst hx
    exact ⟨.int k (k.wrap n), by simp [convert, run_underlying hus, run_underlying (under_int hd hk), Conv.intToInt], by simp only [VR, wrapF_eq]⟩
  · rename_i b hk
    split at hv
    · rename_i hk2
      cases hv
      have hx' := hx
      simp only [VR] at hx
      obtain ⟨_, rfl⟩ := hx
      exact ⟨.string (strD b), by simp [convert, run_underlying (under_str hs hk2), run_underlying (under_str hd hk)], hx'⟩
    · cases hv
  · rename_i hk
    split at hv
    rotate_left
    · cases hv
    rename_i e hk2
    split at hv
    rotate_left
    · cases hv
    rename_i te hte
    split at hv
    rotate_left
    · cases hv
    rename_i hk3
    cases hv
    simp only [VR] at hx
    subst hx
    refine ⟨.string .empty, by simp [convert, run_underlying (under_sl hs hk2), run_underlying (under_str hd hk), run_underlying (under_int (hT _ _ hte) hk3), Conv.bytesToString], ?_⟩
    simp only [VR]
    exact ⟨(by intro _ h; cases h), rfl⟩
  · rename_i b o n _ _ hk
    split at hv
    rotate_left
    · cases hv
    rename_i e hk2
    split at hv
    rotate_left
    · cases hv
    rename_i te hte
    split at hv
    rotate_left
    · cases hv
    rename_i hk3
    split at hv
    rotate_left
    · cases hv
    rename_i l bt g hd2
    split at hv
    rotate_left
    · cases hv
    rename_i m hm
    split at hv
    rotate_left
    · cases hv
    rename_i q hq
    cases hv
    obtain ⟨c, cp, hb, rfl, _⟩ := VR.sl_out hx
    obtain ⟨ms, h1, h2, h3⟩ := r.row_in hb hd2 hm
    obtain ⟨i1, i2⟩ := byteOf_eq hq h1
    have hld := run_loadCells_list (P := P) (w := w) ⟨c, o, none⟩ ms h3
    rw [h2, i2] at hld
    have hrun := run_bytesToString (P := P) w ⟨c, o, none⟩ n cp (q.map Int.ofNat) hld
    rw [foldl_bytes] at hrun
    refine ⟨.string (strD q), ?_, by simp only [VR]; exact ⟨i1, trivial⟩⟩
    rw [run_convert_bytes_string (P := P) w t u e _ _ _ (under_sl hs hk2) (under_int (hT _ _ hte) hk3) (under_str hd hk), hrun]
    simp
  · cases hv

def subV (s : List Nat) (lo hi : Option V) : Option V :=
  match boundV hi s.length s.length with
  | none => none
  | some h => match boundV lo 0 h with
    | none => none
    | some l => some (.str ((s.drop l).take (h - l)))
theorem strD_extract (s : List Nat) (l h : Nat) : (strD s).extract l h = strD ((s.drop l).take (h - l)) := by
  apply ByteArray.ext
  simp [strD, ByteArray.extract, ByteArray.copySlice]
theorem sub_sound {t : TypeId} {ti : TI} (ht : tiOf P t = some ti) (hd : ti.d = .str) {s : List Nat} (hs : Bytes s) {lo hi : Option V} {v : V} (hv : subV s lo hi = some v) {l' h' : Option Value} (hlo : OVR ι lo l') (hhi : OVR ι hi h') :
    ∃ y, (Instr.sliceAt t (.string (strD s)) l' h' none).run P w = .ok y w ∧ VR ι v y := by
  have hu := under_str ht hd
  unfold subV at hv
  split at hv
  · cases hv
  rename_i hh hhb
  split at hv
  · cases hv
  rename_i ll hlb
  cases hv
  refine ⟨.string ((strD s).extract ll hh), ?_, ?_⟩
  · rcases boundV_some hhb hhi with ⟨rfl, _, rfl⟩ | ⟨k, rfl, hle⟩ <;> rcases boundV_some hlb hlo with ⟨rfl, _, rfl⟩ | ⟨k2, rfl, hle2⟩
    · simp [Instr.sliceAt, Instr.slice, run_underlying hu, Instr.sliceBounds]
      rw [strD_extract]
      simp
    · simp [Instr.sliceAt, Instr.slice, run_underlying hu, Instr.sliceBounds, bound_run, strD_size, hle2]
    · simp [Instr.sliceAt, Instr.slice, run_underlying hu, Instr.sliceBounds, bound_run, strD_size, hle]
    · simp [Instr.sliceAt, Instr.slice, run_underlying hu, Instr.sliceBounds, bound_run, strD_size, hle, hle2]
  · rw [strD_extract]
    simp only [VR]
    exact ⟨fun n hn => hs n (List.mem_of_mem_drop (List.mem_of_mem_take hn)), trivial⟩

def unV (op : UnOp) (x : V) : Option V :=
  match op, x with
  | .not, .bool b => some (.bool (!b))
  | .neg, .int k n => some (.int k (wrapF k (0 - n)))
  | _, _ => none
theorem un_sound {op : UnOp} {x v : V} (hv : unV op x = some v) {y : Value} (hx : VR ι x y) : ∃ z, (Op.unary op y).run P w = .ok z w ∧ VR ι v z := by
  unfold unV at hv
  split at hv
  · rename_i b
    cases hv
    simp only [VR] at hx
    subst hx
    exact ⟨.bool (!b), by simp [Op.unary], by simp only [VR]⟩
  · rename_i k n
    cases hv
    simp only [VR] at hx
    subst hx
    exact ⟨.int k (k.wrap (0 - n)), by simp [Op.unary, Op.intArith], by simp only [VR, wrapF_eq]⟩
  · cases hv

def repV : Nat → List V → List V
  | 0, _ => []
  | n + 1, l => l ++ repV n l
theorem repV_zero (z : Array Value) {zl : List V} (hz : VRs ι zl z.toList) : ∀ n, VRs ι (repV n zl) ((Array.range (n * z.size)).map (z[· % z.size]!)).toList := by
  have key : ∀ n, ((Array.range (n * z.size)).map (z[· % z.size]!)).toList = (List.replicate n z.toList).flatten := by
    intro n
    induction n with
    | zero => simp
    | succ n ih =>
      rw [List.replicate_succ', List.flatten_append, ← ih]
      simp only [Array.toList_map, Array.toList_range, List.flatten_cons, List.flatten_nil, List.append_nil]
      rw [Nat.add_mul, Nat.one_mul, List.range_add, List.map_append, List.map_map]
      congr 1
      apply List.ext_getElem
      · simp
      · intro i h1 h2
        simp at h1 h2
        simp [Nat.mul_add_mod_self_right, Nat.mod_eq_of_lt h1, h1]
  intro n
  rw [key]
  clear key
  induction n with
  | zero => exact VRs.nil_iff.2 rfl
  | succ n ih =>
    rw [List.replicate_succ, List.flatten_cons]
    exact hz.append ih
def rowOf (te : TI) (n : Nat) (parts : List (Nat × V)) : Option (List V) :=
  match Nat.beq te.size 0, Nat.ble (n * te.size) 16777216 with
  | false, true => match cellsV te.zero with
    | some z => fillV (fun i => some (i * te.size, te.size)) (repV n z) parts
    | none => none
  | _, _ => none
theorem buildSlice_run {t e : TypeId} {ti te : TI} (ht : tiOf P t = some ti) (hd : ti.d = .sl e) (hte : tiOf P e = some te) {n : Nat} {parts : List (Nat × V)} {l : List V} (hl : rowOf te n parts = some l) {xs : List (Nat × Value)} (h1 : xs.map (·.1) = parts.map (·.1)) (h2 : VRs ι (parts.map (·.2)) (xs.map (·.2))) :
    ∃ ms : List Value, VRs ι l ms ∧ (Instr.buildSlice t n xs.toArray).run P w = .ok (.slice (some ⟨w.heap.size, 0, none⟩) n n) (w.alloc (.cells ms.toArray e)) := by
  unfold rowOf at hl
  split at hl
  rotate_left
  · cases hl
  rename_i h0 hle
  have h0 := Nat.ne_of_beq_eq_false h0
  have hle := Nat.le_of_ble_eq_true hle
  split at hl
  rotate_left
  · cases hl
  rename_i z hz
  obtain ⟨zv, hz1, hz2⟩ := run_zero (P := P) (w := w) ι hte
  have hzc := cellsV_sound hz hz2
  obtain ⟨i, u, zz, hi, hu, hzz, e0, hzs⟩ := ti_some hte
  have hzv : zv.cells.size = te.size := by
    have : zv = zz := by
      have h3 : (zeroValue e).run P w = .ok zz w := by simp [zeroValue, typeInfo, hi, hzz, go_sem]
      rw [h3] at hz1
      cases hz1; rfl
    rw [this, hzs, e0]
  have hrow := repV_zero zv.cells hzc n
  rw [hzv] at hrow
  obtain ⟨ms, e1, e2⟩ := fill_sound _ parts xs (repV n z) l _ hl hrow h1 h2
  have hrun : (Instr.buildSlice t n xs.toArray).run P w = .ok (.slice (some ⟨w.heap.size, 0, none⟩) n n) (w.alloc (.cells ms.toArray e)) := by
    have hs := run_size (w := w) hte
    have hne : ¬ (16777216 < n * te.size) := by omega
    simp only [Instr.buildSlice, Sem.run_bind, run_underlying (under_sl ht hd), Result.andThen_ok, hs]
    rw [if_neg (by simpa using hne)]
    by_cases hn0 : n = 0
    · subst hn0
      simp only [Nat.zero_mul] at e1 ⊢
      have e3 : Instr.fill (fun i => some (i * te.size, te.size)) #[] xs = some ms.toArray := by simpa using e1
      simp [e3, newRow, go_sem]
    · have hne2 : ¬ (n * te.size = 0) := by
        intro h
        rcases Nat.mul_eq_zero.1 h with h | h
        · exact hn0 h
        · exact h0 h
      have e3 : Instr.fill (fun i => some (i * te.size, te.size)) ((Array.range (n * te.size)).map (zv.cells[· % zv.cells.size]!)) xs = some ms.toArray := by
        rw [hzv]; rw [Array.toArray_toList] at e1; exact e1
      simp only [hne2, if_false, Sem.run_bind, hz1, Result.andThen_ok, Sem.run_pure, e3, newRow, run_newObj_alloc]
  exact ⟨ms, e2, hrun⟩
theorem buildSlice_sound (r : Rep K w0 ι h w) (hr : room h = true) {t e : TypeId} {ti te : TI} (ht : tiOf P t = some ti) (hd : ti.d = .sl e) (hte : tiOf P e = some te) {n : Nat} {parts : List (Nat × V)} {l : List V} (hl : rowOf te n parts = some l) {xs : List (Nat × Value)} (h1 : xs.map (·.1) = parts.map (·.1)) (h2 : VRs ι (parts.map (·.2)) (xs.map (·.2))) (hn : n ≤ 16777216) :
    ∃ y w', (Instr.buildSlice t n xs.toArray).run P w = .ok y w' ∧ Rep K w0 (ι.new h.n w.heap.size) (h.add (.cells l e false)) w' ∧ VR (ι.new h.n w.heap.size) (.sl h.n 0 n n none) y := by
  obtain ⟨ms, e2, hrun⟩ := buildSlice_run (w := w) ht hd hte hl h1 h2
  refine ⟨_, _, hrun, r.row hr e2 e, ?_⟩
  exact VR.sl_mk (by simp [I.new]) (Nat.le_refl _) (Nat.le_refl _) (by omega) (fun _ => rfl) (fun _ h => by cases h)

def makeR (te : TI) (a b : V) : Option (List V × Nat × Nat) :=
  match a, b with
  | .int _ (.ofNat n), .int _ (.ofNat c) =>
    match Nat.ble n c, Nat.ble (te.by_ * c) 281474976710656, Nat.ble c 16777216 with
    | true, true, true => match cellsV te.zero with
      | some z => some (repV c z, n, c)
      | none => none
    | _, _, _ => none
  | _, _ => none
theorem makeSlice_run {t e : TypeId} {ti te : TI} (ht : tiOf P t = some ti) (hd : ti.d = .sl e) (hte : tiOf P e = some te) {a b : V} {l : List V} {n c : Nat} (hl : makeR te a b = some (l, n, c)) {x y : Value} (h1 : VR ι a x) (h2 : VR ι b y) :
    n ≤ c ∧ c ≤ 16777216 ∧ ∃ ms : List Value, VRs ι l ms ∧ (Instr.makeSlice t x y).run P w = .ok (.slice (some ⟨w.heap.size, 0, none⟩) n c) (w.alloc (.cells ms.toArray e)) := by
  unfold makeR at hl
  split at hl
  rotate_left
  · cases hl
  rename_i k1 n' k2 c'
  split at hl
  rotate_left
  · cases hl
  rename_i q1 q2 q3
  split at hl
  rotate_left
  · cases hl
  rename_i z hz
  cases hl
  have q1 := Nat.le_of_ble_eq_true q1
  have q2 := Nat.le_of_ble_eq_true q2
  have q3 := Nat.le_of_ble_eq_true q3
  refine ⟨q1, q3, ?_⟩
  simp only [VR] at h1 h2
  subst h1 h2
  obtain ⟨zv, hz1, hz2⟩ := run_zero (P := P) (w := w) ι hte
  have hzc := cellsV_sound hz hz2
  obtain ⟨i, u, zz, hi, hu, hzz, e0, hzs⟩ := ti_some hte
  have hzv : zv = zz := by
    have h3 : (zeroValue e).run P w = .ok zz w := by simp [zeroValue, typeInfo, hi, hzz, go_sem]
    rw [h3] at hz1
    cases hz1; rfl
  have hrow := repV_zero zv.cells hzc c
  rw [hzv, hzs] at hrow
  have hby : te.by_ = i.bytes := by rw [e0]
  rw [hby] at q2
  have hb2 : (i.bytes : Int) * (c : Int) ≤ 281474976710656 := by
    have : ((i.bytes * c : Nat) : Int) ≤ 281474976710656 := by omega
    rwa [Int.natCast_mul] at this
  have hr := run_make (P := P) w t e i zz (under_sl ht hd) hi hzz k1 k2 (n : Int) (c : Int) (by omega) (by omega) hb2 (by omega)
  simp only [Int.toNat_natCast] at hr
  refine ⟨(madeCells zz.cells (c * i.size)).toList, ?_, by rw [Array.toArray_toList]; exact hr⟩
  unfold madeCells
  rw [hzs]
  exact hrow
theorem makeSlice_sound (r : Rep K w0 ι h w) (hr : room h = true) {t e : TypeId} {ti te : TI} (ht : tiOf P t = some ti) (hd : ti.d = .sl e) (hte : tiOf P e = some te) {a b : V} {l : List V} {n c : Nat} (hl : makeR te a b = some (l, n, c)) {x y : Value} (h1 : VR ι a x) (h2 : VR ι b y) :
    ∃ z w', (Instr.makeSlice t x y).run P w = .ok z w' ∧ Rep K w0 (ι.new h.n w.heap.size) (h.add (.cells l e false)) w' ∧ VR (ι.new h.n w.heap.size) (.sl h.n 0 n c none) z := by
  obtain ⟨m1, m2, ms, e2, hrun⟩ := makeSlice_run (w := w) ht hd hte hl h1 h2
  refine ⟨_, _, hrun, r.row hr e2 e, ?_⟩
  exact VR.sl_mk (by simp [I.new]) m1 (Nat.le_refl _) (by omega) (fun _ => rfl) (fun _ h => by cases h)

theorem makeMap_sound (r : Rep K w0 ι h w) (hr : room h = true) (t : TypeId) : ∃ w', (Instr.makeMap t none).run P w = .ok (.map (some w.heap.size)) w' ∧ Rep K w0 (ι.new h.n w.heap.size) (h.add (.map [] 0)) w' :=
  ⟨w.alloc (.map #[] 0), by simp [Instr.makeMap], r.alloc (room_lt hr) ⟨[], rfl, rfl⟩⟩
end
end Go.Proofs.Ytoamjihchmokcaa.E
