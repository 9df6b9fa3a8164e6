/- The executor's lengths, least and greatest, conversions, rows laid, parts of texts. No condition. || The executor's structs compared, and maps. No condition. || The executor's maps: looked up, written, gone through. No condition. -/
import Derived.Laws.MakeOwn
import Derived.Test.YtpbppgfogepjeaaE9M
import Derived.Laws.StructEq
import Derived.MapKept
namespace Go.Proofs.Ytpbppgfogepjeaa.E
open Go.ChangeShapes Go.WideShapes Go.ChangeAt Go.RowKit Go.Deep

section
variable {P : Program} {K : Ker} {w0 w : World} {ι : I} {h : H}

noncomputable def lenV (d : TD) (h : H) (x : V) : Option V :=
  match d, x with
  | .str, .str s => some (.int .i64 (.ofNat s.length))
  | .sl _, .sl _ _ n _ _ => some (.int .i64 (.ofNat n))
  | .sl _, .nilsl => some (.int .i64 (.ofNat 0))
  | .map _ _, .nilmap => some (.int .i64 (.ofNat 0))
  | .map _ _, .map b => match h.t.get b with
    | .map es _ => some (.int .i64 (.ofNat es.length))
    | _ => none
  | _, _ => none
theorem ESR.length : ∀ {l : List (V × V × Nat)} {es : List MapEntry}, ESR ι l es → es.length = l.length
  | [], _, h => by cases h; rfl
  | _ :: _, _, ⟨_, _, _, _, _, h3, e⟩ => by rw [e]; simp [ESR.length h3]
theorem Rep.map_at (r : Rep K w0 ι h w) {b c : Nat} (hb : ι.blk b = some c) {es : List (V × V × Nat)} {ck : Nat} (hd : h.t.get b = .map es ck) : ∃ E : List MapEntry, ESR ι es E ∧ w.heap[c]? = some (.map E.toArray ck) ∧ ¬ K c := by
  obtain ⟨o, hc, ho, hor⟩ := r.at_ hb (by rw [hd]; simp)
  rw [hd] at hor
  obtain ⟨E, h1, rfl⟩ := hor
  exact ⟨E, h1, ho, hc⟩
theorem len_sound (r : Rep K w0 ι h w) {t ty : TypeId} {ti : TI} (ht : tiOf P t = some ti) {x v : V} (hv : lenV ti.d h x = some v) {y : Value} (hx : VR ι x y) : ∃ z, (Builtin.len_ #[t] ty #[y]).run P w = .ok z w ∧ VR ι v z := by
  unfold lenV at hv
  split at hv
  · rename_i s hd
    cases hv
    simp only [VR] at hx
    obtain ⟨_, rfl⟩ := hx
    refine ⟨goInt (strD s).size, by simp [Builtin.len_, run_underlying (under_str ht hd)], by simp only [VR, strD_size]; rfl⟩
  · rename_i hd
    cases hv
    obtain ⟨c, cp, _, rfl, _⟩ := VR.sl_out hx
    exact ⟨_, by simp [Builtin.len_, run_underlying (under_sl ht hd)]; rfl, by simp only [VR]; rfl⟩
  · rename_i hd
    cases hv
    simp only [VR] at hx
    subst hx
    exact ⟨_, by simp [Builtin.len_, run_underlying (under_sl ht hd)]; rfl, by simp only [VR]; rfl⟩
  · rename_i hd
    cases hv
    simp only [VR] at hx
    subst hx
    exact ⟨_, by simp [Builtin.len_, run_underlying (under_map ht hd)]; rfl, by simp only [VR]; rfl⟩
  · rename_i hd
    split at hv
    · rename_i es ck hm
      cases hv
      simp only [VR] at hx
      obtain ⟨c, hb, rfl⟩ := hx
      obtain ⟨E, h1, h2, _⟩ := r.map_at hb hm
      refine ⟨goInt E.length, ?_, by simp only [VR]; rw [h1.length]; rfl⟩
      have hg : (getObj c).run P w = .ok (.map E.toArray ck) w := by simp [getObj, Sem.run, h2]
      simp [Builtin.len_, run_underlying (under_map ht hd), hg]
    · cases hv
  · cases hv

def leastV : List V → Option V
  | [.int k a, .int _ b] => match iLt b a with
    | true => some (.int k b)
    | false => some (.int k a)
  | _ => none
def mostV : List V → Option V
  | [.int k a, .int _ b] => match iLt a b with
    | true => some (.int k b)
    | false => some (.int k a)
  | _ => none
theorem least_sound {l : List V} {v : V} (hv : leastV l = some v) {xs : List Value} (hx : VRs ι l xs) (ts : Array TypeId) (t : TypeId) : ∃ z, (Builtin.min_ ts t xs.toArray).run P w = .ok z w ∧ VR ι v z := by
  unfold leastV at hv
  split at hv
  · rename_i k a _ b
    obtain ⟨x, r, h1, h2, rfl⟩ := VRs.cons_iff.1 hx
    obtain ⟨y, r2, h3, h4, rfl⟩ := VRs.cons_iff.1 h2
    obtain rfl := VRs.nil_iff.1 h4
    simp only [VR] at h1 h3
    subst h1 h3
    refine ⟨.int k (if b < a then b else a), by simp [Builtin.min_, Builtin.min2], ?_⟩
    rw [iLt_eq] at hv
    by_cases hlt : b < a
    · rw [decide_eq_true hlt] at hv; cases hv; simp only [VR, if_pos hlt]
    · rw [decide_eq_false hlt] at hv; cases hv; simp only [VR, if_neg hlt]
  · cases hv
theorem most_sound {l : List V} {v : V} (hv : mostV l = some v) {xs : List Value} (hx : VRs ι l xs) (ts : Array TypeId) (t : TypeId) : ∃ z, (Builtin.max_ ts t xs.toArray).run P w = .ok z w ∧ VR ι v z := by
  unfold mostV at hv
  split at hv
  · rename_i k a _ b
    obtain ⟨x, r, h1, h2, rfl⟩ := VRs.cons_iff.1 hx
    obtain ⟨y, r2, h3, h4, rfl⟩ := VRs.cons_iff.1 h2
    obtain rfl := VRs.nil_iff.1 h4
    simp only [VR] at h1 h3
    subst h1 h3
    refine ⟨.int k (if b > a then b else a), by simp [Builtin.max_, Builtin.max2], ?_⟩
    rw [iLt_eq] at hv
    by_cases hlt : a < b
    · rw [decide_eq_true hlt] at hv; cases hv; simp only [VR, if_pos hlt, gt_iff_lt]
    · rw [decide_eq_false hlt] at hv; cases hv; simp only [VR, if_neg hlt, gt_iff_lt]
  · cases hv

def byteOf : List V → Option (List Nat)
  | [] => some []
  | .int .u8 (.ofNat n) :: l => match Nat.blt n 256, byteOf l with
    | true, some r => some (n :: r)
    | _, _ => none
  | _ => none
noncomputable def convV (T : Tb TI) (h : H) (s d : TI) (x : V) : Option V :=
  match d.d, x with
  | .int k, .int _ n => some (.int k (wrapF k n))
  | .str, .str b => match s.d with
    | .str => some (.str b)
    | _ => none
  | .str, .nilsl => match s.d with
    | .sl e => match T.at_ e with
      | some te => match te.d with
        | .int .u8 => some (.str [])
        | _ => none
      | none => none
    | _ => none
  | .str, .sl b o n _ _ => match s.d with
    | .sl e => match T.at_ e with
      | some te => match te.d with
        | .int .u8 => match h.t.get b with
          | .cells l _ _ => match rowV l o n with
            | some m => match byteOf m with
              | some r => some (.str r)
              | none => none
            | none => none
          | _ => none
        | _ => none
      | none => none
    | _ => none
  | _, _ => none
theorem byteOf_eq : ∀ {l : List V} {r : List Nat} {xs : List Value}, byteOf l = some r → VRs ι l xs → Bytes r ∧ xs = (r.map Int.ofNat).map (Value.int .u8)
  | [], r, xs, h, hx => by cases h; rw [VRs.nil_iff.1 hx]; exact ⟨(by intro _ h; cases h), rfl⟩
  | v :: l, r, xs, h, hx => by
    unfold byteOf at h
    split at h
    · rename_i e; cases e
    · rename_i n l' e
      cases e
      split at h
      · rename_i r' hlt hr
        cases h
        obtain ⟨x, q, h1, h2, rfl⟩ := VRs.cons_iff.1 hx
        obtain ⟨i1, i2⟩ := byteOf_eq hr h2
        simp only [VR] at h1
        have hlt : n < 256 := by simpa [Nat.blt_eq] using hlt
        exact ⟨fun m hm => by rcases List.mem_cons.1 hm with rfl | hm; exact hlt; exact i1 m hm, by rw [h1, i2]; rfl⟩
      · cases h
    · cases h
theorem foldl_bytes : ∀ (r : List Nat) (s : ByteArray), ((r.map Int.ofNat).foldl (fun r n => r.push (UInt8.ofNat n.toNat)) s) = s ++ strD r
  | [], s => by apply ByteArray.ext; simp [strD]
  | n :: r, s => by
    rw [List.map_cons, List.foldl_cons, foldl_bytes r]
    apply ByteArray.ext
    simp [strD, ByteArray.push]
theorem conv_sound {T : Tb TI} (hT : TOk P T) (r : Rep K w0 ι h w) {t u : TypeId} {s d : TI} (hs : tiOf P t = some s) (hd : tiOf P u = some d) {x v : V} (hv : convV T h s d x = some v) {y : Value} (hx : VR ι x y) : ∃ z, (convert t u y).run P w = .ok z w ∧ VR ι v z := by
  obtain ⟨us, hus, _, hus2⟩ := run_under (w := w) hs
  unfold convV at hv
  split at hv
  · rename_i k _ n hk
    cases hv
    simp only [VR] at hx
    subst hx
    exact ⟨.int k (k.wrap n), by simp [convert, run_underlying hus, run_underlying (under_int hd hk), Conv.intToInt], by simp only [VR, wrapF_eq]⟩
  · rename_i b hk
    split at hv
    · rename_i hk2
      cases hv
      have hx' := hx
      simp only [VR] at hx
      obtain ⟨_, rfl⟩ := hx
      exact ⟨.string (strD b), by simp [convert, run_underlying (under_str hs hk2), run_underlying (under_str hd hk)], hx'⟩
    · cases hv
  · rename_i hk
    split at hv
    rotate_left
    · cases hv
    rename_i e hk2
    split at hv
    rotate_left
    · cases hv
    rename_i te hte
    split at hv
    rotate_left
    · cases hv
    rename_i hk3
    cases hv
    simp only [VR] at hx
    subst hx
    refine ⟨.string .empty, by simp [convert, run_underlying (under_sl hs hk2), run_underlying (under_str hd hk), run_underlying (under_int (hT _ _ hte) hk3), Conv.bytesToString], ?_⟩
    simp only [VR]
    exact ⟨(by intro _ h; cases h), rfl⟩
  · rename_i b o n _ _ hk
    split at hv
    rotate_left
    · cases hv
    rename_i e hk2
    split at hv
    rotate_left
    · cases hv
    rename_i te hte
    split at hv
    rotate_left
    · cases hv
    rename_i hk3
    split at hv
    rotate_left
    · cases hv
    rename_i l bt g hd2
    split at hv
    rotate_left
    · cases hv
    rename_i m hm
    split at hv
    rotate_left
    · cases hv
    rename_i q hq
    cases hv
    obtain ⟨c, cp, hb, rfl, _⟩ := VR.sl_out hx
    obtain ⟨ms, h1, h2, h3⟩ := r.row_in hb hd2 hm
    obtain ⟨i1, i2⟩ := byteOf_eq hq h1
    have hld := run_loadCells_list (P := P) (w := w) ⟨c, o, none⟩ ms h3
    rw [h2, i2] at hld
    have hrun := run_bytesToString (P := P) w ⟨c, o, none⟩ n cp (q.map Int.ofNat) hld
    rw [foldl_bytes] at hrun
    refine ⟨.string (strD q), ?_, by simp only [VR]; exact ⟨i1, trivial⟩⟩
    rw [run_convert_bytes_string (P := P) w t u e _ _ _ (under_sl hs hk2) (under_int (hT _ _ hte) hk3) (under_str hd hk), hrun]
    simp
  · cases hv

def subV (s : List Nat) (lo hi : Option V) : Option V :=
  match boundV hi s.length s.length with
  | none => none
  | some h => match boundV lo 0 h with
    | none => none
    | some l => some (.str ((s.drop l).take (h - l)))
theorem strD_extract (s : List Nat) (l h : Nat) : (strD s).extract l h = strD ((s.drop l).take (h - l)) := by
  apply ByteArray.ext
  simp [strD, ByteArray.extract, ByteArray.copySlice]
theorem sub_sound {t : TypeId} {ti : TI} (ht : tiOf P t = some ti) (hd : ti.d = .str) {s : List Nat} (hs : Bytes s) {lo hi : Option V} {v : V} (hv : subV s lo hi = some v) {l' h' : Option Value} (hlo : OVR ι lo l') (hhi : OVR ι hi h') :
    ∃ y, (Instr.sliceAt t (.string (strD s)) l' h' none).run P w = .ok y w ∧ VR ι v y := by
  have hu := under_str ht hd
  unfold subV at hv
  split at hv
  · cases hv
  rename_i hh hhb
  split at hv
  · cases hv
  rename_i ll hlb
  cases hv
  refine ⟨.string ((strD s).extract ll hh), ?_, ?_⟩
  · rcases boundV_some hhb hhi with ⟨rfl, _, rfl⟩ | ⟨k, rfl, hle⟩ <;> rcases boundV_some hlb hlo with ⟨rfl, _, rfl⟩ | ⟨k2, rfl, hle2⟩
    · simp [Instr.sliceAt, Instr.slice, run_underlying hu, Instr.sliceBounds]
      rw [strD_extract]
      simp
    · simp [Instr.sliceAt, Instr.slice, run_underlying hu, Instr.sliceBounds, bound_run, strD_size, hle2]
    · simp [Instr.sliceAt, Instr.slice, run_underlying hu, Instr.sliceBounds, bound_run, strD_size, hle]
    · simp [Instr.sliceAt, Instr.slice, run_underlying hu, Instr.sliceBounds, bound_run, strD_size, hle, hle2]
  · rw [strD_extract]
    simp only [VR]
    exact ⟨fun n hn => hs n (List.mem_of_mem_drop (List.mem_of_mem_take hn)), trivial⟩

def unV (op : UnOp) (x : V) : Option V :=
  match op, x with
  | .not, .bool b => some (.bool (!b))
  | .neg, .int k n => some (.int k (wrapF k (0 - n)))
  | _, _ => none
theorem un_sound {op : UnOp} {x v : V} (hv : unV op x = some v) {y : Value} (hx : VR ι x y) : ∃ z, (Op.unary op y).run P w = .ok z w ∧ VR ι v z := by
  unfold unV at hv
  split at hv
  · rename_i b
    cases hv
    simp only [VR] at hx
    subst hx
    exact ⟨.bool (!b), by simp [Op.unary], by simp only [VR]⟩
  · rename_i k n
    cases hv
    simp only [VR] at hx
    subst hx
    exact ⟨.int k (k.wrap (0 - n)), by simp [Op.unary, Op.intArith], by simp only [VR, wrapF_eq]⟩
  · cases hv

def repV : Nat → List V → List V
  | 0, _ => []
  | n + 1, l => l ++ repV n l
theorem repV_zero (z : Array Value) {zl : List V} (hz : VRs ι zl z.toList) : ∀ n, VRs ι (repV n zl) ((Array.range (n * z.size)).map (z[· % z.size]!)).toList := by
  have key : ∀ n, ((Array.range (n * z.size)).map (z[· % z.size]!)).toList = (List.replicate n z.toList).flatten := by
    intro n
    induction n with
    | zero => simp
    | succ n ih =>
      rw [List.replicate_succ', List.flatten_append, ← ih]
      simp only [Array.toList_map, Array.toList_range, List.flatten_cons, List.flatten_nil, List.append_nil]
      rw [Nat.add_mul, Nat.one_mul, List.range_add, List.map_append, List.map_map]
      congr 1
      apply List.ext_getElem
      · simp
      · intro i h1 h2
        simp at h1 h2
        simp [Nat.mul_add_mod_self_right, Nat.mod_eq_of_lt h1, h1]
  intro n
  rw [key]
  clear key
  induction n with
  | zero => exact VRs.nil_iff.2 rfl
  | succ n ih =>
    rw [List.replicate_succ, List.flatten_cons]
    exact hz.append ih
def rowOf (te : TI) (n : Nat) (parts : List (Nat × V)) : Option (List V) :=
  match Nat.beq te.size 0, Nat.ble (n * te.size) 16777216 with
  | false, true => match cellsV te.zero with
    | some z => fillV (fun i => some (i * te.size, te.size)) (repV n z) parts
    | none => none
  | _, _ => none
theorem buildSlice_run {t e : TypeId} {ti te : TI} (ht : tiOf P t = some ti) (hd : ti.d = .sl e) (hte : tiOf P e = some te) {n : Nat} {parts : List (Nat × V)} {l : List V} (hl : rowOf te n parts = some l) {xs : List (Nat × Value)} (h1 : xs.map (·.1) = parts.map (·.1)) (h2 : VRs ι (parts.map (·.2)) (xs.map (·.2))) :
    ∃ ms : List Value, VRs ι l ms ∧ (Instr.buildSlice t n xs.toArray).run P w = .ok (.slice (some ⟨w.heap.size, 0, none⟩) n n) (w.alloc (.cells ms.toArray e)) := by
  unfold rowOf at hl
  split at hl
  rotate_left
  · cases hl
  rename_i h0 hle
  have h0 := Nat.ne_of_beq_eq_false h0
  have hle := Nat.le_of_ble_eq_true hle
  split at hl
  rotate_left
  · cases hl
  rename_i z hz
  obtain ⟨zv, hz1, hz2⟩ := run_zero (P := P) (w := w) ι hte
  have hzc := cellsV_sound hz hz2
  obtain ⟨i, u, zz, hi, hu, hzz, e0, hzs⟩ := ti_some hte
  have hzv : zv.cells.size = te.size := by
    have : zv = zz := by
      have h3 : (zeroValue e).run P w = .ok zz w := by simp [zeroValue, typeInfo, hi, hzz, go_sem]
      rw [h3] at hz1
      cases hz1; rfl
    rw [this, hzs, e0]
  have hrow := repV_zero zv.cells hzc n
  rw [hzv] at hrow
  obtain ⟨ms, e1, e2⟩ := fill_sound _ parts xs (repV n z) l _ hl hrow h1 h2
  have hrun : (Instr.buildSlice t n xs.toArray).run P w = .ok (.slice (some ⟨w.heap.size, 0, none⟩) n n) (w.alloc (.cells ms.toArray e)) := by
    have hs := run_size (w := w) hte
    have hne : ¬ (16777216 < n * te.size) := by omega
    simp only [Instr.buildSlice, Sem.run_bind, run_underlying (under_sl ht hd), Result.andThen_ok, hs]
    rw [if_neg (by simpa using hne)]
    by_cases hn0 : n = 0
    · subst hn0
      simp only [Nat.zero_mul] at e1 ⊢
      have e3 : Instr.fill (fun i => some (i * te.size, te.size)) #[] xs = some ms.toArray := by simpa using e1
      simp [e3, newRow, go_sem]
    · have hne2 : ¬ (n * te.size = 0) := by
        intro h
        rcases Nat.mul_eq_zero.1 h with h | h
        · exact hn0 h
        · exact h0 h
      have e3 : Instr.fill (fun i => some (i * te.size, te.size)) ((Array.range (n * te.size)).map (zv.cells[· % zv.cells.size]!)) xs = some ms.toArray := by
        rw [hzv]; rw [Array.toArray_toList] at e1; exact e1
      simp only [hne2, if_false, Sem.run_bind, hz1, Result.andThen_ok, Sem.run_pure, e3, newRow, run_newObj_alloc]
  exact ⟨ms, e2, hrun⟩
theorem buildSlice_sound (r : Rep K w0 ι h w) (hr : room h = true) {t e : TypeId} {ti te : TI} (ht : tiOf P t = some ti) (hd : ti.d = .sl e) (hte : tiOf P e = some te) {n : Nat} {parts : List (Nat × V)} {l : List V} (hl : rowOf te n parts = some l) {xs : List (Nat × Value)} (h1 : xs.map (·.1) = parts.map (·.1)) (h2 : VRs ι (parts.map (·.2)) (xs.map (·.2))) (hn : n ≤ 16777216) :
    ∃ y w', (Instr.buildSlice t n xs.toArray).run P w = .ok y w' ∧ Rep K w0 (ι.new h.n w.heap.size) (h.add (.cells l e false)) w' ∧ VR (ι.new h.n w.heap.size) (.sl h.n 0 n n none) y := by
  obtain ⟨ms, e2, hrun⟩ := buildSlice_run (w := w) ht hd hte hl h1 h2
  refine ⟨_, _, hrun, r.row hr e2 e, ?_⟩
  exact VR.sl_mk (by simp [I.new]) (Nat.le_refl _) (Nat.le_refl _) (by omega) (fun _ => rfl) (fun _ h => by cases h)

def makeR (te : TI) (a b : V) : Option (List V × Nat × Nat) :=
  match a, b with
  | .int _ (.ofNat n), .int _ (.ofNat c) =>
    match Nat.ble n c, Nat.ble (te.by_ * c) 281474976710656, Nat.ble c 16777216 with
    | true, true, true => match cellsV te.zero with
      | some z => some (repV c z, n, c)
      | none => none
    | _, _, _ => none
  | _, _ => none
theorem makeSlice_run {t e : TypeId} {ti te : TI} (ht : tiOf P t = some ti) (hd : ti.d = .sl e) (hte : tiOf P e = some te) {a b : V} {l : List V} {n c : Nat} (hl : makeR te a b = some (l, n, c)) {x y : Value} (h1 : VR ι a x) (h2 : VR ι b y) :
    n ≤ c ∧ c ≤ 16777216 ∧ ∃ ms : List Value, VRs ι l ms ∧ (Instr.makeSlice t x y).run P w = .ok (.slice (some ⟨w.heap.size, 0, none⟩) n c) (w.alloc (.cells ms.toArray e)) := by
  unfold makeR at hl
  split at hl
  rotate_left
  · cases hl
  rename_i k1 n' k2 c'
  split at hl
  rotate_left
  · cases hl
  rename_i q1 q2 q3
  split at hl
  rotate_left
  · cases hl
  rename_i z hz
  cases hl
  have q1 := Nat.le_of_ble_eq_true q1
  have q2 := Nat.le_of_ble_eq_true q2
  have q3 := Nat.le_of_ble_eq_true q3
  refine ⟨q1, q3, ?_⟩
  simp only [VR] at h1 h2
  subst h1 h2
  obtain ⟨zv, hz1, hz2⟩ := run_zero (P := P) (w := w) ι hte
  have hzc := cellsV_sound hz hz2
  obtain ⟨i, u, zz, hi, hu, hzz, e0, hzs⟩ := ti_some hte
  have hzv : zv = zz := by
    have h3 : (zeroValue e).run P w = .ok zz w := by simp [zeroValue, typeInfo, hi, hzz, go_sem]
    rw [h3] at hz1
    cases hz1; rfl
  have hrow := repV_zero zv.cells hzc c
  rw [hzv, hzs] at hrow
  have hby : te.by_ = i.bytes := by rw [e0]
  rw [hby] at q2
  have hb2 : (i.bytes : Int) * (c : Int) ≤ 281474976710656 := by
    have : ((i.bytes * c : Nat) : Int) ≤ 281474976710656 := by omega
    rwa [Int.natCast_mul] at this
  have hr := run_make (P := P) w t e i zz (under_sl ht hd) hi hzz k1 k2 (n : Int) (c : Int) (by omega) (by omega) hb2 (by omega)
  simp only [Int.toNat_natCast] at hr
  refine ⟨(madeCells zz.cells (c * i.size)).toList, ?_, by rw [Array.toArray_toList]; exact hr⟩
  unfold madeCells
  rw [hzs]
  exact hrow
theorem makeSlice_sound (r : Rep K w0 ι h w) (hr : room h = true) {t e : TypeId} {ti te : TI} (ht : tiOf P t = some ti) (hd : ti.d = .sl e) (hte : tiOf P e = some te) {a b : V} {l : List V} {n c : Nat} (hl : makeR te a b = some (l, n, c)) {x y : Value} (h1 : VR ι a x) (h2 : VR ι b y) :
    ∃ z w', (Instr.makeSlice t x y).run P w = .ok z w' ∧ Rep K w0 (ι.new h.n w.heap.size) (h.add (.cells l e false)) w' ∧ VR (ι.new h.n w.heap.size) (.sl h.n 0 n c none) z := by
  obtain ⟨m1, m2, ms, e2, hrun⟩ := makeSlice_run (w := w) ht hd hte hl h1 h2
  refine ⟨_, _, hrun, r.row hr e2 e, ?_⟩
  exact VR.sl_mk (by simp [I.new]) m1 (Nat.le_refl _) (by omega) (fun _ => rfl) (fun _ h => by cases h)

theorem makeMap_sound (r : Rep K w0 ι h w) (hr : room h = true) (t : TypeId) : ∃ w', (Instr.makeMap t none).run P w = .ok (.map (some w.heap.size)) w' ∧ Rep K w0 (ι.new h.n w.heap.size) (h.add (.map [] 0)) w' :=
  ⟨w.alloc (.map #[] 0), by simp [Instr.makeMap], r.alloc (room_lt hr) ⟨[], rfl, rfl⟩⟩
end
end Go.Proofs.Ytpbppgfogepjeaa.E
namespace Go.Proofs.Ytpbppgfogepjeaa.E
open Go.ChangeShapes Go.WideShapes Go.ChangeAt Go.RowKit Go.Deep

noncomputable def eqFs (T : Tb TI) (rec : Nat → V → V → Option Bool) (l m : List V) : List (Nat × Nat × Nat) → Option Bool
  | [] => some true
  | p :: r => match T.at_ p.2.2 with
    | none => none
    | some tf => match loadV tf l p.1, loadV tf m p.1 with
      | some a, some b => match rec p.2.2 a b with
        | some true => eqFs T rec l m r
        | some false => some false
        | none => none
      | _, _ => none
noncomputable def eqV (T : Tb TI) : Nat → Nat → V → V → Option Bool
  | 0, _, _, _ => none
  | n + 1, t, x, y => match T.at_ t with
    | none => none
    | some ti => match x, y with
      | .int k a, .int j b => match ti.d, kEq k j with
        | .int _, true => some (iEq a b)
        | _, _ => none
      | .str a, .str b => match ti.d with
        | .str => some (sEq a b)
        | _ => none
      | .bool a, .bool b => match ti.d with
        | .bool => some (match a with | true => b | false => !b)
        | _ => none
      | .agg l, .agg m => match ti.eq, ti.d with
        | true, .st fs => eqFs T (eqV T n) l m fs
        | _, _ => none
      | _, _ => none
section
variable {P : Program} {K : Ker} {w0 w : World} {ι : I} {h : H}
theorem eqOk_out {t : TypeId} {ti : TI} (ht : tiOf P t = some ti) (he : ti.eq = true) {F : Array Field} (hF : P.underlying t = some (.struct F)) : P.stoodInHeld t = false ∧ P.eqGuardType P.depth t = false ∧ ∀ f ∈ F.toList, f.name ≠ "_" := by
  obtain ⟨i, u, z, hi, hu, hz, e, _⟩ := ti_some ht
  rw [hF] at hu
  cases hu
  rw [e] at he
  have he : eqOk P t (.struct F) = true := he
  simp only [eqOk] at he
  split at he
  · rename_i h1 h2
    refine ⟨h1, h2, fun f hf => ?_⟩
    have := List.all_eq_true.1 he f hf
    simpa using this
  · cases he
theorem eqFs_sound {T : Tb TI} (hT : TOk P T) {rec : Nat → V → V → Option Bool} {d : Nat} (hrec : ∀ t a b c x y, rec t a b = some c → VR ι a x → VR ι b y → (Op.equalIn d t x y).run P w = .ok c w) {l m : List V} {xs ys : List Value} (hl : VRs ι l xs) (hm : VRs ι m ys) :
    ∀ (fs : List (Nat × Nat × Nat)) (F : List Field) (b : Bool), F.mapM (fieldOf P) = some fs → (∀ f ∈ F, f.name ≠ "_") → eqFs T rec l m fs = some b → (Op.eqFields d xs.toArray ys.toArray F).run P w = .ok b w
  | fs, [], b, hF, _, he => by
    simp at hF
    subst hF
    cases he
    simp [Op.eqFields]
  | fs, f :: F, b, hF, hn, he => by
    rw [List.mapM_cons] at hF
    cases h1 : fieldOf P f with
    | none => simp [h1] at hF
    | some p =>
      cases h2 : F.mapM (fieldOf P) with
      | none => simp [h1, h2] at hF
      | some r =>
        simp [h1, h2] at hF
        subst hF
        obtain ⟨p1, p2, p3⟩ := p
        obtain ⟨e1, e2, _⟩ := field_size h1 w
        unfold eqFs at he
        split at he
        · cases he
        rename_i tf htf
        split at he
        rotate_left
        · cases he
        rename_i a c ha hc
        have hti := hT _ _ htf
        dsimp only at hti ha hc
        obtain ⟨x, x1, x2⟩ := part_sound (w := w) hti hl ha
        obtain ⟨y, y1, y2⟩ := part_sound (w := w) hti hm hc
        unfold Op.eqFields
        rw [if_pos (hn f (by simp)), e1, e2]
        simp only [Sem.run_bind, x1, y1, Result.andThen_ok]
        split at he
        · rename_i hr
          rw [hrec _ _ _ _ _ _ hr x2 y2]
          simp only [Result.andThen_ok, Bool.not_true, Bool.false_eq_true, if_false]
          exact eqFs_sound hT hrec hl hm r F b h2 (fun f hf => hn f (by simp [hf])) he
        · rename_i hr
          cases he
          rw [hrec _ _ _ _ _ _ hr x2 y2]
          simp
        · cases he
theorem eqV_sound {T : Tb TI} (hT : TOk P T) : ∀ (n t : Nat) (a b : V) (c : Bool) (x y : Value) (d : Nat), eqV T n t a b = some c → VR ι a x → VR ι b y → (Op.equalIn (d + n) t x y).run P w = .ok c w
  | 0, _, _, _, _, _, _, _, h, _, _ => by cases h
  | n + 1, t, a, b, c, x, y, d, h, hx, hy => by
    unfold eqV at h
    split at h
    · cases h
    rename_i ti hti
    have ht := hT _ _ hti
    split at h
    · split at h
      · rename_i hd hk
        cases h
        have hk := kEq_eq hk
        subst hk
        simp only [VR] at hx hy
        subst hx hy
        rw [← Nat.add_assoc, run_equalIn_int w _ _ _ _ _ _ (under_int ht hd), iEq_eq]
      · cases h
    · split at h
      · rename_i hd
        cases h
        simp only [VR] at hx hy
        obtain ⟨h1, rfl⟩ := hx
        obtain ⟨h2, rfl⟩ := hy
        rw [← Nat.add_assoc, run_equalIn_string w _ _ _ _ (under_str ht hd), sEq_eq h1 h2]
      · cases h
    · rename_i a b
      split at h
      · rename_i hd
        cases h
        simp only [VR] at hx hy
        subst hx hy
        rw [← Nat.add_assoc, run_equalIn_bool' w _ _ _ _ (under_bool ht hd)]
        cases a <;> cases b <;> rfl
      · cases h
    · split at h
      · rename_i l m fs he hd
        simp only [VR] at hx hy
        obtain ⟨xs, h1, rfl⟩ := hx
        obtain ⟨ys, h2, rfl⟩ := hy
        obtain ⟨F, hF, hfs⟩ := under_st ht hd
        obtain ⟨q1, _, q3⟩ := eqOk_out ht he hF
        have hfo : P.fieldsOf t = F := by unfold Program.fieldsOf; rw [hF]
        rw [← Nat.add_assoc, run_equalIn_struct w _ _ _ _ (by rw [hfo]; exact hF) q1, hfo]
        exact eqFs_sound hT (fun t a b c x y h hx hy => eqV_sound hT n t a b c x y d h hx hy) h1 h2 fs F.toList c hfs q3 h
      · cases h
    · cases h

noncomputable def keyFs (T : Tb TI) (rec : Nat → V → Bool) (l : List V) : List (Nat × Nat × Nat) → Bool
  | [] => true
  | p :: r => match T.at_ p.2.2 with
    | none => false
    | some tf => match loadV tf l p.1 with
      | some a => match rec p.2.2 a with
        | true => keyFs T rec l r
        | false => false
      | none => false
noncomputable def keyV (T : Tb TI) : Nat → Nat → V → Bool
  | 0, _, _ => false
  | n + 1, t, x => match T.at_ t with
    | none => false
    | some ti => match x, ti.d with
      | .int _ _, .int _ => true
      | .str _, .str => true
      | .bool _, .bool => true
      | .agg l, .st fs => keyFs T (keyV T n) l fs
      | _, _ => false
theorem keyV_sound {T : Tb TI} (hT : TOk P T) (em : Bool) : ∀ (n t : Nat) (a : V) (x : Value) (d : Nat), keyV T n t a = true → VR ι a x → (Instr.checkKey em (d + n) t x).run P w = .ok () w
  | 0, _, _, _, _, h, _ => by cases h
  | n + 1, t, a, x, d, h, hx => by
    unfold keyV at h
    split at h
    · cases h
    rename_i ti hti
    have ht := hT _ _ hti
    split at h
    · rename_i hd
      simp only [VR] at hx
      subst hx
      rw [← Nat.add_assoc]
      simp [Instr.checkKey, run_underlying (under_int ht hd)]
    · rename_i hd
      simp only [VR] at hx
      obtain ⟨_, rfl⟩ := hx
      rw [← Nat.add_assoc]
      simp [Instr.checkKey, run_underlying (under_str ht hd)]
    · rename_i hd
      simp only [VR] at hx
      subst hx
      rw [← Nat.add_assoc]
      simp [Instr.checkKey, run_underlying (under_bool ht hd)]
    · rename_i l fs hd
      simp only [VR] at hx
      obtain ⟨xs, h1, rfl⟩ := hx
      obtain ⟨F, hF, hfs⟩ := under_st ht hd
      rw [← Nat.add_assoc]
      simp only [Instr.checkKey, Sem.run_bind, run_underlying hF, Result.andThen_ok]
      rw [← Array.forIn_toList]
      generalize F.toList = L at hfs ⊢
      clear hF hd hti ht
      induction L generalizing fs with
      | nil => simp
      | cons f F ih =>
        rw [List.mapM_cons] at hfs
        cases h1' : fieldOf P f with
        | none => simp [h1'] at hfs
        | some p =>
          cases h2 : F.mapM (fieldOf P) with
          | none => simp [h1', h2] at hfs
          | some r =>
            simp [h1', h2] at hfs
            subst hfs
            obtain ⟨p1, p2, p3⟩ := p
            obtain ⟨e1, e2, _⟩ := field_size h1' w
            unfold keyFs at h
            split at h
            · cases h
            rename_i tf htf
            split at h
            rotate_left
            · cases h
            rename_i a ha
            split at h
            rotate_left
            · cases h
            rename_i hk
            obtain ⟨x, x1, x2⟩ := part_sound (w := w) (hT _ _ htf) h1 ha
            have hck := keyV_sound hT em n _ _ _ d hk x2
            dsimp only at x1 hck
            have ih' := ih r h h2
            rw [List.forIn_cons]
            by_cases hn : f.name = "_"
            · simp only [hn, ne_eq, not_true_eq_false, if_false, Sem.run_bind, Sem.run_pure, Result.andThen_ok]
              exact ih'
            · simp only [hn, ne_eq, not_false_eq_true, if_true, Sem.run_bind, e1, e2, x1, hck, Sem.run_pure, Result.andThen_ok]
              exact ih'
    · cases h
end
end Go.Proofs.Ytpbppgfogepjeaa.E
namespace Go.Proofs.Ytpbppgfogepjeaa.E
open Go.ChangeShapes Go.WideShapes Go.ChangeAt Go.RowKit Go.Deep Go.MapKept

abbrev Ent := V × V × Nat
noncomputable def findV (T : Tb TI) (kt : Nat) (k : V) : List Ent → Nat → Option (Option (Nat × V))
  | [], _ => some none
  | e :: r, i => match eqV T 5 kt k e.1 with
    | some true => some (some (i, e.2.1))
    | some false => findV T kt k r (i + 1)
    | none => none
section
variable {P : Program} {K : Ker} {w0 w : World} {ι : I} {h : H}
def FindR (ι : I) : Option (Nat × V) → Option (Nat × Value) → Prop
  | none, y => y = none
  | some p, y => ∃ x, y = some (p.1, x) ∧ VR ι p.2 x
theorem findAsk_sound {T : Tb TI} (hT : TOk P T) {kt : Nat} {k : V} {kx : Value} (hk : VR ι k kx) : ∀ (es : List Ent) (E : List MapEntry) (i : Nat) (r : Option (Nat × V)), findV T kt k es i = some r → ESR ι es E → ∃ y, (Instr.findAsking kt kx E i).run P w = .ok y w ∧ FindR ι r y
  | [], E, i, r, h, hE => by
    cases h
    cases hE
    exact ⟨none, by simp [Instr.findAsking], rfl⟩
  | e :: es, E, i, r, h, hE => by
    obtain ⟨k2, v2, q, h1, h2, h3, rfl⟩ := hE
    unfold findV at h
    split at h
    · rename_i he
      cases h
      have := eqV_sound (w := w) hT 5 kt k e.1 true kx k2 9995 he hk h1
      exact ⟨some (i, v2), by simp [Instr.findAsking, Op.equal, Op.maxDepth, this], v2, rfl, h2⟩
    · rename_i he
      have := eqV_sound (w := w) hT 5 kt k e.1 false kx k2 9995 he hk h1
      obtain ⟨y, y1, y2⟩ := findAsk_sound hT hk es q (i + 1) r h h3
      exact ⟨y, by simp [Instr.findAsking, Op.equal, Op.maxDepth, this, y1], y2⟩
    · cases h
theorem findNow_int {T : Tb TI} (hT : TOk P T) {kt : Nat} {ti : TI} (ht : T.at_ kt = some ti) {kk : IntKind} (hd : ti.d = .int kk) {k : V} {kx : Value} (hk : VR ι k kx) : ∀ (es : List Ent) (E : List MapEntry) (i : Nat) (r : Option (Nat × V)), findV T kt k es i = some r → ESR ι es E → ∃ y, Instr.findNow (.int kk) kx E i = some y ∧ FindR ι r y
  | [], E, i, r, h, hE => by
    cases h
    cases hE
    exact ⟨none, rfl, rfl⟩
  | e :: es, E, i, r, h, hE => by
    obtain ⟨k2, v2, q, h1, h2, h3, rfl⟩ := hE
    have key : ∀ c, eqV T 5 kt k e.1 = some c → Instr.sameNow (.int kk) kx k2 = some c := by
      intro c hc
      generalize e.1 = k1 at h1 hc
      unfold eqV at hc
      rw [ht] at hc
      dsimp only at hc
      rw [hd] at hc
      cases k <;> cases k1 <;> try (simp at hc; done)
      · dsimp only at hc
        split at hc
        · rename_i hkk
          cases hc
          have hkk := kEq_eq hkk
          subst hkk
          simp only [VR] at hk h1
          subst hk h1
          simp [Instr.sameNow, iEq_eq]
        · cases hc
    unfold findV at h
    split at h
    · rename_i he
      cases h
      exact ⟨some (i, v2), by simp [Instr.findNow, key _ he], v2, rfl, h2⟩
    · rename_i he
      obtain ⟨y, y1, y2⟩ := findNow_int hT ht hd hk es q (i + 1) r h h3
      exact ⟨y, by simp [Instr.findNow, key _ he, y1], y2⟩
    · cases h
theorem findNow_str {T : Tb TI} (hT : TOk P T) {kt : Nat} {ti : TI} (ht : T.at_ kt = some ti) (hd : ti.d = .str) {k : V} {kx : Value} (hk : VR ι k kx) : ∀ (es : List Ent) (E : List MapEntry) (i : Nat) (r : Option (Nat × V)), findV T kt k es i = some r → ESR ι es E → ∃ y, Instr.findNow .string kx E i = some y ∧ FindR ι r y
  | [], E, i, r, h, hE => by
    cases h
    cases hE
    exact ⟨none, rfl, rfl⟩
  | e :: es, E, i, r, h, hE => by
    obtain ⟨k2, v2, q, h1, h2, h3, rfl⟩ := hE
    have key : ∀ c, eqV T 5 kt k e.1 = some c → Instr.sameNow .string kx k2 = some c := by
      intro c hc
      generalize e.1 = k1 at h1 hc
      unfold eqV at hc
      rw [ht] at hc
      dsimp only at hc
      rw [hd] at hc
      cases k <;> cases k1 <;> try (simp at hc; done)
      · dsimp only at hc
        cases hc
        simp only [VR] at hk h1
        obtain ⟨g1, rfl⟩ := hk
        obtain ⟨g2, rfl⟩ := h1
        simp [Instr.sameNow, sEq_eq g1 g2, beq_toListBytes]
    unfold findV at h
    split at h
    · rename_i he
      cases h
      exact ⟨some (i, v2), by simp [Instr.findNow, key _ he], v2, rfl, h2⟩
    · rename_i he
      obtain ⟨y, y1, y2⟩ := findNow_str hT ht hd hk es q (i + 1) r h h3
      exact ⟨y, by simp [Instr.findNow, key _ he, y1], y2⟩
    · cases h
def keyD : TD → Bool
  | .int _ => true
  | .str => true
  | .st _ => true
  | _ => false
theorem find_sound {T : Tb TI} (hT : TOk P T) {kt : Nat} {ti : TI} (ht : T.at_ kt = some ti) (hd : keyD ti.d = true) {k : V} {kx : Value} (hk : VR ι k kx) {es : List Ent} {E : List MapEntry} {r : Option (Nat × V)} (hf : findV T kt k es 0 = some r) (hE : ESR ι es E) : ∃ y, (Instr.findKey kt kx E).run P w = .ok y w ∧ FindR ι r y := by
  have hti := hT _ _ ht
  cases hdd : ti.d with
  | int kk =>
    obtain ⟨y, y1, y2⟩ := findNow_int hT ht hdd hk es E 0 r hf hE
    exact ⟨y, run_findKey (under_int hti hdd) y1, y2⟩
  | str =>
    obtain ⟨y, y1, y2⟩ := findNow_str hT ht hdd hk es E 0 r hf hE
    exact ⟨y, run_findKey (under_str hti hdd) y1, y2⟩
  | st fs =>
    obtain ⟨F, hF, _⟩ := under_st hti hdd
    cases es with
    | nil =>
      cases hf
      cases hE
      exact ⟨none, run_findKey hF rfl, rfl⟩
    | cons e es =>
      obtain ⟨y, y1, y2⟩ := findAsk_sound (w := w) hT hk (e :: es) E 0 r hf hE
      refine ⟨y, ?_, y2⟩
      obtain ⟨k2, v2, q, h1, h2, h3, rfl⟩ := hE
      have hs : Instr.findNow (.struct F) kx (⟨k2, v2, e.2.2⟩ :: q) 0 = none := by simp [Instr.findNow, Instr.sameNow]
      simp [Instr.findKey, run_underlying hF, hs, y1]
  | _ => rw [hdd] at hd; cases hd

noncomputable def lookV (T : Tb TI) (h : H) (ti : TI) (x k : V) (ok : Bool) : Option V :=
  match ti.d with
  | .map kt et => match T.at_ kt, T.at_ et with
    | some tk, some te => match keyD tk.d, keyV T 5 kt k with
      | true, true => match (match x with | .nilmap => some (([] : List Ent)) | .map b => (match h.t.get b with | .map es _ => some es | _ => none) | _ => none) with
        | none => none
        | some es => match findV T kt k es 0 with
          | none => none
          | some none => match ok with
            | true => some (.tup [te.zero, .bool false])
            | false => some te.zero
          | some (some p) => match ok with
            | true => some (.tup [p.2, .bool true])
            | false => some p.2
      | _, _ => none
    | _, _ => none
  | _ => none
theorem look_sound {T : Tb TI} (hT : TOk P T) (r : Rep K w0 ι h w) {t : TypeId} {ti : TI} (ht : tiOf P t = some ti) {x k v : V} {ok : Bool} (hv : lookV T h ti x k ok = some v) {y kx : Value} (hx : VR ι x y) (hk : VR ι k kx) : ∃ z, (Instr.lookup t y kx ok).run P w = .ok z w ∧ VR ι v z := by
  unfold lookV at hv
  split at hv
  rotate_left
  · cases hv
  rename_i kt et hd
  split at hv
  rotate_left
  · cases hv
  rename_i tk te htk hte
  split at hv
  rotate_left
  · cases hv
  rename_i hkd hkv
  split at hv
  · cases hv
  rename_i es hes
  have hm : ∃ (E : List MapEntry), ESR ι es E ∧ ((y = .map none ∧ E = []) ∨ ∃ c ck, y = .map (some c) ∧ (getObj c).run P w = .ok (.map E.toArray ck) w) := by
    split at hes
    · cases hes
      simp only [VR] at hx
      exact ⟨[], rfl, .inl ⟨hx, rfl⟩⟩
    · split at hes
      · rename_i b _ _ ck hm
        cases hes
        simp only [VR] at hx
        obtain ⟨c, hb, rfl⟩ := hx
        obtain ⟨E, h1, h2, _⟩ := r.map_at hb hm
        exact ⟨E, h1, .inr ⟨c, ck, rfl, by simp [getObj, Sem.run, h2]⟩⟩
      · cases hes
    · cases hes
  obtain ⟨E, hE, hm⟩ := hm
  have hck := keyV_sound (w := w) hT E.toArray.isEmpty 5 kt k kx 9995 hkv hk
  obtain ⟨z, hz1, hz2⟩ := run_zero (P := P) (w := w) ι (hT _ _ hte)
  have gen : ∀ q, findV T kt k es 0 = some q → ∃ y', (Instr.findKey kt kx E).run P w = .ok y' w ∧ FindR ι q y' := fun q hq => find_sound hT htk hkd hk hq hE
  have hlook : ∀ y', (Instr.findKey kt kx E).run P w = .ok y' w → (Instr.lookup t y kx ok).run P w = .ok (if ok then .tuple #[(y'.map (·.2)).getD z, .bool y'.isSome] else (y'.map (·.2)).getD z) w := by
    intro y' hy'
    rcases hm with ⟨rfl, rfl⟩ | ⟨c, ck, rfl, hg⟩
    · have hck1 : (Instr.checkKey true 10000 kt kx).run P w = .ok () w := by simpa using hck
      cases y' with
      | none => simp [Instr.lookup, run_underlying (under_map ht hd), hz1, hy', hck1]
      | some p => obtain ⟨p1, p2⟩ := p; simp [Instr.lookup, run_underlying (under_map ht hd), hy', hck1]
    · have hck1 : (Instr.checkKey E.isEmpty 10000 kt kx).run P w = .ok () w := by simpa using hck
      cases y' with
      | none => simp [Instr.lookup, run_underlying (under_map ht hd), hz1, hy', hg, hck1]
      | some p => obtain ⟨p1, p2⟩ := p; simp [Instr.lookup, run_underlying (under_map ht hd), hy', hg, hck1]
  split at hv
  · cases hv
  · rename_i hq
    obtain ⟨y', y1, y2⟩ := gen _ hq
    obtain rfl : y' = none := y2
    have := hlook _ y1
    cases ok <;> cases hv
    · exact ⟨_, this, hz2⟩
    · exact ⟨_, this, by
        simp only [VR]
        exact ⟨[z, .bool false], VRs.cons_iff.2 ⟨_, _, hz2, VRs.cons_iff.2 ⟨_, _, by simp only [VR], VRs.nil_iff.2 rfl, rfl⟩, rfl⟩, rfl⟩⟩
  · rename_i p hq
    obtain ⟨y', y1, y2⟩ := gen _ hq
    obtain ⟨x2, rfl, hx2⟩ := y2
    have := hlook _ y1
    cases ok <;> cases hv
    · exact ⟨_, this, hx2⟩
    · exact ⟨_, this, by
        simp only [VR]
        exact ⟨[x2, .bool true], VRs.cons_iff.2 ⟨_, _, hx2, VRs.cons_iff.2 ⟨_, _, by simp only [VR], VRs.nil_iff.2 rfl, rfl⟩, rfl⟩, rfl⟩⟩
end
end Go.Proofs.Ytpbppgfogepjeaa.E
