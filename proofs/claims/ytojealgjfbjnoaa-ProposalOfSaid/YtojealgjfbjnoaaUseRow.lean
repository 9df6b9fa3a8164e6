/- The contract of query.Row at a book. Condition: at most 1000 objects; the book lies in blocks of the call's own. -/
import Derived.Test.YtojealgjfbjnoaaStUseNM
import Derived.Test.YtojealgjfbjnoaaScrapeAt
namespace Go.Proofs.Ytojealgjfbjnoaa
open Go.ChangeShapes Go.WideShapes Go.ChangeAt Go.RowKit Go.Deep Go.Maps

section
variable {P : Program} {ops : Array Oper} {C : World → Prop}
theorem wpVal_memK {Q : Act → Prop} {a : Act} {o : Oper} {rest : List Oper} (hg : o.guard = none) (hm : memOp o.op = true) (h : ∀ K : Act → Prop, (∀ a, wpVal P ops C Q rest a → K a) → ∃ v, (∀ w, C w → (execOp a.eval o).run P w = .ok (.value v) w) ∧ K (a.put o.dst v)) : wpVal P ops C Q (o :: rest) a := by
  obtain ⟨v, h1, h2⟩ := h _ (fun _ h => h)
  refine ⟨v, ?_, h2⟩
  rw [if_pos (by simp [Region.wanted, hg])]
  exact fun w hw => h1 w (hw hm)
theorem wpLoud_append_own {b : Nat} {R : Act → World → Prop} {t e : TypeId} {size bytes : Nat} (E : ElemOK P t e size bytes) {j : Nat} {r : List Nat} {A : Act} {w : World} {l : List Oper} {o : Oper} (ho : nthOp j l = some o) (hg : o.guard = none)
    (s x : Operand) (hop : o.op = Op.call { callee := Callee.builtin Builtin.append, args := #[s, x], argTypes := #[t, t] })
    (B : Nat) (v : Value) (n : Nat) (xs : List Value) (hs : A.eval s = v) (hown : w.ownsRow B e size v n xs) (hB : B ≤ w.heap.size) (g : Nat) (cur : Array Value) (hx : A.eval x = .slice (some ⟨g, 0, none⟩) 1 1)
    (hcur : w.heap[g]? = some (.cells cur e (0, 0))) (hl : cur.size = size) (h1 : cur.toList.all (fun u => u.oneCell') = true) (h63 : n + 1 ≤ maxLen) (hbytes : (n + 1) * bytes ≤ 140737488355328)
    (hK : ∀ g' cap' w', w'.ownsRow B e size (.slice (some ⟨g', 0, none⟩) (n + 1) cap') (n + 1) (xs ++ cur.toList) → w.grownBy w' v.ownBlock → (v.ownBlock = some g' ∨ w.heap.size ≤ g') → (j < b → C w') ∧ wpLoud P l.toArray C b R r (A.put o.dst (.slice (some ⟨g', 0, none⟩) (n + 1) cap')) w') :
    wpLoud P l.toArray C b R (j :: r) A w := by
  obtain ⟨g', cap', w', hr, r1, r2, r3⟩ := run_append_new E o.type w B v n xs hown hB g cur hcur hl h1 h63 hbytes
  refine wpLoud_run (v := .slice (some ⟨g', 0, none⟩) (n + 1) cap') (w' := w') ho hg ?_ (hK g' cap' w' r1 r2 r3)
  unfold execOp
  simp only [hop, resolve, invoke, builtin, Sem.run_bind, Sem.run_pure, Result.andThen_ok, List.map_toArray, List.map_cons, List.map_nil, hs, hx, hr]
end

theorem aggObj : AggOK Try.prog 85 47 := .mk' (by kernel_rfl) (by kernel_rfl)
theorem aggRes : AggOK Try.prog 66 2 := .mk' (by kernel_rfl) (by kernel_rfl)
/-- A slice of the call's own that holds these. -/
def OwnU (w : World) (B : Nat) (v : Value) (xs : List UseI) : Prop := w.ownsRow B 51 5 v xs.length (xs.flatMap UseI.cells)
theorem OwnU.nil (w : World) (B : Nat) : OwnU w B (.slice none 0 0) [] := World.ownsRow_nil w B _ _
theorem ownU_next {w' : World} {B : Nat} {g' cap' : Nat} {xs : List UseI} {x : UseI} (h : w'.ownsRow B 51 5 (.slice (some ⟨g', 0, none⟩) (xs.length + 1) cap') (xs.length + 1) (xs.flatMap UseI.cells ++ x.cells)) :
    OwnU w' B (.slice (some ⟨g', 0, none⟩) (xs.length + 1) cap') (xs ++ [x]) := by
  unfold OwnU
  rw [List.length_append, List.flatMap_append]
  simpa using h

def inQ (x : OQ) : Bool := (x.kind == 1) && !(x.phase == 3)
def freshQ (age now : Int) (E : List En) (sub met : ByteArray) : Int × Int := freshOf age now (heldL E (serBytes sub.data.toList met.data.toList))
def useQ (f : ByteArray → Int × Int) (met : ByteArray) (x : OQ) : UseI := ⟨x.name, x.phase == 2, (f x.name).2 == 0, askOf met x.cpu x.mem, (f x.name).1⟩
def usesQ (f : ByteArray → Int × Int) (met : ByteArray) (l : List OQ) : List UseI := (l.filter inQ).map (useQ f met)
theorem usesQ_succ (f : ByteArray → Int × Int) (met : ByteArray) (l : List OQ) (k : Nat) (hk : k < l.length) : usesQ f met (l.take (k + 1)) = usesQ f met (l.take k) ++ (if inQ l[k] = true then [useQ f met l[k]] else []) := by
  unfold usesQ
  rw [List.take_succ_eq_append_getElem hk, List.filter_append, List.map_append]
  congr 1
  cases h : inQ l[k] <;> simp [h]
theorem usesQ_len (f : ByteArray → Int × Int) (met : ByteArray) (l : List OQ) : (usesQ f met l).length ≤ l.length := by
  unfold usesQ
  rw [List.length_map]
  exact List.length_filter_le _ _

set_option maxRecDepth 100000 in
theorem oneUseSl (a : ByteArray) (b c : Bool) (d e : Int) (w : World) : (Instr.buildSlice 36 1 [(0, .agg #[.string a, .bool b, .bool c, .int .i64 d, .int .i64 e])].toArray).run Try.prog w = .ok (.slice (some ⟨w.heap.size, 0, none⟩) 1 1) (w.alloc (.cells #[.string a, .bool b, .bool c, .int .i64 d, .int .i64 e] 51)) := by kernel_rfl

/-- Sorted by name, of two alike the one that was ahead. -/
def SortedU (xs ys : List UseI) : Prop := ∃ d : List TUse, d.Perm xs.zipIdx ∧ d.Pairwise TOUse ∧ ys = d.map (·.1)
theorem zipFlat_Use : ∀ (xs : List UseI) (k : Nat), (xs.zipIdx k).flatMap tUse = xs.flatMap UseI.cells
  | [], _ => rfl
  | x :: xs, k => by rw [List.zipIdx_cons, List.flatMap_cons, List.flatMap_cons, zipFlat_Use xs (k + 1)]; rfl
theorem flatFst_Use (d : List TUse) : d.flatMap tUse = (d.map (·.1)).flatMap UseI.cells := by
  induction d with
  | nil => rfl
  | cons x d ih => rw [List.flatMap_cons, List.map_cons, List.flatMap_cons, ih]; rfl

set_option maxRecDepth 100000 in
set_option maxHeartbeats 4000000 in
theorem useRow_any (B bb bm most : Nat) (age now : Int) (E : List En) (met : ByteArray) (l : List OQ) (ao : Option Addr) (n cap : Nat) (w : World) (hS : SlR (Flat OQ.cells) 47 w ao n cap l) (hn : n ≤ 1000)
    (hB : BookAt w B bb bm most age E) (hmet : met.size ≤ maxLen) (hnow2 : now ≤ 9223372036854775807) (ha1 : 1 ≤ age) (ha2 : age ≤ 1800) :
    Calls Try.prog 8 #[.pointer (some ⟨bb, 0, none⟩), .int .i64 now, .string met, .slice ao n cap] w fun e w' => ∃ ao' m cap' ys, e = .returned (.slice ao' m cap') ∧ SortedU (usesQ (fun s => freshQ age now E s met) met l) ys ∧
      m ≤ n ∧ SlR (Flat UseI.cells) 5 w' ao' m cap' ys ∧ Below w.heap.size w w' := by
  have hcm := hS.hmax
  have hlc := hS.hcap
  unfold maxLen at hcm
  have HF : Hid (∀ (sub : ByteArray) (wx : World), Below w.heap.size w wx → sub.size ≤ maxLen → Calls Try.prog 9 #[.pointer (some ⟨bb, 0, none⟩), .int .i64 now, .agg #[.string sub, .string met]] wx fun e w' =>
      e = .returned (.tuple #[.int .i64 (freshQ age now E sub met).1, .int .i64 (freshQ age now E sub met).2]) ∧ Below wx.heap.size wx w') :=
    fun sub wx hb hs => fresh_book B bb bm most age now E sub met wx (hB.keep hb) hs hmet hnow2 ha1 ha2
  obtain ⟨f, hf⟩ : ∃ f : ByteArray → Int × Int, (fun s => freshQ age now E s met) = f := ⟨_, rfl⟩
  have hf' : ∀ s, freshQ age now E s met = f s := fun s => congrFun hf s
  simp only [hf'] at HF
  rw [hf]
  have HS := Lib.hid hS
  clear hS hf hf' hB
  go_enter Try.func8, Try.ntmps8
  go_wp2_with fail
  go_loopw [9, 16] (fun v9 i wr => ∃ k : Nat, k ≤ n ∧ i = .int .i64 k ∧ Hid (OwnU wr w.heap.size v9 (usesQ f met (l.take k))) ∧ Hid (Below w.heap.size w wr)) (fun _ i _ => n - (intOf i).toNat)
  case atStart => exact ⟨0, Nat.zero_le _, rfl, OwnU.nil _ _, Below.refl _ _⟩
  case round =>
    obtain ⟨k, hk, rfl, ho, hb⟩ := hrel
    obtain ⟨wq, rfl⟩ : ∃ wq : World, wq = wr := ⟨_, rfl⟩
    by_cases hlt : k < n
    · have hS2 := HS.out.flatKeeps (Keeps.below hb.out)
      obtain ⟨b0, off, rfl⟩ := hS2.ptr (by decide) (by omega)
      have kx : k < l.length := by have := hS2.hlen; omega
      have hcl := hS2.flat kx
      have f1 := usesQ_succ f met l k kx
      have g1 := usesQ_len f met (l.take k)
      have hlk : (l.take k).length ≤ 1000 := by simp; omega
      obtain ⟨x, hx⟩ : ∃ x, l[k] = x := ⟨_, rfl⟩
      rw [hx] at hcl f1
      obtain ⟨X, hX⟩ : ∃ X, usesQ f met (l.take k) = X := ⟨_, rfl⟩
      rw [hX] at f1 g1 ho
      have F1 := Lib.hid f1
      have Hcl := Lib.hid hcl
      have hsz := hb.out.size
      have G1 : Hid (X.length ≤ 1000) := Nat.le_trans g1 hlk
      obtain ⟨W, hW⟩ : ∃ W, wq.alloc (.cells x.cells.toArray 85) = W := ⟨_, rfl⟩
      obtain ⟨bo, hbo⟩ : ∃ bo, wq.heap.size = bo := ⟨_, rfl⟩
      have hbn : Below w.heap.size w W := by rw [← hW]; exact hb.out.alloc hsz _
      have hWs : W.heap.size = bo + 1 := by rw [← hW, ← hbo]; simp
      have hnc : ∀ j u, x.cells[j]? = some u → W.cell? ⟨bo, j, none⟩ = some u := fun j u hu => by
        rw [← hW, ← hbo]
        have := (cell_new wq x.cells.toArray 85 j).trans (by simpa using hu : _ = some u)
        rwa [Addr.add_lit, Nat.zero_add] at this
      have ho1 : OwnU W w.heap.size u9 X := by rw [← hW]; exact ho.out.alloc _
      have k0 := hnc 0 _ x.h0
      have k12 := hnc 12 _ x.h12
      have k1 := hnc 1 _ x.h1
      have HNc := Lib.hid hnc
      have HO := Lib.hid ho1
      have HB := Lib.hid hbn
      have HWs := Lib.hid hWs
      clear hcl hS2 hx hX f1 g1 hlk hnc ho1 hbn hWs ho
      have skip : inQ x = false → Hid (OwnU W w.heap.size u9 (usesQ f met (l.take (k + 1)))) := fun h => by
        rw [F1.out, h]
        exact (List.append_nil X).symm ▸ HO.out
      have hti : inQ x = false ∨ inQ x = true := by cases inQ x; exact .inl rfl; exact .inr rfl
      rcases hti with hti | hti
      · have HSk := skip hti
        clear skip
        by_cases hk1 : x.kind = 1
        · have h3 : x.phase = 3 := by
            unfold inQ at hti
            rw [hk1] at hti
            simpa using hti
          rw [hk1] at k0
          rw [h3] at k12
          clear hk1 h3 hti
          go_wp2_with (first
            | ((with_reducible refine at_slot 19 ?_); go_must (refine wpList_load_at aggObj rfl _ rfl ⟨b0, off + k * 47, none⟩ rfl x.cells x.hlen (fun j u hu => by rw [Addr.add_lit]; exact Hcl.out j u hu) ?_))
            | ((with_reducible refine at_slot 11 ?_); go_must (refine wpList_var aggObj rfl rfl rfl _ _ rfl rfl x.cells.toArray rfl rfl (by simp [OQ.hlen]) (by simpa using x.one) ?_; rw [hW, hbo])))
          go_roundw
          case rel => exact ⟨k + 1, by omega, by go_num, HSk.out, HB.out⟩
          case measure => simp [intOf]; omega
        · have hkn : (x.kind != 1) = true := by simpa using hk1
          clear hk1 hti
          go_wp2_with (first
            | ((with_reducible refine at_slot 19 ?_); go_must (refine wpList_load_at aggObj rfl _ rfl ⟨b0, off + k * 47, none⟩ rfl x.cells x.hlen (fun j u hu => by rw [Addr.add_lit]; exact Hcl.out j u hu) ?_))
            | ((with_reducible refine at_slot 11 ?_); go_must (refine wpList_var aggObj rfl rfl rfl _ _ rfl rfl x.cells.toArray rfl rfl (by simp [OQ.hlen]) (by simpa using x.one) ?_; rw [hW, hbo])))
          go_roundw
          case rel => exact ⟨k + 1, by omega, by go_num, HSk.out, HB.out⟩
          case measure => simp [intOf]; omega
      · have HF1 : Hid (usesQ f met (l.take (k + 1)) = X ++ [useQ f met x]) := by
          have := F1.out
          rw [hti] at this
          exact this
        have hk1 : x.kind = 1 := by
          unfold inQ at hti
          simp only [Bool.and_eq_true] at hti
          exact eq_of_beq hti.1
        have h3 : (x.phase == 3) = false := by
          unfold inQ at hti
          simp only [Bool.and_eq_true] at hti
          simpa using hti.2
        rw [hk1] at k0
        clear skip hti hk1 F1
        go_wp2_with (first
          | ((with_reducible refine at_slot 19 ?_); go_must (refine wpList_load_at aggObj rfl _ rfl ⟨b0, off + k * 47, none⟩ rfl x.cells x.hlen (fun j u hu => by rw [Addr.add_lit]; exact Hcl.out j u hu) ?_))
          | ((with_reducible refine at_slot 11 ?_); go_must (refine wpList_var aggObj rfl rfl rfl _ _ rfl rfl x.cells.toArray rfl rfl (by simp [OQ.hlen]) (by simpa using x.one) ?_; rw [hW, hbo])))
        refine (HF.out x.name W HB.out x.hnm).mono ?_
        rintro e w2 ⟨rfl, hb2⟩
        obtain ⟨m, hm⟩ : ∃ m, (f x.name).1 = m := ⟨_, rfl⟩
        obtain ⟨er, her⟩ : ∃ m, (f x.name).2 = m := ⟨_, rfl⟩
        have hy : useQ f met x = ⟨x.name, x.phase == 2, er == 0, askOf met x.cpu x.mem, m⟩ := by unfold useQ; rw [hm, her]
        have HY := Lib.hid hy
        rw [hm, her]
        have HC2 : Hid (∀ j u, x.cells[j]? = some u → w2.cell? ⟨bo, j, none⟩ = some u) := fun j u hu => Below.cell_some hb2 (HNc.out j u hu)
        have q1 := HC2.out 1 _ x.h1
        have q12 := HC2.out 12 _ x.h12
        have hres : ∀ j u, [Value.int .i64 x.cpu, .int .i64 x.mem][j]? = some u → w2.cell? ((⟨bo, 14, none⟩ : Addr).add j) = some u := fun j u hu => by
          rw [Addr.add_lit]
          rcases j with _ | _ | j
          · cases hu; exact HC2.out 14 _ x.h14
          · cases hu; exact HC2.out 15 _ x.h15
          · cases hu
        have HO2 : Hid (OwnU w2 w.heap.size u9 X) := owns_fr (Fr.of_below hb2 (fun _ => False)) HO.out (fun _ _ h => h)
        have HB2 := Lib.hid (HB.out.trans (hb2.mono HB.out.size))
        have hsz2 := HB2.out.size
        clear hb2 hm her hy k0 k12 k1 HO HNc HC2
        replace q1 := BW.cell q1
        replace q12 := BW.cell q12
        replace hres := BW.cells hres
        have mixed : Try.prog.follows .mixedOrders = true := by kernel_rfl
        go_upto_region 7 with fail
        have HYe := Lib.hid h3
        refine region_val (fun w' => ∃ p : BW w2, w' = p.w') [15, 18] 14 30 [13, 15, 16, 17, 18] mixed (by kernel_rfl) (by kernel_rfl) (by kernel_rfl) ⟨⟨{ w2 with drawn := w2.drawn + 1 }, ⟨rfl, rfl, rfl, Nat.le_refl _, fun _ _ => rfl⟩⟩, rfl⟩ ?_
        repeat (first | (refine wpVal_skip rfl ?_) | (refine wpVal_take rfl ?_; first | (refine wpVal_loadK aggRes rfl _ rfl _ rfl _ rfl (by rintro _ ⟨bw, rfl⟩; exact hres bw) (fun K hK => ?_); go_simp; refine hK _ ?_; clear hK K) | (refine wpVal_oneK rfl (fun K hK => ?_); refine ⟨_, fun w => by go_simp; rfl, ?_⟩; go_simp; refine hK _ ?_; clear hK K) | (refine wpVal_memK rfl rfl (fun K hK => ?_); refine ⟨_, by rintro _ ⟨bw, rfl⟩; go_simp; rfl, ?_⟩; go_simp; refine hK _ ?_; clear hK K)))
        refine wpVal_end ?_
        clear q1 q12 hres
        have HA := Lib.hid (fun wx => ask_any met x.cpu x.mem wx)
        obtain ⟨yA, hyA⟩ : ∃ a, askOf met x.cpu x.mem = a := ⟨_, rfl⟩
        rw [hyA] at HA
        have HYy : Hid (useQ f met x = ⟨x.name, x.phase == 2, er == 0, yA, m⟩) := by rw [← hyA]; exact HY.out
        refine wpLoud_call rfl rfl 26 [.tmp 50, .tmp 51] _ rfl Try.func26 (by kernel_rfl) rfl [.agg #[.int .i64 x.cpu, .int .i64 x.mem], .string met] (by as_aux_lemma => kernel_rfl) ((HA.out _).mono ?_)
        rintro e w3 ⟨rfl, hb3⟩
        have hb3' : Below w2.heap.size w2 w3 := (⟨rfl, rfl, rfl, Nat.le_refl _, fun _ _ => rfl⟩ : Below w2.heap.size w2 { w2 with drawn := w2.drawn + 1 }).trans hb3
        have HB3 : Hid (Below w.heap.size w w3) := HB2.out.trans (hb3'.mono hsz2)
        have HO3 : Hid (OwnU w3 w.heap.size u9 X) := owns_fr (Fr.of_below hb3' (fun _ => False)) HO2.out (fun _ _ h => h)
        have hsz3 := HB3.out.size
        refine ⟨_, rfl, fun _ => ⟨⟨w3, hb3'⟩, rfl⟩, ?_⟩
        clear hb3 hb3' HA HY hyA HO2
        refine wpLoud_same (.agg #[.string x.name, .bool (x.phase == 2), .bool (er == 0), .int .i64 yA, .int .i64 m]) rfl rfl (by as_aux_lemma => kernel_rfl) ⟨fun h => absurd h (by decide), ?_⟩
        refine wpLoud_build rfl rfl 36 1 [(0, .tmp 54)] rfl [(0, .agg #[.string x.name, .bool (x.phase == 2), .bool (er == 0), .int .i64 yA, .int .i64 m])] (by as_aux_lemma => kernel_rfl) #[.string x.name, .bool (x.phase == 2), .bool (er == 0), .int .i64 yA, .int .i64 m] 51 (oneUseSl _ _ _ _ _) ⟨fun h => absurd h (by decide), ?_⟩
        refine wpLoud_append_own elemUse rfl rfl (.tmp 39) (.tmp 55) rfl w.heap.size u9 X.length (X.flatMap UseI.cells) (by as_aux_lemma => kernel_rfl) (HO3.out.alloc _) (by simp; omega) w3.heap.size #[.string x.name, .bool (x.phase == 2), .bool (er == 0), .int .i64 yA, .int .i64 m] (by as_aux_lemma => kernel_rfl) (heap_alloc_new _ _) rfl rfl (by have := G1.out; unfold maxLen; omega) (by have := G1.out; omega) ?_
        intro g' cap' w' ho' hg' hn'
        refine ⟨fun h => absurd h (by decide), ?_⟩
        refine wpLoud_same (.slice (some ⟨g', 0, none⟩) (X.length + 1) cap') rfl rfl (by as_aux_lemma => kernel_rfl) ⟨fun h => absurd h (by decide), ?_⟩
        refine wpLoud_nil ?_
        have HO' : Hid (OwnU w' w.heap.size (.slice (some ⟨g', 0, none⟩) (X.length + 1) cap') (usesQ f met (l.take (k + 1)))) := by
          rw [HF1.out, HYy.out]
          exact ownU_next ho'
        have NB : Hid (Below w.heap.size w w') := (HB3.out.alloc hsz3 _).grown hg' (by simp; omega) (fun k hk => (World.ownsRow.lt HO3.out k hk).1)
        clear ho' hg' hn' HO3 HB3 HB2 HF1 HYy
        go_simp
        go_wp2_with fail
        go_roundw
        case rel => exact ⟨k + 1, by omega, by go_num, HO'.out, NB.out⟩
        case measure => simp [intOf]; omega
    · obtain rfl : k = n := by omega
      have ht : l.take k = l := List.take_of_length_le (by have := HS.out.hlen; omega)
      have hXl := usesQ_len f met l
      rw [HS.out.hlen] at hXl
      rw [ht] at ho
      obtain ⟨X, hX⟩ : ∃ X, usesQ f met l = X := ⟨_, rfl⟩
      rw [hX] at ho hXl
      have HX := Lib.hid hX
      have HO := ho
      have Hb := hb
      have HXl := Lib.hid hXl
      clear ht ho hX hXl
      rcases HO.out.2 with ⟨rfl, hn0⟩ | ⟨g, cap1, cur, rfl, h1⟩
      · have hx : X = [] := List.eq_nil_of_length_eq_zero hn0
        subst hx
        have HI := Lib.hid (sortStable_nil_Use wq)
        clear HO hn0
        go_wp2_with fail
        refine HI.out.mono ?_
        rintro e w2 ⟨rfl, rfl⟩
        go_wp2_with fail
        go_ret
        rw [HX.out]
        exact ⟨none, 0, 0, [], rfl, ⟨[], List.Perm.nil, List.Pairwise.nil, rfl⟩, Nat.zero_le _, ⟨rfl, Nat.le_refl _, Nat.zero_le _, (fun _ => rfl), (fun a ha => by cases ha)⟩, Hb.out⟩
      · obtain ⟨hB, hnc, hcm1, rest, hrow, hrl⟩ := owns_row HO.out
        obtain ⟨m, hm⟩ : ∃ m, X.length = m := ⟨_, rfl⟩
        rw [hm] at hnc
        rw [hm] at HXl
        rw [← zipFlat_Use X 0] at hrow
        have hR : SRowK tUse 51 wq wq g rest (X.zipIdx 0) := ⟨hrow, Fr.refl _ _⟩
        have hzl : (X.zipIdx 0).length = m := by simp [hm]
        rw [hm]
        have HI := Lib.hid (sortStable_Use _ rest g m cap1 wq hR hzl (by have := HXl.out; omega) (zipRise_Use X 0))
        have HR := Lib.hid hR
        have HBg := Lib.hid hB
        have HRl := Lib.hid hrl
        have HM := Lib.hid hm
        have HNC := Lib.hid hnc
        have HCM := Lib.hid hcm1
        clear h1 hrow hR hB hrl hm hnc hcm1 hzl HO
        go_wp2_with fail
        refine HI.out.mono ?_
        rintro e w2 ⟨rfl, d, h2, h3, h4⟩
        have HP := Lib.hid h3
        have HT := Lib.hid h4
        have hdl : d.length = m := by rw [h3.length_eq]; simp [HM.out]
        have hfin : SlR (Flat UseI.cells) 5 w2 (some ⟨g, 0, none⟩) m cap1 (d.map (·.1)) := by
          have hro := h2.row
          rw [flatFst_Use] at hro
          have hzz : (X.zipIdx 0).flatMap tUse = X.flatMap UseI.cells := zipFlat_Use X 0
          have hll : ((d.map (·.1)).flatMap UseI.cells).length = m * 5 := by rw [flatMap_len (f := UseI.cells) (sz := 5) (fun _ => rfl), List.length_map, hdl]
          have hll2 : (X.flatMap UseI.cells).length = m * 5 := by rw [flatMap_len (f := UseI.cells) (sz := 5) (fun _ => rfl), HM.out]
          have ho := owns_of_row (B := w.heap.size) (size := 5) HBg.out HNC.out HCM.out hro hll (by
            have := HRl.out
            rw [List.length_append] at this ⊢
            omega)
          obtain ⟨ao', cap', he, hS', _⟩ := SlR.of_owns ho (by rw [List.length_map, hdl]) (fun _ => rfl)
          simp only [Value.slice.injEq] at he
          obtain ⟨rfl, _, rfl⟩ := he
          exact hS'
        have HFi := Lib.hid hfin
        have HBe : Hid (Below w.heap.size w w2) := Hb.out.trans (h2.fr.below Hb.out.size (fun k hk => by rw [hk]; exact HBg.out))
        clear h2 h3 h4 hdl hfin
        go_wp2_with fail
        go_ret
        rw [HX.out]
        exact ⟨some ⟨g, 0, none⟩, m, cap1, _, rfl, ⟨d, HP.out, HT.out, rfl⟩, HXl.out, HFi.out, HBe.out⟩
end Go.Proofs.Ytojealgjfbjnoaa
