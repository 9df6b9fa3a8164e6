/- ScrapePlays: whatever is scraped and forgotten, each answer, and what is fresh, is what the document says; a copy goes on by itself. Conditions: none. -/
import Derived.Test.YtoamjihchmokcaaScrapeLivesM
namespace Go.Proofs.Ytoamjihchmokcaa
open Go.ChangeShapes Go.WideShapes Go.ChangeAt Go.RowKit Go.Deep Go.Maps

structure ActV where
  kd : Int
  at0 : Int
  s : ByteArray
  m : ByteArray
  bits : Nat
def ActV.cells (x : ActV) : List Value := [.int .i64 x.kd, .int .i64 x.at0, .string x.s, .string x.m, .int .u64 x.bits]
theorem aggAct : AggOK Try.prog 36 5 := .mk' (by kernel_rfl) (by kernel_rfl)
theorem aggSerP : AggOK Try.prog 33 2 := .mk' (by kernel_rfl) (by kernel_rfl)

theorem wpList_store_newS {P : Program} {ops : Array Oper} {rest : List Oper} {o : Oper} {a : Act} {Q : Exit → Act → World → Prop} {T : TypeId} {size : Nat} (A : AggOK P T size) (hgd : o.guard = none) (p x : Operand) (ho : o.op = .store T p x) (hd : o.dst = none)
    (w : World) (z cs : Array Value) (hz : z.size = size) (hp : a.eval p = .pointer (some ⟨w.heap.size, 0, none⟩)) (hx : a.eval x = .agg cs) (hs : cs.size = size) (h1 : cs.toList.all (fun u => u.oneCell') = true)
    (h : wpList P ops Q rest a (w.alloc (.cells cs T))) : wpList P ops Q (o :: rest) a (w.alloc (.cells z T)) := by
  have hst := run_store_new A w z cs hz hs h1
  refine wpList_plain hgd fun _ hK => ?_
  unfold Oper.wp execOp
  simp only [ho, hx, hp, Instr.storeAt, Instr.sureAddr, Sem.run_bind, Sem.run_pure, Result.andThen_ok, hst]
  rw [Oper.upon_skip, hd]
  exact hK _ _ h

theorem wpList_load_at_gS {P : Program} {ops : Array Oper} {rest : List Oper} {o : Oper} {a : Act} {w : World} {Q : Exit → Act → World → Prop} {T : TypeId} {size : Nat} (A : AggOK P T size) (hgd : Region.wanted o (yielded ops a.tmps) = true) (x : Operand) (ho : o.op = .load T x)
    (p : Addr) (hx : a.eval x = .pointer (some p)) (cs : List Value) (hs : cs.length = size) (hc : ∀ j u, cs[j]? = some u → w.cell? (p.add j) = some u)
    (h : wpList P ops Q rest (a.put o.dst (.agg cs.toArray)) w) : wpList P ops Q (o :: rest) a w := by
  refine wpList_step fun _ hK => ?_
  rw [if_pos hgd]
  unfold Oper.wp execOp
  simp only [ho, hx, Instr.loadAt, Instr.sureAddr, Sem.run_bind, Sem.run_pure, Result.andThen_ok, run_loadVar_at A w p cs hs hc]
  exact hK _ _ h

attribute [local irreducible] wpQuiet
set_option maxRecDepth 100000 in
set_option maxHeartbeats 8000000 in
theorem splays_core (mo age : Int) (l : List ActV) (ks : List Int) (ao bo : Option Addr) (n cap nk kc : Nat) (w : World) (hS : SlR (Flat ActV.cells) 5 w ao n cap l) (hA : ∀ x ∈ l, x.s.size ≤ maxLen ∧ x.m.size ≤ maxLen ∧ x.bits < 18446744073709551616)
    (hK : SlR (Flat fun x : Int => [.int .i64 x]) 1 w bo nk kc ks) (hk2 : ∀ x ∈ ks, x ≤ 9223372036854775807) :
    Calls Try.prog 3 #[.agg #[.int .i64 mo, .int .i64 age], .slice ao n cap, .slice bo nk kc] w fun e w' => e = .returned (.bool true) ∧ Below w.heap.size w w' := by
  have hcm := hS.hmax
  have hlc := hS.hcap
  have hkm := hK.hmax
  have hkc := hK.hcap
  unfold maxLen at hcm hkm
  have HS := Lib.hid hS
  have HK := Lib.hid hK
  have HA := Lib.hid hA
  have HK2 := Lib.hid hk2
  have HLv := Lib.hid (fun w => lives11 w)
  clear hS hK hA hk2
  have r0 : (w.alloc (.cells #[.int .i64 mo, .int .i64 age] 23)).cell? ⟨w.heap.size, 0, none⟩ = some (.int .i64 mo) := cell_new w _ _ 0
  have r1 : (w.alloc (.cells #[.int .i64 mo, .int .i64 age] 23)).cell? ⟨w.heap.size, 1, none⟩ = some (.int .i64 age) := cell_new w _ _ 1
  obtain ⟨W, hW⟩ : ∃ W, w.alloc (.cells #[.int .i64 mo, .int .i64 age] 23) = W := ⟨_, rfl⟩
  have HB : Hid (Below w.heap.size w W) := by rw [← hW]; exact (Below.refl _ _).alloc (Nat.le_refl _) _
  have hzW : W.heap.size = w.heap.size + 1 := by rw [← hW, World.size_alloc]
  rw [hW] at r0 r1
  have HR0 := Lib.hid r0
  have HR1 := Lib.hid r1
  obtain ⟨N, hN⟩ : ∃ N, w.heap.size = N := ⟨_, rfl⟩
  rw [hN] at HB HR0 HR1 hzW ⊢
  have HN := Lib.hid hN
  clear r0 r1
  go_enter Try.func3, Try.ntmps3
  go_wp2_with fail
  clear hW hN
  refine (HLv.out W).mono ?_
  rintro e w1 ⟨rfl, hb1⟩
  have HW1 : Hid (Below W.heap.size W w1) := hb1
  have HB1 : Hid (Below N w w1) := HB.out.trans (hb1.mono (by omega))
  have hz1 : N + 1 ≤ w1.heap.size := by have := hb1.size; omega
  clear hb1
  by_cases hbig : n > 80 ∨ nk > 20
  · skip
    have hq : ∃ a b : Bool, decide ((n : Int) > 80) = a ∧ decide ((nk : Int) > 20) = b ∧ (a || b) = true := ⟨_, _, rfl, rfl, by simp; omega⟩
    obtain ⟨qa, qb, h1, h2, h3⟩ := hq
    have fin : ∀ w2 : World, Below w1.heap.size w1 w2 → Below N w w2 := fun w2 h => HB1.out.trans (h.mono (by omega))
    have Fin := Lib.hid fin
    clear hbig fin
    cases qa
    · cases qb
      · cases h3
      · clear h3
        go_wp2_with fail
        refine (HLv.out w1).mono ?_
        rintro e w2 ⟨rfl, hb2⟩
        have HB2 := Lib.hid (Fin.out w2 hb2)
        clear hb2
        go_wp2_with fail
        go_ret
        exact ⟨rfl, HB2.out⟩
    · clear h3
      go_wp2_with fail
      refine (HLv.out w1).mono ?_
      rintro e w2 ⟨rfl, hb2⟩
      have HB2 := Lib.hid (Fin.out w2 hb2)
      clear hb2
      go_wp2_with fail
      go_ret
      exact ⟨rfl, HB2.out⟩
  have hn80 : n ≤ 80 := by omega
  have hk20 : nk ≤ 20 := by omega
  have hd1 : decide ((n : Int) > 80) = false := decide_eq_false (by omega)
  have hd2 : decide ((nk : Int) > 20) = false := decide_eq_false (by omega)
  clear hbig
  have s0 := Below.cell_some HW1.out HR0.out
  have s1 := Below.cell_some HW1.out HR1.out
  by_cases hbad : mo < 1 ∨ 32 < mo ∨ age < 1 ∨ 1800 < age
  · skip
    have HBad := Lib.hid (newBad_any mo age w1 hbad)
    obtain ⟨q1, h1⟩ : ∃ q, decide (mo < 1) = q := ⟨_, rfl⟩
    obtain ⟨q2, h2⟩ : ∃ q, decide (mo > 32) = q := ⟨_, rfl⟩
    obtain ⟨q3, h3⟩ : ∃ q, decide (age < 1) = q := ⟨_, rfl⟩
    obtain ⟨q4, h4⟩ : ∃ q, decide (age > 1800) = q := ⟨_, rfl⟩
    have hor : (q1 || q2 || q3 || q4) = true := by rw [← h1, ← h2, ← h3, ← h4]; simp; omega
    have Hor := Lib.hid hor
    clear hor hbad
    go_wp2_with fail
    refine HBad.out.mono ?_
    rintro e w2 ⟨rfl, hb2⟩
    have HB2 : Hid (Below N w w2) := HB1.out.trans (hb2.mono (by omega))
    have t0 := Below.cell_some hb2 s0
    have t1 := Below.cell_some hb2 s1
    clear hb2 s0 s1
    cases q1
    · cases q2
      · cases q3
        · cases q4
          · exact absurd Hor.out (by decide)
          · go_wp2_with fail
            go_ret
            exact ⟨rfl, HB2.out⟩
        · go_wp2_with fail
          go_ret
          exact ⟨rfl, HB2.out⟩
      · go_wp2_with fail
        go_ret
        exact ⟨rfl, HB2.out⟩
    · go_wp2_with fail
      go_ret
      exact ⟨rfl, HB2.out⟩
  obtain ⟨most, rfl⟩ : ∃ most : Nat, mo = most := ⟨mo.toNat, by omega⟩
  have hm1 : 1 ≤ most := by omega
  have hm2 : most ≤ 32 := by omega
  have ha1 : 1 ≤ age := by omega
  have ha2 : age ≤ 1800 := by omega
  have hd3 : decide ((most : Int) < 1) = false := decide_eq_false (by omega)
  have hd4 : decide ((most : Int) > 32) = false := decide_eq_false (by omega)
  have hd5 : decide (age < 1) = false := decide_eq_false (by omega)
  have hd6 : decide (age > 1800) = false := decide_eq_false (by omega)
  have HNew := Lib.hid (newBook_any most age w1 hm1 hm2 ha1 ha2)
  clear hbad
  go_wp2_with fail
  refine HNew.out.mono ?_
  rintro e w2 ⟨bb, bm, rfl, hB2, hb2⟩
  have HW2 : Hid (Below W.heap.size W w2) := HW1.out.trans (hb2.mono (by have := HW1.out.size; omega))
  have t0 := Below.cell_some hb2 s0
  have t1 := Below.cell_some hb2 s1
  obtain ⟨B, hBe⟩ : ∃ B, w1.heap.size = B := ⟨_, rfl⟩
  rw [hBe] at hB2 hz1
  obtain ⟨pb, hpb⟩ : ∃ pb, w2.heap.size = pb := ⟨_, rfl⟩
  obtain ⟨w3, hw3⟩ : ∃ q, w2.alloc (.cells #[.slice none 0 0] 31) = q := ⟨_, rfl⟩
  have hb3 : Below w2.heap.size w2 w3 := by rw [← hw3]; exact (Below.refl _ _).alloc (Nat.le_refl _) _
  have hPl : PlayAt w3 B bb bm pb most age (.slice none 0 0) [] 0 := by
    refine ⟨hB2.keep hb3, ⟨by rw [← hw3, ← hpb]; exact heap_alloc_new _ _, World.ownsRow_nil _ _ _ _, fun x hx => (by cases hx), .nil, ?_⟩, fun x hx => (by cases hx), fun x hx => (by cases hx), Nat.le_refl _⟩
    rw [← hpb, ← hBe]; exact hb2.size
  have HP := Lib.hid hPl
  have HW3 : Hid (Below W.heap.size W w3) := HW2.out.trans (hb3.mono (by have := HW2.out.size; omega))
  have hz3 : N + 1 ≤ w3.heap.size := by have := HW3.out.size; omega
  have HBN : Hid (N + 1 ≤ B) := by show _ ≤ _; omega
  clear hB2 hb2 hb3 hPl s0 s1 HW2
  go_wp2_with fail
  clear t0 t1 hw3 hpb hBe
  go_loopw [70] (fun i wr => ∃ (k : Nat) (mv : Value) (M : List Mo), k ≤ n ∧ i = .int .i64 k ∧ Hid (PlayAt wr B bb bm pb most age mv M k) ∧ Hid (Below W.heap.size W wr)) (fun i _ => n - (intOf i).toNat)
  case atStart => exact ⟨0, _, [], Nat.zero_le _, rfl, HP, HW3⟩
  case round =>
    obtain ⟨k, mv, M, hk, rfl, hP, hb⟩ := hrel
    obtain ⟨wq, rfl⟩ : ∃ wq : World, wq = wr := ⟨_, rfl⟩
    have HBq : Hid (Below N w wq) := HB.out.trans (hb.out.mono (by omega))
    have hzq : N + 1 ≤ wq.heap.size := by have := hb.out.size; omega
    by_cases hlt : k < n
    · skip
      have hS2 := HS.out.flatKeeps (Keeps.below (by rw [HN.out]; exact HBq.out))
      obtain ⟨b0, off, rfl⟩ := hS2.ptr (by decide) (by omega)
      have kx : k < l.length := by have := hS2.hlen; omega
      have hcl := hS2.flat kx
      have hya := HA.out _ (List.getElem_mem kx)
      obtain ⟨y, hy⟩ : ∃ y, l[k] = y := ⟨_, rfl⟩
      rw [hy] at hcl hya
      obtain ⟨kd, at0, s, m, bits⟩ := y
      dsimp only at hya
      obtain ⟨Wy, hWy⟩ : ∃ W, wq.alloc (.cells #[.int .i64 kd, .int .i64 at0, .string s, .string m, .int .u64 bits] 36) = W := ⟨_, rfl⟩
      obtain ⟨bo', hbo⟩ : ∃ bo, wq.heap.size = bo := ⟨_, rfl⟩
      have hbW : Below wq.heap.size wq Wy := by rw [← hWy]; exact (Below.refl _ _).alloc (Nat.le_refl _) _
      have hrow : Wy.heap[bo']? = some (.cells #[.int .i64 kd, .int .i64 at0, .string s, .string m, .int .u64 bits] 36 (0, 0)) := by rw [← hWy, ← hbo]; exact heap_alloc_new _ _
      have a0 : Wy.cell? ⟨bo', 0, none⟩ = some (.int .i64 kd) := cell_of_row _ _ 0 _ _ _ hrow
      have a1 : Wy.cell? ⟨bo', 1, none⟩ = some (.int .i64 at0) := cell_of_row _ _ 1 _ _ _ hrow
      have a2 : Wy.cell? ⟨bo', 2, none⟩ = some (.string s) := cell_of_row _ _ 2 _ _ _ hrow
      have a3 : Wy.cell? ⟨bo', 3, none⟩ = some (.string m) := cell_of_row _ _ 3 _ _ _ hrow
      have a4 : Wy.cell? ⟨bo', 4, none⟩ = some (.int .u64 bits) := cell_of_row _ _ 4 _ _ _ hrow
      have Hrow := Lib.hid hrow
      have HPy := Lib.hid (hP.out.below hbW)
      have HWy : Hid (Below W.heap.size W Wy) := hb.out.trans (hbW.mono (by have := hb.out.size; omega))
      have HBy : Hid (Below N w Wy) := HB.out.trans (HWy.out.mono (by omega))
      have Hcl := Lib.hid hcl
      have Hbo := Lib.hid hbo
      have Hya := Lib.hid hya
      have hboz : bo' < Wy.heap.size := by rw [← hbo, ← hWy, World.size_alloc]; omega
      clear hcl hS2 hy hbW hrow hya kx hbo
      have HWk : Hid (True) := trivial
      by_cases hs60 : s.size ≤ 60
      · by_cases hm60 : m.size ≤ 60
        · skip
          have e1 : decide ((s.size : Int) > 60) = false := decide_eq_false (by omega)
          have e2 : decide ((m.size : Int) > 60) = false := decide_eq_false (by omega)
          by_cases hk0 : kd = 0
          · skip
            subst hk0
            have HC1 := Lib.hid (HPy.out.scrape at0 s m bits Hya.out.2.2 hs60 hm60 (by omega))
            have Hser : Hid (∀ j u, [Value.string s, Value.string m][j]? = some u → Wy.cell? ⟨bo', 2 + j, none⟩ = some u) := fun j u hu => by
              match j, hu with
              | 0, hu => cases hu; exact a2
              | 1, hu => cases hu; exact a3
            go_wp2_with (first
              | ((with_reducible refine at_slot 73 ?_); go_must (refine wpList_load_at aggAct rfl _ rfl ⟨b0, off + k * 5, none⟩ rfl [.int .i64 0, .int .i64 at0, .string s, .string m, .int .u64 bits] rfl (fun j u hu => by rw [Addr.add_lit]; exact Hcl.out j u hu) ?_))
              | ((with_reducible refine at_slot 11 ?_); go_must (refine wpList_var aggAct rfl rfl rfl _ _ rfl rfl #[.int .i64 0, .int .i64 at0, .string s, .string m, .int .u64 bits] rfl rfl rfl (by simp [Value.oneCell']) ?_; rw [hWy]; rw [Hbo.out]))
              | ((with_reducible refine at_slot 106 ?_); go_must (refine wpList_load_at aggSerP rfl _ rfl ⟨bo', 2, none⟩ rfl [.string s, .string m] rfl (fun j u hu => by rw [Addr.add_lit]; exact Hser.out j u hu) ?_)))
            refine HC1.out.mono ?_
            rintro e w5 ⟨R, rfl, hmid, hC2, hStep⟩
            have HC2 := Lib.hid (hC2 0)
            have HStep := Lib.hid hStep
            have hbq : ∀ q, SB bb bm (M.map Mo.en) q → q ≠ N ∧ q ≠ bo' := fun q hq => by
              have := hP.out.sbLt hq
              have := HBN.out
              have := Hbo.out
              omega
            have hmq : ∀ q, SM pb mv M q → q ≠ N ∧ q ≠ bo' := fun q hq => by
              have := hP.out.mod.smLt hq
              have := HBN.out
              have := Hbo.out
              omega
            have Hmq := Lib.hid hmq
            have hrow5 := hmid.fr.heap Hrow.out (fun h => (hbq _ h).2 rfl)
            have Hrow5 := Lib.hid hrow5
            have n0 : w5.cell? ⟨N, 0, none⟩ = some (.int .i64 most) := hmid.fr.cell (Below.cell_some HWy.out HR0.out) (fun h => (hbq _ h).1 rfl)
            have HWy5 : Hid (Below W.heap.size W w5) := HWy.out.trans (step_below0 HPy.out hmid.fr (by have := HBN.out; omega))
            have Hmid := Lib.hid hmid
            obtain ⟨⟨⟨x, f⟩, E5⟩, hR⟩ : ∃ q, R = q := ⟨_, rfl⟩
            rw [hR] at HC2 HStep Hmid ⊢
            dsimp only
            clear hR hmid hC2 hStep hbq hmq hrow5 a0 a1 a2 a3 a4
            go_wp2_with (first
              | ((with_reducible refine at_slot 115 ?_); go_must (refine wpList_load_at aggAct rfl _ rfl ⟨bo', 0, none⟩ rfl [.int .i64 0, .int .i64 at0, .string s, .string m, .int .u64 bits] rfl (fun j u hu => by rw [Addr.add_lit, cell_of_row _ _ _ _ _ _ Hrow5.out, Nat.zero_add]; simpa using hu) ?_)))
            refine HC2.out.mono ?_
            rintro e w6 hp
            obtain ⟨mv', M', hP6⟩ := HStep.out _ _ hp
            have HP6 := Lib.hid hP6
            have HWy6 : Hid (Below W.heap.size W w6) := by
              obtain ⟨_, _, _, _, _, hf6, _⟩ := hp
              exact HWy.out.trans (step_below HPy.out Hmid.out.fr hf6 (by have := HBN.out; omega))
            obtain ⟨rfl, hp⟩ := hp
            clear hp hP6 n0
            dsimp only
            have hx1 : (!decide (x = x)) = false := by simp
            have hf1 : (!decide (f = f)) = false := by simp
            go_wp2_with fail
            exact ⟨⟨k + 1, mv', M', by omega, by go_num, HP6, HWy6⟩, by simp [intOf]; omega⟩
          · by_cases hk1 : kd = 1
            · skip
              subst hk1
              clear hk0
              obtain ⟨mo, mcap, rfl, hSM⟩ := HPy.out.mod.reads
              have HSM := Lib.hid hSM
              have cm : Wy.cell? ⟨pb, 0, none⟩ = some (.slice mo M.length mcap) := cell_of_row Wy pb 0 _ _ _ HPy.out.mod.cell
              have Hcm := Lib.hid cm
              have Ha2 := Lib.hid a2
              have hml : M.length ≤ 80 := by have := HPy.out.len; omega
              have hmc := hSM.hmax
              have hmlc := hSM.hcap
              unfold maxLen at hmc
              obtain ⟨ml, hmlE⟩ : ∃ q, M.length = q := ⟨_, rfl⟩
              rw [hmlE] at cm Hcm hml hmlc HSM
              have HmlE := Lib.hid hmlE
              have hpW : pb < Wy.heap.size := HPy.out.mod.pbLt
              clear hSM hmlE
              go_wp2_with (first
                | ((with_reducible refine at_slot 73 ?_); go_must (refine wpList_load_at aggAct rfl _ rfl ⟨b0, off + k * 5, none⟩ rfl [.int .i64 1, .int .i64 at0, .string s, .string m, .int .u64 bits] rfl (fun j u hu => by rw [Addr.add_lit]; exact Hcl.out j u hu) ?_))
                | ((with_reducible refine at_slot 11 ?_); go_must (refine wpList_var aggAct rfl rfl rfl _ _ rfl rfl #[.int .i64 1, .int .i64 at0, .string s, .string m, .int .u64 bits] rfl rfl rfl (by simp [Value.oneCell']) ?_; rw [hWy]; rw [Hbo.out])))
              clear cm a0 a1 a2 a3 a4
              go_loopw [16, 17, 131] (fun v16 v17 i wr => ∃ (j d : Nat), j ≤ ml ∧ i = .int .i64 j ∧ v16 = .int .i64 d ∧ d ≤ j ∧ Hid (d + (leftM M s j).length = j) ∧ Hid (wr.ownsRow Wy.heap.size 44 3 v17 (leftM M s j).length ((leftM M s j).flatMap Mo.cells)) ∧ Hid (Below Wy.heap.size Wy wr)) (fun _ _ i _ => ml - (intOf i).toNat)
              case atStart => exact ⟨0, 0, Nat.zero_le _, rfl, rfl, Nat.le_refl _, rfl, World.ownsRow_nil _ _ _ _, Below.refl _ _⟩
              case round =>
                obtain ⟨j, d, hj, rfl, rfl, hdj, hdl, ho, hbj⟩ := hrel
                obtain ⟨wj, rfl⟩ : ∃ wj : World, wj = wr := ⟨_, rfl⟩
                by_cases hjl : j < ml
                · skip
                  have hS3 := HSM.out.flatKeeps (Keeps.below hbj.out)
                  obtain ⟨g0, of0, rfl⟩ := hS3.ptr (by decide) (by omega)
                  have jx : j < M.length := by have := HmlE.out; omega
                  have c0 := hS3.flat jx 0 _ rfl
                  have c1 := hS3.flat jx 1 _ rfl
                  have c2 := hS3.flat jx 2 _ rfl
                  have hsn := leftM_snoc (s := s) jx
                  obtain ⟨lo, lc, hv, hvw⟩ := (HPy.out.mod.views _ (List.getElem_mem jx)).reads (fun _ => rfl) rfl
                  obtain ⟨y, hy⟩ : ∃ y, M[j] = y := ⟨_, rfl⟩
                  rw [hy] at c0 c1 c2 hsn hv
                  obtain ⟨⟨ys, ym, yrb, ylb, yL⟩, yv⟩ := y
                  dsimp only at c0 c1 c2 hsn hv
                  subst hv
                  obtain ⟨ln, hln⟩ : ∃ q, yL.length = q := ⟨_, rfl⟩
                  rw [hln] at c2 hsn
                  obtain ⟨Q, hQ⟩ : ∃ Q, leftM M s j = Q := ⟨_, rfl⟩
                  rw [hQ] at ho hdl hsn
                  have hql : Q.length ≤ j := by have := hdl.out; omega
                  have Hcl3 : Hid (∀ (i : Nat) u, [Value.string ys, Value.string ym, Value.slice lo ln lc][i]? = some u → wj.cell? ⟨g0, of0 + j * 3 + i, none⟩ = some u) := fun i u hu => by
                    match i, hu with
                    | 0, hu => cases hu; exact c0
                    | 1, hu => cases hu; exact c1
                    | 2, hu => cases hu; exact c2
                  obtain ⟨Wz, hWz⟩ : ∃ q, wj.alloc (.cells #[.string ys, .string ym, .slice lo ln lc] 44) = q := ⟨_, rfl⟩
                  obtain ⟨bz, hbz⟩ : ∃ q, wj.heap.size = q := ⟨_, rfl⟩
                  have hrz : Wz.heap[bz]? = some (.cells #[.string ys, .string ym, .slice lo ln lc] 44 (0, 0)) := by rw [← hWz, ← hbz]; exact heap_alloc_new _ _
                  have z0 : Wz.cell? ⟨bz, 0, none⟩ = some (.string ys) := cell_of_row _ _ 0 _ _ _ hrz
                  have hbW : Below wj.heap.size wj Wz := by rw [← hWz]; exact (Below.refl _ _).alloc (Nat.le_refl _) _
                  have hszj := hbj.out.size
                  have hbz2 := hbj.out.trans (hbW.mono hszj)
                  have z2 := Below.cell_some hbz2 Ha2.out
                  have HbW := Lib.hid hbz2
                  have HoW : Hid (Wz.ownsRow Wy.heap.size 44 3 u17 Q.length (Q.flatMap Mo.cells)) := owns_fr (Fr.of_below hbW (fun _ => False)) ho.out (fun _ _ h => h)
                  have hsW := HbW.out.size
                  have Hrz := Lib.hid hrz
                  have Hsn := Lib.hid hsn
                  have HQ := Lib.hid hQ
                  have Hbz := Lib.hid hbz
                  have hzz : bz < Wz.heap.size := by rw [← hbz, ← hWz, World.size_alloc]; omega
                  obtain ⟨q, hq⟩ : ∃ q, (ys.toList == s.toList) = q := ⟨_, rfl⟩
                  rw [hq] at Hsn
                  clear c0 c1 c2 hsn hy hln hQ hrz hbW hbz2 ho hS3 hvw jx hbz
                  cases q
                  · skip
                    have Hsn2 : Hid (leftM M s (j + 1) = Q ++ [⟨⟨ys, ym, yrb, ylb, yL⟩, .slice lo ln lc⟩]) := Hsn.out
                    go_wp2_with (first
                      | ((with_reducible refine at_slot 134 ?_); go_must (refine wpList_load_at aggMo rfl _ rfl ⟨g0, of0 + j * 3, none⟩ rfl [.string ys, .string ym, .slice lo ln lc] rfl (fun i u hu => by rw [Addr.add_lit]; exact Hcl3.out i u hu) ?_))
                      | ((with_reducible refine at_slot 19 ?_); go_must (refine wpList_var aggMo rfl rfl rfl _ _ rfl rfl #[.string ys, .string ym, .slice lo ln lc] rfl rfl rfl (by simp [Value.oneCell']) ?_; rw [hWz]; rw [Hbz.out]))
                      | ((with_reducible refine at_slot 145 ?_); go_must (refine wpList_load_at aggMo rfl _ rfl ⟨bz, 0, none⟩ rfl [.string ys, .string ym, .slice lo ln lc] rfl (fun i u hu => by rw [Addr.add_lit, cell_of_row _ _ _ _ _ _ Hrz.out, Nat.zero_add]; simpa using hu) ?_))
                      | ((with_reducible refine at_slot 146 ?_); go_must (refine wpList_buildSlice rfl 31 1 [(0, _)] rfl [(0, .agg #[.string ys, .string ym, .slice lo ln lc])] rfl _ _ (oneMo ys ym lo ln lc) ?_; refine wpList_append_new elemMoR rfl _ _ rfl Wy.heap.size u17 Q.length (Q.flatMap Mo.cells) rfl (HoW.out.alloc _) (by simp; omega) _ _ rfl (heap_alloc_new _ _) rfl (by simp [Value.oneCell']) (by unfold maxLen; omega) (by omega) ?_; intro g' cap' w' ho' hg' hn'; have HO' := Lib.hid ho'; have HG' := Lib.hid hg'; clear ho' hg' hn')))
                    have hB9 : Hid (Below Wy.heap.size Wy w') := (HbW.out.alloc hsW _).grown HG'.out (by simp; omega) (fun q hq => (World.ownsRow.lt HoW.out q hq).1)
                    have O9 : Hid (w'.ownsRow Wy.heap.size 44 3 (.slice (some ⟨g', 0, none⟩) (Q.length + 1) cap') (leftM M s (j + 1)).length ((leftM M s (j + 1)).flatMap Mo.cells)) := by
                      rw [Hsn2.out, List.length_append, List.flatMap_append]
                      exact HO'.out
                    have hdl2 : Hid (d + (leftM M s (j + 1)).length = j + 1) := by
                      rw [Hsn2.out, List.length_append]
                      have := hdl.out
                      show _ = _
                      simp
                      omega
                    exact ⟨⟨j + 1, d, by omega, by go_num, rfl, by omega, hdl2, O9, hB9⟩, by simp [intOf]; omega⟩
                  · skip
                    have Hsn2 : Hid (leftM M s (j + 1) = Q) := Hsn.out.trans (List.append_nil Q)
                    go_wp2_with (first
                      | ((with_reducible refine at_slot 134 ?_); go_must (refine wpList_load_at aggMo rfl _ rfl ⟨g0, of0 + j * 3, none⟩ rfl [.string ys, .string ym, .slice lo ln lc] rfl (fun i u hu => by rw [Addr.add_lit]; exact Hcl3.out i u hu) ?_))
                      | ((with_reducible refine at_slot 19 ?_); go_must (refine wpList_var aggMo rfl rfl rfl _ _ rfl rfl #[.string ys, .string ym, .slice lo ln lc] rfl rfl rfl (by simp [Value.oneCell']) ?_; rw [hWz]; rw [Hbz.out])))
                    go_roundw
                    case rel => exact ⟨j + 1, d + 1, by omega, by go_num, by go_num, by omega, by rw [Hsn2.out]; have := hdl.out; show _ = _; omega, by rw [Hsn2.out]; exact HoW.out, HbW⟩
                    case measure => simp [intOf]; omega
                · skip
                  obtain rfl : j = ml := by omega
                  have hla : leftM M s j = M.filter (notOf s) := leftM_all (by have := HmlE.out; omega)
                  rw [hla] at ho hdl
                  obtain ⟨vo, vc, rfl, hSv, hvb⟩ := SlR.of_owns (f := Mo.cells) (sz := 3) ho.out rfl (fun _ => rfl)
                  have hcells : wj.cell? ⟨pb, 0, none⟩ = some (.slice mo j mcap) := Below.cell_some hbj.out Hcm.out
                  have hfree : wj.frozen? ⟨pb, 0, none⟩ = false := row_free (HPy.out.mod.below hbj.out).cell 0
                  obtain ⟨fl, hfl⟩ : ∃ q, (M.filter (notOf s)).length = q := ⟨_, rfl⟩
                  have HC5 := Lib.hid (HPy.out.drop s hs60 (by omega) hbj.out ho.out d (by rw [HmlE.out]; exact hdl.out))
                  have hst : (Instr.storeAt 31 (.pointer (some ⟨pb, 0, none⟩)) (.slice vo fl vc)).run Try.prog wj = .ok () (wj.setCell ⟨pb, 0, none⟩ (.slice vo fl vc)) := store_sl11 _ (by kernel_rfl) (by rw [hcells]; rfl) hfree
                  have y2 : (wj.setCell ⟨pb, 0, none⟩ (.slice vo fl vc)).cell? ⟨bo', 2, none⟩ = some (.string s) := ((Fr.refl (fun q => q = pb) wj).set1 (g := pb) rfl _).cell (Below.cell_some hbj.out Ha2.out) (fun h => by have := hP.out.mod.pbLt; have := Hbo.out; simp only at h; omega)
                  rw [hfl] at HC5 ⊢
                  have Hst := Lib.hid hst
                  obtain ⟨w8, hw8⟩ : ∃ q, wj.setCell ⟨pb, 0, none⟩ (.slice vo fl vc) = q := ⟨_, rfl⟩
                  rw [hw8] at y2 HC5 Hst
                  have Hw8 := Lib.hid hw8
                  clear hw8 hst hSv hvb hcells hfree hla hfl
                  go_wp2_with ((with_reducible refine at_store 9 ?_); go_must (refine wpList_store_sl rfl _ _ _ rfl ⟨pb, 0, none⟩ (.slice vo fl vc) rfl rfl (by rw [Hw8.out]; exact Hst.out) ?_; rw [Hw8.out]))
                  refine HC5.out.mono ?_
                  rintro e w9 ⟨rfl, hP9, hB9⟩
                  have HP9 := Lib.hid hP9.up
                  have HW9 : Hid (Below W.heap.size W w9) := HWy.out.trans (hB9.mono (by have := HBN.out; omega))
                  clear hP9 hB9 y2
                  have hdd : (!decide ((d : Int) = d)) = false := by simp
                  go_wp2_with fail
                  exact ⟨⟨k + 1, _, _, by omega, by go_num, HP9, HW9⟩, by simp [intOf]; omega⟩
            · skip
              have hk0' : decide (kd = 0) = false := decide_eq_false hk0
              have hk1' : decide (kd = 1) = false := decide_eq_false hk1
              have hk0b : (kd == 0) = false := by simpa using hk0
              have hk1b : (kd == 1) = false := by simpa using hk1
              have HC1 := Lib.hid (HPy.out.twin 4611686018427387904 s m hs60 hm60 (by omega))
              clear hk0 hk1
              go_wp2_with (first
                | ((with_reducible refine at_slot 73 ?_); go_must (refine wpList_load_at aggAct rfl _ rfl ⟨b0, off + k * 5, none⟩ rfl [.int .i64 kd, .int .i64 at0, .string s, .string m, .int .u64 bits] rfl (fun j u hu => by rw [Addr.add_lit]; exact Hcl.out j u hu) ?_))
                | ((with_reducible refine at_slot 11 ?_); go_must (refine wpList_var aggAct rfl rfl rfl _ _ rfl rfl #[.int .i64 kd, .int .i64 at0, .string s, .string m, .int .u64 bits] rfl rfl rfl (by simp [Value.oneCell']) ?_; rw [hWy]; rw [Hbo.out])))
              refine HC1.out.mono ?_
              rintro e w5 ⟨bb', rfl, hb5, hC2⟩
              have HC2 := Lib.hid hC2
              have x2 := Below.cell_some hb5 a2
              have x3 := Below.cell_some hb5 a3
              have Hser5 : Hid (∀ j u, [Value.string s, Value.string m][j]? = some u → w5.cell? ⟨bo', 2 + j, none⟩ = some u) := fun j u hu => by
                match j, hu with
                | 0, hu => cases hu; exact x2
                | 1, hu => cases hu; exact x3
              clear hC2 hb5
              go_wp2_with ((with_reducible refine at_slot 92 ?_); go_must (refine wpList_load_at aggSerP rfl _ rfl ⟨bo', 2, none⟩ rfl [.string s, .string m] rfl (fun j u hu => by rw [Addr.add_lit]; exact Hser5.out j u hu) ?_))
              refine HC2.out.mono ?_
              rintro e w6 ⟨rx, ry, rfl, hb6, hC3⟩
              have HC3 := Lib.hid hC3
              have y2 := Below.cell_some hb6 a2
              clear hC3 hb6 x2 x3
              go_wp2_with fail
              refine HC3.out.mono ?_
              rintro e w7 ⟨rd, rfl, hb7⟩
              have HP7 := Lib.hid (HPy.out.below hb7)
              have HW7 : Hid (Below W.heap.size W w7) := HWy.out.trans (hb7.mono (by have := HWy.out.size; omega))
              clear hb7 y2 a0 a1 a2 a3 a4
              go_wp2_with fail
              exact ⟨⟨k + 1, mv, M, by omega, by go_num, HP7.out.up, HW7⟩, by simp [intOf]; omega⟩
        · skip
          have e1 : decide ((s.size : Int) > 60) = false := decide_eq_false (by omega)
          have e2 : decide ((m.size : Int) > 60) = true := decide_eq_true (by omega)
          go_wp2_with (first
            | ((with_reducible refine at_slot 73 ?_); go_must (refine wpList_load_at aggAct rfl _ rfl ⟨b0, off + k * 5, none⟩ rfl [.int .i64 kd, .int .i64 at0, .string s, .string m, .int .u64 bits] rfl (fun j u hu => by rw [Addr.add_lit]; exact Hcl.out j u hu) ?_))
            | ((with_reducible refine at_slot 11 ?_); go_must (refine wpList_var aggAct rfl rfl rfl _ _ rfl rfl #[.int .i64 kd, .int .i64 at0, .string s, .string m, .int .u64 bits] rfl rfl rfl (by simp [Value.oneCell']) ?_; rw [hWy]; rw [Hbo.out])))
          go_ret
          exact ⟨rfl, HBy.out⟩
      · skip
        have e1 : decide ((s.size : Int) > 60) = true := decide_eq_true (by omega)
        go_wp2_with (first
          | ((with_reducible refine at_slot 73 ?_); go_must (refine wpList_load_at aggAct rfl _ rfl ⟨b0, off + k * 5, none⟩ rfl [.int .i64 kd, .int .i64 at0, .string s, .string m, .int .u64 bits] rfl (fun j u hu => by rw [Addr.add_lit]; exact Hcl.out j u hu) ?_))
          | ((with_reducible refine at_slot 11 ?_); go_must (refine wpList_var aggAct rfl rfl rfl _ _ rfl rfl #[.int .i64 kd, .int .i64 at0, .string s, .string m, .int .u64 bits] rfl rfl rfl (by simp [Value.oneCell']) ?_; rw [hWy]; rw [Hbo.out])))
        go_ret
        exact ⟨rfl, HBy.out⟩
    · skip
      obtain rfl : n = k := by omega
      obtain ⟨mo, mcap, rfl, _⟩ := hP.out.mod.reads
      have hnl := hP.out.len
      have HAll := Lib.hid (all_any B bb bm most age (M.map Mo.en) wq hP.out.book hP.out.enames (by rw [List.length_map]; omega))
      go_wp2_with fail
      refine HAll.out.mono ?_
      rintro e w4 ⟨yo, ycap, ys, rfl, hA, hSy, hb4⟩
      have hyl : M.length = ys.length := by have := hA.len; rw [List.length_map] at this; exact this.symm
      rw [hyl] at hP hnl
      have hyn : ∀ y ∈ ys, y.a.size ≤ maxLen ∧ y.b.size ≤ maxLen := fun y hy => by
        obtain ⟨e, he, h1, h2⟩ := hA.are y hy
        have := hP.out.enames e he
        rw [h1, h2] at this
        exact this
      obtain ⟨yl, hyl2⟩ : ∃ q, ys.length = q := ⟨_, rfl⟩
      rw [hyl2] at hP hnl hSy ⊢
      have HP4 := Lib.hid (hP.out.below hb4)
      have HW4 : Hid (Below W.heap.size W w4) := hb.out.trans (hb4.mono (by have := hb.out.size; omega))
      have cm : w4.cell? ⟨pb, 0, none⟩ = some (.slice mo yl mcap) := cell_of_row w4 pb 0 _ _ _ HP4.out.mod.cell
      have Hcm := Lib.hid cm
      have HA := Lib.hid hA
      have HSy := Lib.hid hSy
      have Hyn := Lib.hid hyn
      have Hyl := Lib.hid hyl2
      have hym := hSy.hmax
      have hyc := hSy.hcap
      unfold maxLen at hym
      have hdy : (!decide ((yl : Int) = yl)) = false := by simp
      clear hA hSy hb4 hyl hyn hyl2 HAll
      go_wp2_with fail
      clear cm
      go_loopw [167] (fun i wr => ∃ j : Nat, j ≤ yl ∧ i = .int .i64 j ∧ Hid (Below w4.heap.size w4 wr)) (fun i _ => yl - (intOf i).toNat)
      case atStart => exact ⟨0, Nat.zero_le _, rfl, Below.refl _ _⟩
      case round =>
        obtain ⟨j, hj, rfl, hbj⟩ := hrel
        obtain ⟨wj, rfl⟩ : ∃ wj : World, wj = wr := ⟨_, rfl⟩
        by_cases hjl : j < yl
        · skip
          have HPj := Lib.hid (HP4.out.below hbj.out)
          have HWj : Hid (Below W.heap.size W wj) := HW4.out.trans (hbj.out.mono (by have := HW4.out.size; omega))
          have hSj := HSy.out.flatKeeps (Keeps.below hbj.out)
          obtain ⟨c0, coff, rfl⟩ := hSj.ptr (by decide) (by omega)
          have jx : j < ys.length := by rw [Hyl.out]; exact hjl
          have hcl := hSj.flat jx
          have hyn := Hyn.out _ (List.getElem_mem jx)
          have hfi := findI_in (HA.out.are _ (List.getElem_mem jx))
          have hpv : ∀ i (ix : i < ys.length), i + 1 = j → (∀ t u, (Ks.cells ys[i])[t]? = some u → wj.cell? ⟨c0, coff + i * 2 + t, none⟩ = some u) ∧ ltB ys[i] ys[j] = true := fun i ix e => ⟨fun t u hu => hSj.flat ix t u hu, HA.out.rise i j (by omega) jx ix⟩
          obtain ⟨y, hy⟩ : ∃ y, ys[j] = y := ⟨_, rfl⟩
          rw [hy] at hcl hyn hfi hpv
          obtain ⟨sa, sb⟩ := y
          dsimp only at hyn hfi
          obtain ⟨fi, hfi⟩ := hfi
          have hfd : ∀ w' : World, Below wj.heap.size wj w' → Calls Try.prog 11 #[.slice mo yl mcap, .agg #[.string sa, .string sb]] w' fun e w'' => e = .returned (.int .i64 fi) ∧ Below w'.heap.size w' w'' := fun w' hb' => by
            have := (HPj.out.below hb').findAny sa sb
            rwa [hfi] at this
          have HFd := Lib.hid hfd
          obtain ⟨Wy, hWy⟩ : ∃ W, wj.alloc (.cells #[.string sa, .string sb] 33) = W := ⟨_, rfl⟩
          obtain ⟨bo', hbo⟩ : ∃ bo, wj.heap.size = bo := ⟨_, rfl⟩
          have hbW : Below wj.heap.size wj Wy := by rw [← hWy]; exact (Below.refl _ _).alloc (Nat.le_refl _) _
          have hrow : Wy.heap[bo']? = some (.cells #[.string sa, .string sb] 33 (0, 0)) := by rw [← hWy, ← hbo]; exact heap_alloc_new _ _
          have a0 : Wy.cell? ⟨bo', 0, none⟩ = some (.string sa) := cell_of_row _ _ 0 _ _ _ hrow
          have a1 : Wy.cell? ⟨bo', 1, none⟩ = some (.string sb) := cell_of_row _ _ 1 _ _ _ hrow
          have m2 : Wy.cell? ⟨pb, 0, none⟩ = some (.slice mo yl mcap) := Below.cell_some hbW (Below.cell_some hbj.out Hcm.out)
          have hde : ∀ t u, [Value.string sa, Value.string sb][t]? = some u → Wy.cell? (Addr.add ⟨bo', 0, none⟩ t) = some u := fun t u hu => by
            match t, hu with
            | 0, hu => cases hu; exact a0
            | 1, hu => cases hu; exact a1
          have hpv2 : ∀ i (ix : i < ys.length), i + 1 = j → ∃ pa pq : ByteArray, Wy.cell? ⟨c0, coff + i * 2, none⟩ = some (.string pa) ∧ Wy.cell? ⟨c0, coff + i * 2 + 1, none⟩ = some (.string pq) ∧ ((Op.bytesLess pa.toList sa.toList = true ∧ (pa.toList == sa.toList) = false) ∨ (Op.bytesLess pa.toList sa.toList = false ∧ (pa.toList == sa.toList) = true ∧ Op.bytesLess pq.toList sb.toList = true)) := fun i ix e =>
            ⟨_, _, Below.cell_some hbW ((hpv i ix e).1 0 _ rfl), Below.cell_some hbW ((hpv i ix e).1 1 _ rfl), ltB_cases (hpv i ix e).2⟩
          have HPy := Lib.hid (HPj.out.below hbW)
          have HWy : Hid (Below W.heap.size W Wy) := HWj.out.trans (hbW.mono (by have := HWj.out.size; omega))
          have Hb4 : Hid (Below w4.heap.size w4 Wy) := hbj.out.trans (hbW.mono (by have := hbj.out.size; omega))
          have HFy := Lib.hid (fun (w' : World) (hb' : Below Wy.heap.size Wy w') => HFd.out w' (hbW.trans (hb'.mono (by have := hbW.size; omega))))
          have HPv2 := Lib.hid hpv2
          have Hcl := Lib.hid hcl
          have Hbo := Lib.hid hbo
          have Hyn2 := Lib.hid hyn
          have Hfi := Lib.hid hfi
          have Hrow := Lib.hid hrow
          have Hjx := Lib.hid jx
          have HbW := Lib.hid hbW
          clear hcl hSj hy hbW hrow hyn jx hbo hfi hpv hpv2 hfd HFd
          have hdf : decide ((fi : Int) < 0) = false := decide_eq_false (by omega)
          have Hde := Lib.hid hde
          have hsW : Wy.heap.size ≤ Wy.heap.size := Nat.le_refl _
          go_upto_region 41 with (first
            | ((with_reducible refine at_slot 171 ?_); go_must (refine wpList_load_at aggSerP rfl _ rfl ⟨c0, coff + j * 2, none⟩ rfl [.string sa, .string sb] rfl (fun j u hu => by rw [Addr.add_lit]; exact Hcl.out j u hu) ?_))
            | ((with_reducible refine at_store 23 ?_); go_must (refine wpList_store_newS aggSerP rfl _ _ rfl rfl wj _ #[.string sa, .string sb] rfl rfl rfl rfl (by simp [Value.oneCell']) ?_; rw [hWy]; rw [Hbo.out])))
          replace a0 := BW.cell a0
          replace a1 := BW.cell a1
          replace m2 := BW.cell m2
          replace hde := BW.cells hde
          have hyl64 : yl ≤ 80 := by omega
          clear hcm hkm hlc hkc hym hyc
          rcases Nat.eq_zero_or_pos j with hj0 | hj0
          · skip
            have hd0 : decide ((j : Int) > 0) = false := decide_eq_false (by omega)
            refine wp_region_head_lit 40 (fun w' => ∃ p : BW Wy, w' = p.w') (by kernel_rfl) (by kernel_rfl) ⟨⟨{ Wy with drawn := Wy.drawn + 1 }, ⟨rfl, rfl, rfl, Nat.le_refl _, fun _ _ => rfl⟩⟩, rfl⟩ ?_
            simp only [List.take_succ_cons, List.take_zero, List.drop_succ_cons, List.drop_zero]
            repeat (first | (refine wpQuiet_load aggSerP rfl _ rfl ⟨bo', 0, none⟩ rfl [.string sa, .string sb] rfl (by rintro _ ⟨bw, rfl⟩; exact hde bw) ?_) | quiet_step (first | (go_at_call 11; with_reducible exact BW.call _ (HFy.out _ (BW.h _))) | exact rfl))
            refine wpQuiet_nil ?_
            intro w5 hw'
            obtain ⟨⟨_, hb5⟩, e5⟩ := hw'
            dsimp only at e5
            subst e5
            have Hb5 := Lib.hid hb5
            clear hb5 hde a0 a1 m2
            go_wp2_with fail
            go_loopw [215] (fun i wr => ∃ q : Nat, q ≤ nk ∧ i = .int .i64 q ∧ Hid (Below Wy.heap.size Wy wr)) (fun i _ => nk - (intOf i).toNat)
            case atStart => exact ⟨0, Nat.zero_le _, rfl, Hb5⟩
            case round =>
              obtain ⟨q, hq, rfl, hbq⟩ := hrel
              obtain ⟨wk, rfl⟩ : ∃ wk : World, wk = wr := ⟨_, rfl⟩
              by_cases hql : q < nk
              · skip
                have HWk2 : Hid (Below W.heap.size W wk) := HWy.out.trans (hbq.out.mono (by have := HWy.out.size; omega))
                have HBk : Hid (Below N w wk) := HB.out.trans (HWk2.out.mono (by omega))
                have HPk := Lib.hid (HPy.out.below hbq.out)
                have hKk := HK.out.flatKeeps (Keeps.below (by rw [HN.out]; exact HBk.out))
                obtain ⟨d0, doff, rfl⟩ := hKk.ptr (by decide) (by omega)
                have qx : q < ks.length := by have := hKk.hlen; omega
                have hkc2 : wk.cell? ⟨d0, doff + q, none⟩ = some (.int .i64 ks[q]) := by have h := hKk.flat0 qx _ rfl; rwa [Nat.mul_one] at h
                have hk2 := HK2.out _ (List.getElem_mem qx)
                obtain ⟨x, hx⟩ : ∃ x, ks[q] = x := ⟨_, rfl⟩
                rw [hx] at hkc2 hk2
                have a0 : wk.cell? ⟨N, 1, none⟩ = some (.int .i64 age) := Below.cell_some HWk2.out HR1.out
                have a1 : wk.cell? ⟨pb, 0, none⟩ = some (.slice mo yl mcap) := Below.cell_some hbq.out (Below.cell_some HbW.out (Below.cell_some hbj.out Hcm.out))
                have Hvr : Hid (∀ t u, [Value.string sa, Value.string sb][t]? = some u → wk.cell? (Addr.add ⟨bo', 0, none⟩ t) = some u) := fun t u hu => Below.cell_some hbq.out (Hde.out t u hu)
                clear hKk hx qx
                by_cases hx0 : 0 ≤ x
                · skip
                  have hdx : decide (x ≥ 0) = true := decide_eq_true hx0
                  have HIs := Lib.hid (HPk.out.isAny ha1 ha2 sa sb Hyn2.out.1 Hyn2.out.2 x hx0 hk2)
                  clear hx0 hk2
                  go_wp2_with (first
                    | ((with_reducible refine at_slot 227 ?_); go_must (refine wpList_load_at_gS aggSerP rfl _ rfl ⟨bo', 0, none⟩ rfl [.string sa, .string sb] rfl (fun j u hu => Hvr.out j u hu) ?_)))
                  refine HIs.out.mono ?_
                  rintro e w7 ⟨rfl, hb7⟩
                  have Hb7 : Hid (Below Wy.heap.size Wy w7) := hbq.out.trans (hb7.mono (by have := hbq.out.size; omega))
                  clear a0 a1 hb7 hkc2
                  go_wp2_with fail
                  exact ⟨⟨q + 1, by omega, by go_num, Hb7⟩, by simp [intOf]; omega⟩
                · skip
                  have hdx : decide (x ≥ 0) = false := decide_eq_false hx0
                  clear hx0 hk2
                  go_wp2_with fail
                  exact ⟨⟨q + 1, by omega, by go_num, hbq⟩, by simp [intOf]; omega⟩
              · skip
                obtain rfl : q = nk := by omega
                have Hb8 : Hid (Below w4.heap.size w4 wk) := Hb4.out.trans (hbq.out.mono (by have := Hb4.out.size; omega))
                go_wp2_with fail
                exact ⟨⟨j + 1, by omega, by go_num, Hb8⟩, by simp [intOf]; omega⟩
          · skip
            obtain ⟨i, hi⟩ : ∃ i, i + 1 = j := ⟨j - 1, by omega⟩
            obtain ⟨pa, pq, c1, c2, hlt⟩ := HPv2.out i (by have := Hjx.out; omega) hi
            have hd0 : decide ((j : Int) > 0) = true := decide_eq_true (by omega)
            have hji : IntKind.i64.wrap ((j : Int) - 1) = (i : Int) := by rw [show (j : Int) - 1 = (i : Int) by omega]; exact IntWalk.i64_in _ (by omega)
            have hx2 : (0 : Int) ≤ (i : Int) := by omega
            have hx3 : (i : Int) < (yl : Int) := by omega
            have hx4 : i < yl := by omega
            replace c1 := BW.cell c1
            replace c2 := BW.cell c2
            rcases hlt with ⟨l1, l2⟩ | ⟨l1, l2, l3⟩
            · refine wp_region_head_lit 40 (fun w' => ∃ p : BW Wy, w' = p.w') (by kernel_rfl) (by kernel_rfl) ⟨⟨{ Wy with drawn := Wy.drawn + 1 }, ⟨rfl, rfl, rfl, Nat.le_refl _, fun _ _ => rfl⟩⟩, rfl⟩ ?_
              simp only [List.take_succ_cons, List.take_zero, List.drop_succ_cons, List.drop_zero]
              repeat (first | (refine wpQuiet_load aggSerP rfl _ rfl ⟨bo', 0, none⟩ rfl [.string sa, .string sb] rfl (by rintro _ ⟨bw, rfl⟩; exact hde bw) ?_) | quiet_step (first | (go_at_call 11; with_reducible exact BW.call _ (HFy.out _ (BW.h _))) | exact rfl))
              refine wpQuiet_nil ?_
              intro w5 hw'
              obtain ⟨⟨_, hb5⟩, e5⟩ := hw'
              dsimp only at e5
              subst e5
              have Hb5 := Lib.hid hb5
              clear hb5 hde a0 a1 m2
              clear c1 c2 l1 l2 hji hx2 hx3 hx4 hi
              go_wp2_with fail
              go_loopw [215] (fun i wr => ∃ q : Nat, q ≤ nk ∧ i = .int .i64 q ∧ Hid (Below Wy.heap.size Wy wr)) (fun i _ => nk - (intOf i).toNat)
              case atStart => exact ⟨0, Nat.zero_le _, rfl, Hb5⟩
              case round =>
                obtain ⟨q, hq, rfl, hbq⟩ := hrel
                obtain ⟨wk, rfl⟩ : ∃ wk : World, wk = wr := ⟨_, rfl⟩
                by_cases hql : q < nk
                · skip
                  have HWk2 : Hid (Below W.heap.size W wk) := HWy.out.trans (hbq.out.mono (by have := HWy.out.size; omega))
                  have HBk : Hid (Below N w wk) := HB.out.trans (HWk2.out.mono (by omega))
                  have HPk := Lib.hid (HPy.out.below hbq.out)
                  have hKk := HK.out.flatKeeps (Keeps.below (by rw [HN.out]; exact HBk.out))
                  obtain ⟨d0, doff, rfl⟩ := hKk.ptr (by decide) (by omega)
                  have qx : q < ks.length := by have := hKk.hlen; omega
                  have hkc2 : wk.cell? ⟨d0, doff + q, none⟩ = some (.int .i64 ks[q]) := by have h := hKk.flat0 qx _ rfl; rwa [Nat.mul_one] at h
                  have hk2 := HK2.out _ (List.getElem_mem qx)
                  obtain ⟨x, hx⟩ : ∃ x, ks[q] = x := ⟨_, rfl⟩
                  rw [hx] at hkc2 hk2
                  have a0 : wk.cell? ⟨N, 1, none⟩ = some (.int .i64 age) := Below.cell_some HWk2.out HR1.out
                  have a1 : wk.cell? ⟨pb, 0, none⟩ = some (.slice mo yl mcap) := Below.cell_some hbq.out (Below.cell_some HbW.out (Below.cell_some hbj.out Hcm.out))
                  have Hvr : Hid (∀ t u, [Value.string sa, Value.string sb][t]? = some u → wk.cell? (Addr.add ⟨bo', 0, none⟩ t) = some u) := fun t u hu => Below.cell_some hbq.out (Hde.out t u hu)
                  clear hKk hx qx
                  by_cases hx0 : 0 ≤ x
                  · skip
                    have hdx : decide (x ≥ 0) = true := decide_eq_true hx0
                    have HIs := Lib.hid (HPk.out.isAny ha1 ha2 sa sb Hyn2.out.1 Hyn2.out.2 x hx0 hk2)
                    clear hx0 hk2
                    go_wp2_with (first
                      | ((with_reducible refine at_slot 227 ?_); go_must (refine wpList_load_at_gS aggSerP rfl _ rfl ⟨bo', 0, none⟩ rfl [.string sa, .string sb] rfl (fun j u hu => Hvr.out j u hu) ?_)))
                    refine HIs.out.mono ?_
                    rintro e w7 ⟨rfl, hb7⟩
                    have Hb7 : Hid (Below Wy.heap.size Wy w7) := hbq.out.trans (hb7.mono (by have := hbq.out.size; omega))
                    clear a0 a1 hb7 hkc2
                    go_wp2_with fail
                    exact ⟨⟨q + 1, by omega, by go_num, Hb7⟩, by simp [intOf]; omega⟩
                  · skip
                    have hdx : decide (x ≥ 0) = false := decide_eq_false hx0
                    clear hx0 hk2
                    go_wp2_with fail
                    exact ⟨⟨q + 1, by omega, by go_num, hbq⟩, by simp [intOf]; omega⟩
                · skip
                  obtain rfl : q = nk := by omega
                  have Hb8 : Hid (Below w4.heap.size w4 wk) := Hb4.out.trans (hbq.out.mono (by have := Hb4.out.size; omega))
                  go_wp2_with fail
                  exact ⟨⟨j + 1, by omega, by go_num, Hb8⟩, by simp [intOf]; omega⟩
            · refine wp_region_head_lit 40 (fun w' => ∃ p : BW Wy, w' = p.w') (by kernel_rfl) (by kernel_rfl) ⟨⟨{ Wy with drawn := Wy.drawn + 1 }, ⟨rfl, rfl, rfl, Nat.le_refl _, fun _ _ => rfl⟩⟩, rfl⟩ ?_
              simp only [List.take_succ_cons, List.take_zero, List.drop_succ_cons, List.drop_zero]
              repeat (first | (refine wpQuiet_load aggSerP rfl _ rfl ⟨bo', 0, none⟩ rfl [.string sa, .string sb] rfl (by rintro _ ⟨bw, rfl⟩; exact hde bw) ?_) | quiet_step (first | (go_at_call 11; with_reducible exact BW.call _ (HFy.out _ (BW.h _))) | exact rfl))
              refine wpQuiet_nil ?_
              intro w5 hw'
              obtain ⟨⟨_, hb5⟩, e5⟩ := hw'
              dsimp only at e5
              subst e5
              have Hb5 := Lib.hid hb5
              clear hb5 hde a0 a1 m2
              clear c1 c2 l1 l2 l3 hji hx2 hx3 hx4 hi
              go_wp2_with fail
              go_loopw [215] (fun i wr => ∃ q : Nat, q ≤ nk ∧ i = .int .i64 q ∧ Hid (Below Wy.heap.size Wy wr)) (fun i _ => nk - (intOf i).toNat)
              case atStart => exact ⟨0, Nat.zero_le _, rfl, Hb5⟩
              case round =>
                obtain ⟨q, hq, rfl, hbq⟩ := hrel
                obtain ⟨wk, rfl⟩ : ∃ wk : World, wk = wr := ⟨_, rfl⟩
                by_cases hql : q < nk
                · skip
                  have HWk2 : Hid (Below W.heap.size W wk) := HWy.out.trans (hbq.out.mono (by have := HWy.out.size; omega))
                  have HBk : Hid (Below N w wk) := HB.out.trans (HWk2.out.mono (by omega))
                  have HPk := Lib.hid (HPy.out.below hbq.out)
                  have hKk := HK.out.flatKeeps (Keeps.below (by rw [HN.out]; exact HBk.out))
                  obtain ⟨d0, doff, rfl⟩ := hKk.ptr (by decide) (by omega)
                  have qx : q < ks.length := by have := hKk.hlen; omega
                  have hkc2 : wk.cell? ⟨d0, doff + q, none⟩ = some (.int .i64 ks[q]) := by have h := hKk.flat0 qx _ rfl; rwa [Nat.mul_one] at h
                  have hk2 := HK2.out _ (List.getElem_mem qx)
                  obtain ⟨x, hx⟩ : ∃ x, ks[q] = x := ⟨_, rfl⟩
                  rw [hx] at hkc2 hk2
                  have a0 : wk.cell? ⟨N, 1, none⟩ = some (.int .i64 age) := Below.cell_some HWk2.out HR1.out
                  have a1 : wk.cell? ⟨pb, 0, none⟩ = some (.slice mo yl mcap) := Below.cell_some hbq.out (Below.cell_some HbW.out (Below.cell_some hbj.out Hcm.out))
                  have Hvr : Hid (∀ t u, [Value.string sa, Value.string sb][t]? = some u → wk.cell? (Addr.add ⟨bo', 0, none⟩ t) = some u) := fun t u hu => Below.cell_some hbq.out (Hde.out t u hu)
                  clear hKk hx qx
                  by_cases hx0 : 0 ≤ x
                  · skip
                    have hdx : decide (x ≥ 0) = true := decide_eq_true hx0
                    have HIs := Lib.hid (HPk.out.isAny ha1 ha2 sa sb Hyn2.out.1 Hyn2.out.2 x hx0 hk2)
                    clear hx0 hk2
                    go_wp2_with (first
                      | ((with_reducible refine at_slot 227 ?_); go_must (refine wpList_load_at_gS aggSerP rfl _ rfl ⟨bo', 0, none⟩ rfl [.string sa, .string sb] rfl (fun j u hu => Hvr.out j u hu) ?_)))
                    refine HIs.out.mono ?_
                    rintro e w7 ⟨rfl, hb7⟩
                    have Hb7 : Hid (Below Wy.heap.size Wy w7) := hbq.out.trans (hb7.mono (by have := hbq.out.size; omega))
                    clear a0 a1 hb7 hkc2
                    go_wp2_with fail
                    exact ⟨⟨q + 1, by omega, by go_num, Hb7⟩, by simp [intOf]; omega⟩
                  · skip
                    have hdx : decide (x ≥ 0) = false := decide_eq_false hx0
                    clear hx0 hk2
                    go_wp2_with fail
                    exact ⟨⟨q + 1, by omega, by go_num, hbq⟩, by simp [intOf]; omega⟩
                · skip
                  obtain rfl : q = nk := by omega
                  have Hb8 : Hid (Below w4.heap.size w4 wk) := Hb4.out.trans (hbq.out.mono (by have := Hb4.out.size; omega))
                  go_wp2_with fail
                  exact ⟨⟨j + 1, by omega, by go_num, Hb8⟩, by simp [intOf]; omega⟩
        · skip
          obtain rfl : j = yl := by omega
          have HPj := Lib.hid (HP4.out.below hbj.out)
          have HWj : Hid (Below W.heap.size W wj) := HW4.out.trans (hbj.out.mono (by have := HW4.out.size; omega))
          have m1 : wj.cell? ⟨N, 1, none⟩ = some (.int .i64 age) := Below.cell_some HWj.out HR1.out
          have m2 : wj.cell? ⟨pb, 0, none⟩ = some (.slice mo j mcap) := Below.cell_some hbj.out Hcm.out
          have HIs := Lib.hid (HPj.out.isAny ha1 ha2 ⟨#[63]⟩ ⟨#[63]⟩ (by decide) (by decide) 5 (by omega) (by omega))
          go_wp2_with fail
          refine HIs.out.mono ?_
          rintro e w7 ⟨rfl, hb7⟩
          have HB7 : Hid (Below N w w7) := HB.out.trans ((HWj.out.trans (hb7.mono (by have := HWj.out.size; omega))).mono (by omega))
          clear m1 m2 hb7
          go_wp2_with fail
          go_ret
          exact ⟨rfl, HB7.out⟩
end Go.Proofs.Ytoamjihchmokcaa
