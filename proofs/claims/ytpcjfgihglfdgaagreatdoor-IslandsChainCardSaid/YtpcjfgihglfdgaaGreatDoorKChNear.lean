/- Contract of the iterator that index.near hands back: whatever the loop's body keeps. No condition. Contracts of slices.Sort and slices.Compact at two ints at most, in order. No condition. Contracts of index.near, of what Meets asks, of those and Meets. No condition. -/
import Derived.Test.YtpcjfgihglfdgaaGreatDoorKChIdxC
import Derived.Sort.QuietIn
import Derived.Scope
import Derived.Test.YtpcjfgihglfdgaaGreatDoorKChIdxO
import Derived.Test.YtpcjfgihglfdgaaGreatDoorKSpSmallA

namespace Go.Proofs.YtpcjfgihglfdgaaGreatDoor
open Go.RowKit Go.Lib Go.Maps
attribute [local go_sem] Oper.semAt_some

/-- the numbers of the first q rows from r on, of j -/
def idsOf (r q j : Nat) : List Int := (((List.range q).map fun i => r + i).filter fun i => decide (i < j)).map fun (i : Nat) => (i : Int)
theorem idsOf_yes {r q j : Nat} (h : r + q < j) : idsOf r (q + 1) j = idsOf r q j ++ [((r + q : Nat) : Int)] := by simp [idsOf, List.range_succ, h]
theorem idsOf_no {r q j : Nat} (h : ¬ r + q < j) : idsOf r (q + 1) j = idsOf r q j := by simp [idsOf, List.range_succ, h]
theorem idsOf_lt {r q j : Nat} {x : Int} (h : x ∈ idsOf r q j) : x < ((r + q : Nat) : Int) := by
  simp [idsOf] at h
  omega
def metM (l : List Int) : Int → Option Value := fun i => if i ∈ l then some (.bool true) else none
theorem bool_zero' (w : World) : (zeroValue 4).run Tryz.prog w = .ok (.bool false) w := by kernel_rfl
/-- a block that is neither a map nor a row of lines -/
def Other (W : World) (x : Nat) : Prop := (∀ es c, W.heap[x]? ≠ some (.map es c)) ∧ ∀ cs fr, W.heap[x]? ≠ some (.cells cs 188 fr)
theorem MapV.other {w w' : World} {k : TypeId} {z : Value} {κ : Type} {kv : κ → Value} {b n : Nat} {M : κ → Option Value} {F : List Nat} (h : MapV w k z kv b n M) (hc : Chg F w w') (hF : ∀ x ∈ F, Other w x) : MapV w' k z kv b n M :=
  h.chg hc (fun hb => by
    obtain ⟨D, ⟨es, clock, he, -⟩, -⟩ := h
    exact (hF b hb).1 es clock he)
theorem LinesOwn.other {w w' : World} {B : Nat} {v : Value} {l : List (Int × Int)} {F : List Nat} (h : LinesOwn w B v l) (hc : Chg F w w') (hF : ∀ x ∈ F, Other w x) : LinesOwn w' B v l :=
  h.chg hc (fun g hg hb => by
    rcases h.2 with ⟨rfl, -⟩ | ⟨g', cap, cur, rfl, -, hh, -⟩
    · cases hg
    · simp only [Value.ownBlock, Option.some.injEq] at hg
      subst hg
      exact (hF _ hb).2 _ _ hh)

theorem LinesOwn.maps {w w' : World} {B : Nat} {v : Value} {l : List (Int × Int)} {F : List Nat} (h : LinesOwn w B v l) (hc : Chg F w w') (hF : ∀ x ∈ F, ∃ es c, w.heap[x]? = some (.map es c)) : LinesOwn w' B v l :=
  h.chg hc (fun g hg hb => by
    rcases h.2 with ⟨rfl, -⟩ | ⟨g', cap, cur, rfl, -, hh, -⟩
    · cases hg
    · simp only [Value.ownBlock, Option.some.injEq] at hg
      subst hg
      obtain ⟨es, c, he⟩ := hF _ hb
      rw [hh] at he
      cases he)
theorem metM_last (l : List Int) (x : Int) : metM (l ++ [x]) x = some (.bool true) := by simp [metM]
theorem metM_snoc (l : List Int) {x q : Int} (h : q ≠ x) : metM (l ++ [x]) q = metM l q := by simp [metM, h]
/-- the iterator's own part, behind the first k rows -/
structure NeR (St : List Int → World → Prop) (r R j base mb B : Nat) (lv : Value) (k : Nat) (W : World) : Prop where
  st : St (idsOf r k j) W
  met : MapV W 3 (.bool false) intV mb k (metM (idsOf r k j))
  ln : LinesOwn W B lv (rowsOf (r : Int) R)
  lo : base ≤ mb

theorem wpIn_scope_wide {n : Nat} {P : Program} {c : Code} {Q : Exit → Act → World → Prop} {a : Act} {w : World} (h : c.wpIn Fence.wide n P (Exit.noGoto Q) a w) : (Code.scope c).wpIn Fence.wide n P Q a w := wpIn_wide.2 (wp_scope_straight (wpIn_wide.1 h))
set_option maxRecDepth 20000 in
set_option maxHeartbeats 2000000 in
theorem near1_in (lp base : Nat) {ib m1 m2 L j : Nat} {rs : Nat → Value} (r R : Nat) (hr : r + R ≤ 200) (hj : j ≤ 100) (xa xi : Nat) (St : List Int → World → Prop)
    (hS : ∀ pre W, St pre W → Ix W ib m1 m2 L j rs ∧ base ≤ W.heap.size ∧ W.heap[xa]? = some (.cells #[.int .i64 0, .int .i64 (r : Int), .int .i64 0, .int .i64 (R : Int), .int .i64 1] 62 (0, 0)) ∧ W.heap[xi]? = some (.cells #[.pointer (some ⟨ib, 0, none⟩)] 55 (0, 0)))
    (hK : ∀ pre W W' F, St pre W → Chg F W W' → (∀ x ∈ F, base ≤ x ∧ ∃ es c, W.heap[x]? = some (.map es c)) → St pre W')
    (hY : ∀ (q : Nat) W, q < R → r + q < j → St (idsOf r q j) W → YieldAt Fence.wide 0 Tryz.prog lp #[.int .i64 ((r + q : Nat) : Int), arV ((r + q : Nat) : Int) 1] W fun e W' => e = .returned (.bool true) ∧ St (idsOf r (q + 1) j) W' ∧ ∃ F, Chg F W W' ∧ ∀ x ∈ F, Other W x)
    (W : World) (h0 : St [] W) :
    CallsIn Fence.wide 1 Tryz.prog 159 #[.func (.yield lp) #[] #[], .pointer (some ⟨xa, 0, none⟩), .pointer (some ⟨xi, 0, none⟩)] W fun e W' => (∃ v, e = .returned v) ∧ St (idsOf r R j) W' := by
  have hmm := @run_makeMap Tryz.prog
  have HS := hid hS
  have HK := hid hK
  have HY := hid hY
  obtain ⟨-, hb, ha, hi⟩ := hS _ _ h0
  have ba := (Below.refl W.heap.size W).alloc (Nat.le_refl _) (.map #[] 0)
  have St0 := hid (hK _ _ _ [] h0 (Chg.of_below ba) (by simp))
  have HM := hid (MapV.made W 3 (.bool false) intV)
  have HB := hid hb
  have HOF := hid (fun w => of_any (r : Int) R (by omega) (by omega) w)
  obtain ⟨mb, hmb⟩ : ∃ mb, mb = W.heap.size := ⟨_, rfl⟩
  clear hS hK hY hb ba
  refine callsIn_of_wp Tryz.func159 rfl trivial ?_ rfl
  simp only [Tryz.ntmps159, List.size_toArray, List.length_cons, List.length_nil, Nat.reduceAdd, Nat.reduceSub, Array.replicate_succ, Array.replicate_zero, List.push_toArray, List.append_toArray, List.nil_append, List.cons_append]
  have hmx : Tryz.prog.follows .mixedOrders = true := by kernel_rfl
  refine wpIn_scope_wide ?_
  gi_wp2_with fail
  refine wpIn_label ?_
  rw [← hmb] at HM ⊢
  have ha0 : (W.alloc (.map #[] 0)).heap[xa]? = _ := heap_alloc_keep ha _
  have HMB := hid hmb
  clear hmb ha hi
  generalize World.alloc _ _ = W0 at St0 HM ha0 ⊢
  have a0 := cell_of (i := 0) ha0 rfl
  have a1 := cell_of (i := 1) ha0 rfl
  have a2 := cell_of (i := 2) ha0 rfl
  have a3 := cell_of (i := 3) ha0 rfl
  have a4 := cell_of (i := 4) ha0 rfl
  clear ha0
  gi_wp2_with fail
  refine ⟨trivial, (callsIn_wide.2 (HOF.out _)).mono ?_⟩
  rintro e W1 ⟨lv, rfl, hl, b1⟩
  obtain ⟨B, hB⟩ : ∃ B, B = W0.heap.size + 1 := ⟨_, rfl⟩
  rw [← hB] at hl
  have hN0 := hid (show NeR St r R j base mb B lv 0 W1 from ⟨HK.out _ _ _ [] St0.out (Chg.of_below b1) (by simp), (HM.out.below b1).of_eq (Nat.le_refl _) (fun p => by simp [metM, idsOf]), hl, by have := HB.out; have := HMB.out; omega⟩)
  obtain ⟨la, lc, lb, lo, rfl, -⟩ := hl.cells
  have hlen : (rowsOf (r : Int) R).length = R := by simp [rowsOf]
  rw [hlen] at hN0 ⊢
  clear hl b1 hB St0 HM a0 a1 a2 a3 a4 hlen
  gi_wp2_with fail
  gi_loopw [13] (fun kv wr => ∃ k : Nat, kv = .int .i64 k ∧ k ≤ R ∧ NeR St r R j base mb B (.slice la R lc) k wr) (fun kv _ => R - (intOf kv).toNat)
  case atStart => exact ⟨0, rfl, Nat.zero_le _, hN0.out⟩
  case round =>
    obtain ⟨k, rfl, hk, hN⟩ := hrel
    have HN := hid hN
    clear hN0
    by_cases hkR : k < R
    · obtain ⟨la', lc', lb', lo', e1, hcl⟩ := hN.ln.cells
      obtain ⟨h1, c0, c1⟩ := hcl k (0, (r : Int) + (k : Int)) (by simp [rowsOf, hkR])
      have e2 : la = some ⟨lb', lo', none⟩ := by
        rw [← h1]
        injection e1
      subst e2
      clear hcl e1 h1 hN
      have bA := (Below.refl wr.heap.size wr).alloc (Nat.le_refl _) (.cells #[.int .i64 0, .int .i64 ((r : Int) + (k : Int))] 188)
      have g6 := heap_alloc_new wr (.cells #[.int .i64 0, .int .i64 ((r : Int) + (k : Int))] 188)
      have HN1 := hid (show NeR St r R j base mb B _ k _ from ⟨HK.out _ _ _ [] HN.out.st (Chg.of_below bA) (by simp), HN.out.met.below bA, HN.out.ln.below bA, HN.out.lo⟩)
      obtain ⟨g, hg⟩ : ∃ g, g = wr.heap.size := ⟨_, rfl⟩
      gi_wp2_with fail
      rw [← hg] at g6 ⊢
      clear hg
      generalize World.alloc _ _ = wr1 at g6 HN1 ⊢
      obtain ⟨X1, -, -, i1⟩ := HS.out _ _ HN1.out.st
      have k1 : ∀ m, (wr1.drewN m).cell? ⟨xi, 0, none⟩ = some (.pointer (some ⟨ib, 0, none⟩)) := fun _ => cell_of (i := 0) i1 rfl
      have k2 : ∀ m, (wr1.drewN m).cell? ⟨ib, 0, none⟩ = some (.map (some m1)) := fun _ => cell_of (i := 0) X1.head rfl
      have k3 : ∀ m, (wr1.drewN m).cell? ⟨g, 0, none⟩ = some (.int .i64 0) := fun _ => cell_of (i := 0) g6 rfl
      have k4 : ∀ m, (wr1.drewN m).cell? ⟨g, 1, none⟩ = some (.int .i64 ((r : Int) + (k : Int))) := fun _ => cell_of (i := 1) g6 rfl
      have hlk : ∀ m, (Instr.lookup 110 (.map (some m1)) (.agg #[.int .i64 0, .int .i64 ((r : Int) + (k : Int))]) false).run Tryz.prog (wr1.drewN m) = .ok ((lineM rs j (0, (r : Int) + (k : Int))).getD sliceN) (wr1.drewN m) := fun m =>
        (X1.rows.below (below_drewN (Below.refl _ wr1) m)).look line_keys Tryz.underlying110 (slice_zero _) (0, (r : Int) + (k : Int)) ⟨by unfold I64; omega, by unfold I64; omega⟩
      have HX1 := hid X1
      by_cases hkj : r + k < j
      · obtain ⟨ob, oc, ocs, e3, ho, hocs, -⟩ := X1.one (r + k) hkj
        have e4 : lineM rs j (0, (r : Int) + (k : Int)) = some (.slice (some ⟨ob, 0, none⟩) 1 oc) := by
          have := lineM_at rs hkj
          rw [e3] at this
          rw [← this]
          simp
        rw [e4] at hlk
        simp only [Option.getD_some] at hlk
        have HO := hid (show wr1.cell? ⟨ob, 0, none⟩ = some (.int .i64 ((r + k : Nat) : Int)) from cell_of ho hocs)
        clear X1 i1 g6 e3 ho hocs e4 c0 c1 bA
        gi_quiet (fail)
        have bq := below_drewN (Below.refl wr1.heap.size wr1) nq
        have HN2 := hid (show NeR St r R j base mb B _ k (wr1.drewN nq) from ⟨HK.out _ _ _ [] HN1.out.st (Chg.of_below bq) (by simp), HN1.out.met.below bq, HN1.out.ln.below bq, HN1.out.lo⟩)
        have c5 : (wr1.drewN nq).cell? ⟨ob, 0, none⟩ = some (.int .i64 ((r + k : Nat) : Int)) := HO.out
        clear bq k1 k2 k3 k4 hlk HN1 HX1 HO
        generalize World.drewN wr1 nq = wn at HN2 c5 ⊢
        have hno : ((r + k : Nat) : Int) ∉ idsOf r k j := fun hm => by have := idsOf_lt hm; omega
        have hmk := HN2.out.met.look int_keys Tryz.underlying256 (bool_zero' wn) ((r + k : Nat) : Int) ⟨by omega, by omega⟩
        simp only [metM, if_neg hno, Option.getD_none, intV] at hmk
        obtain ⟨wn', hput, hfin, hgr⟩ := HN2.out.met.put int_keys Tryz.underlying256 (by omega) ((r + k : Nat) : Int) ⟨by omega, by omega⟩ (.bool true)
        simp only [intV] at hput
        have cm : Chg [mb] wn wn' := (Chg.refl _ wn).grown hgr (fun x hx => .inl (by simpa using hx.symm))
        have hmap : ∃ es c, wn.heap[mb]? = some (.map es c) := by
          obtain ⟨D, ⟨es, clock, he, -⟩, -⟩ := HN2.out.met
          exact ⟨es, clock, he⟩
        have HST := hid (HK.out _ _ _ [mb] HN2.out.st cm (fun x hx => by
          simp only [List.mem_singleton] at hx
          subst hx
          exact ⟨HN2.out.lo, hmap⟩))
        have HM3 := hid (hfin (metM (idsOf r (k + 1) j)) (by rw [idsOf_yes hkj]; exact metM_last _ _) (fun q hq => by rw [idsOf_yes hkj]; exact metM_snoc _ hq))
        have HL3 := hid (show LinesOwn wn' B (.slice (some ⟨lb', lo', none⟩) R lc) (rowsOf (r : Int) R) from HN2.out.ln.maps cm (fun x hx => by
          simp only [List.mem_singleton] at hx
          subst hx
          exact hmap))
        obtain ⟨X3, -, -, i3⟩ := HS.out _ _ HST.out
        have d1 := cell_of (i := 0) i3 rfl
        have d2 := cell_of (i := 1) X3.head rfl
        have hla := X3.areas.look int_keys Tryz.underlying113 (area_zero wn') ((r + k : Nat) : Int) ⟨by omega, by omega⟩
        rw [areaM_at hkj] at hla
        simp only [Option.getD_some, intV] at hla
        obtain ⟨fn, tmps, assign, body, hy, hR⟩ := HY.out k wn' hkR hkj HST.out
        have HR := hid hR
        have HLO := hid HN2.out.lo
        have hcast : ((r + k : Nat) : Int) = (r : Int) + (k : Int) := by simp
        rw [hcast] at hmk hput hla hy c5
        clear hno hfin hgr cm hmap X3 i3 hR HN2
        gi_wp2_with fail
        refine wpIn_loop_rounds 2 ?_
        rw [roundsIn_succ]
        gi_wp2_with fail
        refine HR.out.mono ?_
        rintro e W2 ⟨rfl, hst2, F, hF, hO⟩
        have HN4 := hid (show NeR St r R j base mb B (.slice (some ⟨lb', lo', none⟩) R lc) (k + 1) W2 from ⟨hst2, (HM3.out.other hF hO).of_eq (by omega) (fun _ => rfl), HL3.out.other hF hO, HLO.out⟩)
        clear hst2 hF hO HST HM3 HL3 hmk hput hla hy d1 d2 c5
        gi_wp2_with fail
        rw [roundsIn_succ]
        gi_wp2_with fail
        exact ⟨⟨k + 1, by simp, hkR, HN4.out⟩, by simp [intOf]; omega⟩
      · rw [show lineM rs j (0, (r : Int) + (k : Int)) = none from lineM_no rs j (by omega)] at hlk
        simp only [Option.getD_none] at hlk
        clear X1 i1 g6 c0 c1 bA
        gi_quiet (fail)
        have bq := below_drewN (Below.refl wr1.heap.size wr1) nq
        have HN4 := hid (show NeR St r R j base mb B _ (k + 1) (wr1.drewN nq) from ⟨idsOf_no hkj ▸ HK.out _ _ _ [] HN1.out.st (Chg.of_below bq) (by simp), (HN1.out.met.below bq).of_eq (by omega) (fun _ => by rw [idsOf_no hkj]), HN1.out.ln.below bq, HN1.out.lo⟩)
        clear bq k1 k2 k3 k4 hlk HN1 HX1
        gi_wp2_with fail
        refine wpIn_loop_rounds 1 ?_
        rw [roundsIn_succ]
        gi_wp2_with fail
        exact ⟨⟨k + 1, by simp, hkR, HN4.out⟩, by simp [intOf]; omega⟩
    · obtain rfl : k = R := by omega
      clear hN hkR hk
      gi_wp2_with fail
      simp only [Exit.noGoto]
      go_end0
      exact ⟨⟨_, rfl⟩, HN.out.st⟩
end Go.Proofs.YtpcjfgihglfdgaaGreatDoor

namespace Go.Proofs.YtpcjfgihglfdgaaGreatDoor
open Go.RowKit Go.Lib

set_option maxRecDepth 20000 in
set_option maxHeartbeats 400000 in
theorem nan_no (x : Int) (w : World) : Calls Tryz.prog 133 #[.int .i64 x] w fun e w' => e = .returned (.bool false) ∧ w' = w := by
  go_enter Tryz.func133, Tryz.ntmps133
  go_wp2_with fail
  go_ret
  exact ⟨ret_bool (by simp), rfl⟩
set_option maxRecDepth 20000 in
set_option maxHeartbeats 400000 in
theorem less_not (x y : Int) (h : ¬ x < y) (w : World) : Calls Tryz.prog 109 #[.int .i64 x, .int .i64 y] w fun e w' => e = .returned (.bool false) ∧ w' = w := by
  have ht : (x < y) = False := by rw [eq_iff_iff, iff_false]; exact h
  clear h
  go_enter Tryz.func109, Tryz.ntmps109
  go_wp2_with fail
  refine (nan_no x w).mono ?_
  rintro e w1 ⟨rfl, rfl⟩
  go_wp2_with fail
  go_ret
  exact ⟨ret_bool (by simp), rfl⟩
set_option maxRecDepth 100000 in
set_option maxHeartbeats 1000000 in
theorem len64_few (n : Nat) (hn : n = 0 ∨ n = 1 ∨ n = 2) (w : World) : Calls Tryz.prog 113 #[.int .u64 (n : Int)] w fun e w' => (∃ c, e = .returned (.int .i64 c)) ∧ w' = w := by
  rcases hn with rfl | rfl | rfl
  all_goals
    go_enter Tryz.func113, Tryz.ntmps113
    go_wp2_with fail
    go_ret
    exact ⟨⟨_, rfl⟩, rfl⟩
set_option maxRecDepth 20000 in
set_option maxHeartbeats 400000 in
theorem len_few (n : Nat) (hn : n = 0 ∨ n = 1 ∨ n = 2) (w : World) : Calls Tryz.prog 58 #[.int .u64 (n : Int)] w fun e w' => (∃ c, e = .returned (.int .i64 c)) ∧ w' = w := by
  have H := hid (len64_few n hn)
  clear hn
  go_enter Tryz.func58, Tryz.ntmps58
  go_wp2_with fail
  refine (H.out _).mono ?_
  rintro e w1 ⟨⟨c, rfl⟩, rfl⟩
  go_wp2_with fail
  go_ret
  exact ⟨⟨_, rfl⟩, rfl⟩
/-- a slice of two ints at most, in order -/
def FewV (w : World) (v : Value) (n : Nat) : Prop := ∃ ao c, v = .slice ao n c ∧ (n = 0 ∨ n = 1 ∨ n = 2) ∧ (n = 2 → ∃ b off x y, ao = some ⟨b, off, none⟩ ∧ w.cell? ⟨b, off, none⟩ = some (.int .i64 x) ∧ w.cell? ⟨b, off + 1, none⟩ = some (.int .i64 y) ∧ x < y)
def Quiet (w w' : World) : Prop := ∃ m, w' = w.drewN m
set_option maxRecDepth 20000 in
set_option maxHeartbeats 1000000 in
theorem insertion_few {w : World} {v : Value} {n : Nat} (h : FewV w v n) : Calls Tryz.prog 103 #[v, .int .i64 0, .int .i64 (n : Int)] w fun e w' => (∃ v, e = .returned v) ∧ Quiet w w' := by
  obtain ⟨ao, c, rfl, hn, hc⟩ := h
  rcases hn with rfl | rfl | rfl
  · clear hc
    go_enter Tryz.func103, Tryz.ntmps103
    go_wp2_with fail
    refine wp_loop_rounds 1 ?_
    rw [rounds_succ]
    go_wp2_with fail
    go_end0
    exact ⟨⟨_, rfl⟩, 0, rfl⟩
  · clear hc
    go_enter Tryz.func103, Tryz.ntmps103
    go_wp2_with fail
    refine wp_loop_rounds 1 ?_
    rw [rounds_succ]
    go_wp2_with fail
    go_end0
    exact ⟨⟨_, rfl⟩, 0, rfl⟩
  · obtain ⟨b, off, x, y, rfl, c0, c1, hxy⟩ := hc rfl
    have HL := hid (fun w => less_not y x (by omega) w)
    have k0 : ∀ m, (w.drewN m).cell? ⟨b, off, none⟩ = some (.int .i64 x) := fun _ => c0
    have k1 : ∀ m, (w.drewN m).cell? ⟨b, off + 1, none⟩ = some (.int .i64 y) := fun _ => c1
    clear hxy hc
    go_enter Tryz.func103, Tryz.ntmps103
    go_wp2_with fail
    refine wp_loop_rounds 2 ?_
    rw [rounds_succ]
    go_wp2_with fail
    refine wp_loop_rounds 1 ?_
    rw [rounds_succ]
    go_wp2_with fail
    go_quiet (first | (go_at_call 109; refine Calls.quiet_of_same (HL.out _)))
    go_wp2_with fail
    rw [rounds_succ]
    go_wp2_with fail
    go_end0
    exact ⟨⟨_, rfl⟩, _, rfl⟩
set_option maxRecDepth 20000 in
set_option maxHeartbeats 1000000 in
theorem pdq_few {w : World} {v : Value} {n : Nat} (h : FewV w v n) (l : Int) : Calls Tryz.prog 57 #[v, .int .i64 0, .int .i64 (n : Int), .int .i64 l] w fun e w' => (∃ v, e = .returned v) ∧ Quiet w w' := by
  have H := hid (insertion_few h)
  obtain ⟨ao, c, rfl, hn, -⟩ := h
  have hn2 : n ≤ 2 := by omega
  clear hn
  go_enter Tryz.func57, Tryz.ntmps57
  go_wp2_with fail
  refine wp_loop_rounds 1 ?_
  rw [rounds_succ]
  go_wp2_with fail
  refine H.out.mono ?_
  rintro e w1 ⟨⟨u, rfl⟩, m, rfl⟩
  go_wp2_with fail
  refine bodyPost_ret (results_none rfl _ _ _) rfl ?_
  exact ⟨⟨_, rfl⟩, m, rfl⟩
set_option maxRecDepth 20000 in
set_option maxHeartbeats 1000000 in
theorem sort_few {w : World} {v : Value} {n : Nat} (h : FewV w v n) : Calls Tryz.prog 19 #[v] w fun e w' => (∃ v, e = .returned v) ∧ Quiet w w' := by
  have H := hid (pdq_few h)
  obtain ⟨ao, c, rfl, hn, -⟩ := h
  have hn2 : n ≤ 2 := by omega
  have HL := hid (fun w => len_few n hn w)
  clear hn
  go_enter Tryz.func19, Tryz.ntmps19
  go_wp2_with fail
  refine (HL.out _).mono ?_
  rintro e w1 ⟨⟨l, rfl⟩, rfl⟩
  go_wp2_with fail
  refine (H.out l).mono ?_
  rintro e w1 ⟨⟨u, rfl⟩, m, rfl⟩
  go_wp2_with fail
  go_end0
  exact ⟨⟨_, rfl⟩, m, rfl⟩
set_option maxRecDepth 20000 in
set_option maxHeartbeats 1000000 in
theorem compact_few {w : World} {v : Value} {n : Nat} (h : FewV w v n) : Calls Tryz.prog 20 #[v] w fun e w' => e = .returned v ∧ Quiet w w' := by
  obtain ⟨ao, c, rfl, hn, hc⟩ := h
  by_cases h2 : n = 2
  · subst h2
    obtain ⟨b, off, x, y, rfl, c0, c1, hxy⟩ := hc rfl
    have k0 : ∀ m, (w.drewN m).cell? ⟨b, off, none⟩ = some (.int .i64 x) := fun _ => c0
    have k1 : ∀ m, (w.drewN m).cell? ⟨b, off + 1, none⟩ = some (.int .i64 y) := fun _ => c1
    have hne : ¬ y = x := by omega
    clear hxy hc hn
    go_enter Tryz.func20, Tryz.ntmps20
    go_wp2_with fail
    refine wp_loop_rounds 2 ?_
    rw [rounds_succ]
    go_wp2_with fail
    go_quiet (fail)
    go_wp2_with fail
    rw [rounds_succ]
    go_wp2_with fail
    go_ret
    exact ⟨rfl, _, rfl⟩
  · have hlt : n < 2 := by omega
    clear hc hn h2
    go_enter Tryz.func20, Tryz.ntmps20
    go_wp2_with fail
    go_ret
    exact ⟨rfl, 0, rfl⟩
end Go.Proofs.YtpcjfgihglfdgaaGreatDoor

namespace Go.Proofs.YtpcjfgihglfdgaaGreatDoor
open Go.RowKit Go.Lib Go.Maps
attribute [local go_sem] Oper.semAt_some wide_fn

abbrev arCs (r R : Int) : Array Value := #[.int .i64 0, .int .i64 r, .int .i64 0, .int .i64 R, .int .i64 1]
set_option maxHeartbeats 400000 in
theorem near_any (ib : Nat) (r R : Int) (w : World) : Calls Tryz.prog 102 #[.pointer (some ⟨ib, 0, none⟩), arV r R] w fun e w' =>
    e = .returned (.func (.func 159) #[] #[.pointer (some ⟨w.heap.size + 1, 0, none⟩), .pointer (some ⟨w.heap.size, 0, none⟩)]) ∧
      w' = (w.alloc (.cells #[.pointer (some ⟨ib, 0, none⟩)] 55)).alloc (.cells (arCs r R) 62) := by
  go_enter Tryz.func102, Tryz.ntmps102
  go_wp2_with fail
  go_ret
  exact ⟨rfl, rfl⟩
set_option maxRecDepth 20000 in
set_option maxHeartbeats 1000000 in
theorem meets1_yes {w : World} {xb : Nat} {r R i : Int} (hb : w.heap[xb]? = some (.cells (arCs r R) 62 (0, 0))) (h : ArOk r R) (hi : r ≤ i ∧ i < r + R) :
    Calls Tryz.prog 56 #[arV i 1, .pointer (some ⟨xb, 0, none⟩)] w fun e w' => e = .returned (.bool true) ∧ Below w.heap.size w w' := by
  have hm : meetP ((0, r, 0), R, 1) ((0, i, 0), 1, 1) := by
    unfold ArOk at h
    refine ⟨⟨?_, ?_, ?_, ?_, ?_, ?_, ?_, ?_, ?_, ?_⟩, ⟨?_, ?_, ?_, ?_, ?_, ?_, ?_, ?_, ?_, ?_⟩, rfl, ?_, ?_⟩ <;> dsimp only <;> omega
  have HM := hid (fun w => show Calls Tryz.prog 15 #[arV r R, arV i 1] w fun e w' => (∃ v, e = .returned (.tuple #[spV v, .bool true])) ∧ Below w.heap.size w w' from by
    have := meet_any ((0, r, 0), R, 1) ((0, i, 0), 1, 1) w
    rw [decide_eq_true hm] at this
    exact this)
  have ba := (Below.refl w.heap.size w).alloc (Nat.le_refl _) (.cells (arCs i 1) 62)
  have hb0 := (ba.block _ (heap_lt hb)).trans hb
  have c0 := cell_of (i := 0) hb0 rfl
  have c1 := cell_of (i := 1) hb0 rfl
  have c2 := cell_of (i := 2) hb0 rfl
  have c3 := cell_of (i := 3) hb0 rfl
  have c4 := cell_of (i := 4) hb0 rfl
  have BA := hid ba
  clear hm hb hb0 ba h hi
  go_enter Tryz.func56, Tryz.ntmps56
  go_wp2_with fail
  refine (HM.out _).mono ?_
  rintro e w1 ⟨⟨⟨⟨p1, p2, p3⟩, p4, p5⟩, rfl⟩, b1⟩
  unfold spV
  have BB := hid (BA.out.trans (b1.mono BA.out.size))
  clear b1 BA c0 c1 c2 c3 c4
  go_wp2_with fail
  go_ret
  exact ⟨rfl, BB.out.alloc BB.out.size _⟩

/-- what holds between two rounds of those: w0: as the call began; n: its heap's end -/
structure Ts (w0 : World) (n ib m1 m2 L j : Nat) (rs : Nat → Value) (r R : Int) (xb : Nat) (rec : Loop) (pre : List Int) (W : World) (v : Value) : Prop where
  ix : Ix W ib m1 m2 L j rs
  low : Below n w0 W
  fb : W.heap[n + 1]? = some (.cells #[.func (.func 56) #[] #[.pointer (some ⟨xb, 0, none⟩)]] 129 (0, 0))
  out : W.heap[n + 1 + 1]? = some (.cells #[v] 42 (0, 0))
  xi : W.heap[n + 1 + 1 + 1]? = some (.cells #[.pointer (some ⟨ib, 0, none⟩)] 55 (0, 0))
  xa : W.heap[n + 1 + 1 + 1 + 1]? = some (.cells (arCs r R) 62 (0, 0))
  df : W.heap[n + 5]? = some (.deferred (some []))
  lp : W.heap[n + 6]? = some (.loop rec)
  own : IntOwn W (n + 7) v pre
def TsI (w0 : World) (n ib m1 m2 L j : Nat) (rs : Nat → Value) (r R : Int) (xb : Nat) (rec : Loop) (pre : List Int) (W : World) : Prop := ∃ v, Ts w0 n ib m1 m2 L j rs r R xb rec pre W v
section
variable {w0 W W' : World} {n ib m1 m2 L j xb : Nat} {rs : Nat → Value} {r R : Int} {rec rec' : Loop} {pre : List Int} {v : Value}
theorem int_cells_of {w : World} {B g : Nat} {v : Value} {l : List Int} (h : IntOwn w B v l) (hg : v.ownBlock = some g) : ∃ cs, w.heap[g]? = some (.cells cs 3 (0, 0)) := by
  rcases h.2 with ⟨rfl, -⟩ | ⟨g', cap, cur, rfl, -, hh, -⟩
  · cases hg
  · simp only [Value.ownBlock, Option.some.injEq] at hg
    subst hg
    exact ⟨_, hh⟩
theorem Ts.chg {F : List Nat} (h : Ts w0 n ib m1 m2 L j rs r R xb rec pre W v) (hL : L ≤ n) (hc : Chg F W W') (hF : ∀ x ∈ F, n + 7 ≤ x ∧ v.ownBlock ≠ some x) : Ts w0 n ib m1 m2 L j rs r R xb rec pre W' v := by
  have hn : ∀ x, x < n + 7 → x ∉ F := fun x hx hm => by have := (hF x hm).1; omega
  have hs := heap_lt h.lp
  have hl := h.low.trans (hc.below (B := n) (fun x hx => by have := (hF x hx).1; omega) (by omega))
  have hb : Below L W W' := hc.below (fun x hx => by have := (hF x hx).1; omega) (by omega)
  exact ⟨h.ix.below hb, hl, hc.heap h.fb (hn _ (by omega)), hc.heap h.out (hn _ (by omega)), hc.heap h.xi (hn _ (by omega)), hc.heap h.xa (hn _ (by omega)), hc.heap h.df (hn _ (by omega)), hc.heap h.lp (hn _ (by omega)),
    h.own.chg hc (fun g hg hm => (hF g hm).2 hg)⟩
theorem Ts.below (h : Ts w0 n ib m1 m2 L j rs r R xb rec pre W v) (hL : L ≤ n) (hb : Below W.heap.size W W') : Ts w0 n ib m1 m2 L j rs r R xb rec pre W' v := h.chg (F := []) hL (Chg.of_below hb) (by simp)
theorem Ts.maps {F : List Nat} (h : Ts w0 n ib m1 m2 L j rs r R xb rec pre W v) (hL : L ≤ n) (hc : Chg F W W') (hF : ∀ x ∈ F, n + 7 ≤ x ∧ ∃ es c, W.heap[x]? = some (.map es c)) : Ts w0 n ib m1 m2 L j rs r R xb rec pre W' v :=
  h.chg hL hc (fun x hx => ⟨(hF x hx).1, fun hv => by
    obtain ⟨cs, hcs⟩ := int_cells_of h.own hv
    obtain ⟨es, c, he⟩ := (hF x hx).2
    rw [hcs] at he
    cases he⟩)
theorem put_chg (w : World) (l : Nat) (o : Obj) : Chg [l] w (w.putObj l o) := ⟨rfl, rfl, rfl, by simp, fun k _ hn => World.putObj_heap_other (by simpa using hn)⟩
theorem Ts.put (h : Ts w0 n ib m1 m2 L j rs r R xb rec pre W v) (hL : L ≤ n) (rec' : Loop) : Ts w0 n ib m1 m2 L j rs r R xb rec' pre (W.putObj (n + 6) (.loop rec')) v := by
  have hc := put_chg W (n + 6) (.loop rec')
  have hn : ∀ x, x ≠ n + 6 → x ∉ [n + 6] := fun x hx => by simpa using hx
  have hs := heap_lt h.lp
  have hl := h.low.trans (hc.below (B := n) (by simp) (by omega))
  have hb : Below L W (W.putObj (n + 6) (.loop rec')) := hc.below (by simp; omega) (by omega)
  exact ⟨h.ix.below hb, hl, hc.heap h.fb (hn _ (by omega)), hc.heap h.out (hn _ (by omega)), hc.heap h.xi (hn _ (by omega)), hc.heap h.xa (hn _ (by omega)), hc.heap h.df (hn _ (by omega)), World.putObj_heap_same hs,
    h.own.chg hc (fun g hg hm => by
      simp only [List.mem_singleton] at hm
      subst hm
      obtain ⟨cs, hcs⟩ := int_cells_of h.own hg
      rw [h.lp] at hcs
      cases hcs)⟩
/-- behind append and the store -/
theorem Ts.app {w4 : World} {v' : Value} {i : Int} (h : Ts w0 n ib m1 m2 L j rs r R xb rec pre W v) (hL : L ≤ n) (hc : Chg (Go.Proofs.YtpcjfgihglfdgaaGreatDoor.own v) W w4) (ho : IntOwn w4 (n + 7) v' (pre ++ [i])) : Ts w0 n ib m1 m2 L j rs r R xb rec (pre ++ [i]) (w4.setCell ⟨n + 1 + 1, 0, none⟩ v') v' := by
  have hlow := h.own.low
  have hn : ∀ x, x < n + 7 → x ∉ Go.Proofs.YtpcjfgihglfdgaaGreatDoor.own v := fun x hx hm => by
    simp only [Go.Proofs.YtpcjfgihglfdgaaGreatDoor.own, Option.mem_toList] at hm
    have := (hlow x hm).1
    omega
  have hs := heap_lt h.lp
  have c2 := (Chg.refl [n + 1 + 1] w4).setCell (p := ⟨n + 1 + 1, 0, none⟩) (.inl (by simp)) v'
  have hsz := hc.size
  have hov : ∀ x ∈ Go.Proofs.YtpcjfgihglfdgaaGreatDoor.own v, n ≤ x := fun x hm => by
    simp only [Go.Proofs.YtpcjfgihglfdgaaGreatDoor.own, Option.mem_toList] at hm
    have := (hlow x hm).1
    omega
  have hl := (h.low.trans (hc.below (B := n) hov (by omega))).trans (c2.below (B := n) (by simp; omega) (by omega))
  have hb : Below L W (w4.setCell ⟨n + 1 + 1, 0, none⟩ v') := (hc.below (fun x hx => Nat.le_trans hL (hov x hx)) (by omega)).trans (c2.below (by simp; omega) (by omega))
  have far : ∀ {x : Nat} {o : Obj}, W.heap[x]? = some o → x < n + 7 → x ≠ n + 1 + 1 → (w4.setCell ⟨n + 1 + 1, 0, none⟩ v').heap[x]? = some o := fun {x o} hx h1 h2 => heap_setCell_far (hc.heap hx (hn x h1)) h2 v'
  refine ⟨h.ix.below hb, hl, far h.fb (by omega) (by omega), ?_, far h.xi (by omega) (by omega), far h.xa (by omega) (by omega), far h.df (by omega) (by omega), far h.lp (by omega) (by omega), ?_⟩
  · have := heap_setCell_at (i := 0) (hc.heap h.out (hn _ (by omega))) v'
    simpa using this
  · exact ho.chg c2 (fun g hg => by
      have := (ho.low g hg).1
      simp
      omega)
end
end Go.Proofs.YtpcjfgihglfdgaaGreatDoor
