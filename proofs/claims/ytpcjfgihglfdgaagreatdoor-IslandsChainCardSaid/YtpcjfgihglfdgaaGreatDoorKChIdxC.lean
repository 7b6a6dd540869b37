/- An index in memory; contracts of told, check and Put. Condition: what the package-level variables hold lies as it was laid. General: a region that draws its order, within a round of a range over a function, out of the plain law; a range over a function whose rounds all go on. -/
import Derived.Test.YtpcjfgihglfdgaaGreatDoorKChIdxO
import Derived.Test.YtpcjfgihglfdgaaGreatDoorKSpSmallA
import Derived.Test.YtpcjfgihglfdgaaGreatDoorKChNodesE
import Derived.RangeFuncNested
import Derived.RangeFuncBound
import Derived.RangeFuncCalls
import Derived.RangeFuncLeaves
import Derived.Deep.RegionHeld3
import Derived.Deep.DrawnRows
import Derived.WalkKit
import Derived.OwnWalkIn
import Derived.TacticsInMore
import Derived.LoopNIn
import Derived.LoopIn
import Derived.Shelf.Abstract
import Derived.Shelf.RegionOpen

namespace Go.Proofs.YtpcjfgihglfdgaaGreatDoor
open Go.RowKit Go.Lib Go.Maps

abbrev arZ : Value := .agg #[.int .i64 0, .int .i64 0, .int .i64 0, .int .i64 0, .int .i64 0]
theorem area_zero (w : World) : (zeroValue 62).run Tryz.prog w = .ok arZ w := by kernel_rfl
abbrev intV (x : Int) : Value := .int .i64 x
/-- which numbers stand at a line, and a number's area -/
def lineM (rs : Nat → Value) (j : Nat) : Int × Int → Option Value := fun p => if p.1 = 0 ∧ 0 ≤ p.2 ∧ p.2 < (j : Int) then some (rs p.2.toNat) else none
def areaM (j : Nat) : Int → Option Value := fun i => if 0 ≤ i ∧ i < (j : Int) then some (arV i 1) else none
theorem lineM_at (rs : Nat → Value) {j r : Nat} (h : r < j) : lineM rs j (0, (r : Int)) = some (rs r) := by simp [lineM, h]
theorem lineM_no (rs : Nat → Value) (j : Nat) {r : Int} (h : (j : Int) ≤ r) : lineM rs j (0, r) = none := by simp [lineM]; omega
theorem areaM_at {j r : Nat} (h : r < j) : areaM j (r : Int) = some (arV r 1) := by simp [areaM, h]
theorem areaM_no (j : Nat) {r : Int} (h : (j : Int) ≤ r) : areaM j r = none := by simp [areaM]; omega
theorem cells_ne_map {w : World} {k : TypeId} {z : Value} {κ : Type} {kv : κ → Value} {b n x : Nat} {M : κ → Option Value} {cs : Array Value} {t : TypeId} {fr : Nat × Nat} (h : MapV w k z kv b n M) (hx : w.heap[x]? = some (.cells cs t fr)) : x ≠ b := by
  rintro rfl
  obtain ⟨D, ⟨es, clock, hb, -⟩, -⟩ := h
  rw [hx] at hb
  cases hb
/-- the index holds the numbers 0 .. j - 1, each with one cell of the first column; what it holds lies ahead of L -/
structure Ix (w : World) (ib m1 m2 L j : Nat) (rs : Nat → Value) : Prop where
  head : w.heap[ib]? = some (.cells #[.map (some m1), .map (some m2)] 115 (0, 0))
  rows : MapV w 188 sliceN lineV m1 j (lineM rs j)
  areas : MapV w 3 arZ intV m2 j (areaM j)
  one : ∀ r, r < j → ∃ b c cs, rs r = .slice (some ⟨b, 0, none⟩) 1 c ∧ w.heap[b]? = some (.cells cs 3 (0, 0)) ∧ cs[0]? = some (.int .i64 (r : Int)) ∧ b < L
  ib' : ib < L
  m1' : m1 < L
  m2' : m2 < L
  ne : m1 ≠ m2
  size : L ≤ w.heap.size
theorem Ix.below {w w' : World} {ib m1 m2 L j : Nat} {rs : Nat → Value} (h : Ix w ib m1 m2 L j rs) (hb : Below L w w') : Ix w' ib m1 m2 L j rs where
  head := (hb.block _ h.ib').trans h.head
  rows := h.rows.of_heap (hb.block _ h.m1')
  areas := h.areas.of_heap (hb.block _ h.m2')
  one r hr := by
    obtain ⟨b, c, cs, h1, h2, h3, h4⟩ := h.one r hr
    exact ⟨b, c, cs, h1, (hb.block _ h4).trans h2, h3, h4⟩
  ib' := h.ib'
  m1' := h.m1'
  m2' := h.m2'
  ne := h.ne
  size := Nat.le_trans h.size hb.size
theorem Ix.keep {w w' : World} {ib m1 m2 L j : Nat} {rs : Nat → Value} (h : Ix w ib m1 m2 L j rs) (hb : Below w.heap.size w w') : Ix w' ib m1 m2 L j rs :=
  h.below ⟨hb.os, hb.tape, hb.output, hb.size, fun k hk => hb.block k (Nat.lt_of_lt_of_le hk h.size)⟩
theorem Ix.mono {w : World} {ib m1 m2 L L' j : Nat} {rs : Nat → Value} (h : Ix w ib m1 m2 L j rs) (hL : L ≤ L') (hs : L' ≤ w.heap.size) : Ix w ib m1 m2 L' j rs :=
  ⟨h.head, h.rows, h.areas, fun r hr => by obtain ⟨b, c, cs, h1, h2, h3, h4⟩ := h.one r hr; exact ⟨b, c, cs, h1, h2, h3, by omega⟩, Nat.lt_of_lt_of_le h.ib' hL, Nat.lt_of_lt_of_le h.m1' hL, Nat.lt_of_lt_of_le h.m2' hL, h.ne, hs⟩
theorem Ix.made (w : World) : Ix (((w.alloc (.map #[] 0)).alloc (.map #[] 0)).alloc (.cells #[.map (some w.heap.size), .map (some (w.heap.size + 1))] 115)) (w.heap.size + 1 + 1) w.heap.size (w.heap.size + 1) (w.heap.size + 1 + 1 + 1) 0 (fun _ => sliceN) where
  head := by have := heap_alloc_new ((w.alloc (.map #[] 0)).alloc (.map #[] 0)) (.cells #[.map (some w.heap.size), .map (some (w.heap.size + 1))] 115); simpa using this
  rows := ((((MapV.made w 188 sliceN lineV).below ((Below.refl _ _).alloc (Nat.le_refl _) _)).below ((Below.refl _ _).alloc (Nat.le_refl _) _)).of_eq (Nat.le_refl _) (fun p => by simp [lineM] <;> omega))
  areas := by
    have := (MapV.made (w.alloc (.map #[] 0)) 3 arZ intV).below ((Below.refl _ _).alloc (Nat.le_refl _) (.cells #[.map (some w.heap.size), .map (some (w.heap.size + 1))] 115))
    rw [World.size_alloc] at this
    exact this.of_eq (Nat.le_refl _) (fun p => by simp [areaM] <;> omega)
  one r hr := absurd hr (Nat.not_lt_zero _)
  ib' := by omega
  m1' := by omega
  m2' := by omega
  ne := by omega
  size := by simp

set_option maxRecDepth 20000 in
set_option maxHeartbeats 400000 in
theorem is_nil (t : TypeId) (v : Value) (w : World) : Calls Tryz.prog 99 #[.nilIface, .iface t v] w fun e w' => e = .returned (.bool false) ∧ w' = w := by
  have HQ : ∀ z : World, (binOp BinOp.eql 123 .nilIface (.iface t v)).run Tryz.prog z = .ok (.bool false) z := fun z => by kernel_rfl
  go_enter Tryz.func99, Tryz.ntmps99
  go_wp2_with fail
  go_ret
  exact ⟨rfl, rfl⟩
set_option maxRecDepth 20000 in
set_option maxHeartbeats 400000 in
theorem told_nil (w : World) (hE : Env w) : Calls Tryz.prog 49 #[.nilIface] w fun e w' => e = .returned (.int .i64 0) ∧ w' = w := by
  obtain ⟨t1, v1, h1⟩ := hE.errArg
  obtain ⟨t2, v2, h2⟩ := hE.errHas
  clear hE
  go_enter Tryz.func49, Tryz.ntmps49
  go_wp2_with fail
  refine (is_nil t1 v1 w).mono ?_
  rintro e w1 ⟨rfl, rfl⟩
  go_wp2_with fail
  refine (is_nil t2 v2 _).mono ?_
  rintro e w1 ⟨rfl, rfl⟩
  go_wp2_with fail
  go_ret
  exact ⟨rfl, rfl⟩
set_option maxRecDepth 20000 in
set_option maxHeartbeats 1000000 in
theorem check_free {w : World} {ib m1 m2 L j : Nat} {rs : Nat → Value} (X : Ix w ib m1 m2 L j rs) (hj : j < 100) :
    Calls Tryz.prog 46 #[.pointer (some ⟨ib, 0, none⟩), .int .i64 (j : Int), arV (j : Int) 1] w fun e w' => e = .returned .nilIface ∧ Below w.heap.size w w' := by
  have H1 := hid (fun w => isFrom_yes (j : Int) 1 10000 (by omega) (by omega) (by omega) (by omega) (by omega) w)
  have H2 := hid (fun w => isArea_yes (j : Int) 1 ⟨by omega, by omega, by omega⟩ w)
  have ba := (Below.refl w.heap.size w).alloc (Nat.le_refl _) (.cells #[.int .i64 0, .int .i64 (j : Int), .int .i64 0, .int .i64 1, .int .i64 1] 62)
  have X0 := hid (X.keep ba)
  have BA := hid ba
  clear X ba
  go_enter Tryz.func46, Tryz.ntmps46
  go_wp2_with fail
  refine (H1.out _).mono ?_
  rintro e w1 ⟨rfl, rfl⟩
  go_wp2_with fail
  generalize World.alloc _ _ = w0 at X0 BA ⊢
  refine (H2.out _).mono ?_
  rintro e w1 ⟨rfl, b1⟩
  have X1 := X0.out.keep b1
  have c1 := cell_of (i := 1) X1.head rfl
  have hlk := X1.areas.look_ok int_keys Tryz.underlying113 (area_zero _) (j : Int) ⟨by omega, by omega⟩
  rw [areaM_no j (Int.le_refl _)] at hlk
  simp only [Option.getD_none, Option.isSome_none, intV] at hlk
  have BB := hid (BA.out.trans (b1.mono BA.out.size))
  clear X1 b1 X0 BA
  go_wp2_with fail
  go_ret
  exact ⟨rfl, BB.out.alloc BB.out.size _⟩

theorem linesOf_one (r : Int) (hr : 0 ≤ r) (hR : r + 1 ≤ 1000) (w : World) : Calls Tryz.prog 48 #[arV r 1] w fun e w' => ∃ v, e = .returned v ∧ LinesOwn w' (w.heap.size + 1) v [(0, r)] ∧ Below w.heap.size w w' := by
  have := of_any r 1 hr hR w
  have e : rowsOf r 1 = [(0, r)] := by simp [rowsOf]
  rw [e] at this
  exact this
theorem range_fst {w : World} {b : Nat} {u : Value} {cs : List Value} {t : TypeId} (h : w.heap[b]? = some (.cells (u :: cs).toArray t (0, 0))) : w.rangeAt b 0 [u] := fun j v hj => row_at h j v (by
  match j, hj with
  | 0, hj => exact hj)
def PutEnd (w : World) (ib m1 m2 j : Nat) (w' : World) : Prop := ∃ rs', Ix w' ib m1 m2 w'.heap.size (j + 1) rs' ∧ Chg [m1, m2] w w'
theorem lineM_new (rs : Nat → Value) (v : Value) (j : Nat) : (∀ p, p ≠ (0, (j : Int)) → lineM (fun r => if r = j then v else rs r) (j + 1) p = lineM rs j p) ∧ lineM (fun r => if r = j then v else rs r) (j + 1) (0, (j : Int)) = some v := by
  constructor
  · rintro ⟨p1, p2⟩ hp
    have hne : ¬ (p1 = 0 ∧ p2 = (j : Int)) := fun h => hp (by rw [h.1, h.2])
    unfold lineM
    by_cases h : p1 = 0 ∧ 0 ≤ p2 ∧ p2 < (j : Int)
    · have h1 : p2.toNat ≠ j := by omega
      rw [if_pos h, if_pos (by simp; omega)]
      simp [h1]
    · rw [if_neg h, if_neg (by simp; omega)]
  · rw [lineM_at _ (Nat.lt_succ_self j), if_pos rfl]
theorem areaM_new (j : Nat) : (∀ p, p ≠ (j : Int) → areaM (j + 1) p = areaM j p) ∧ areaM (j + 1) (j : Int) = some (arV (j : Int) 1) := by
  constructor
  · intro p hp
    unfold areaM
    by_cases h : 0 ≤ p ∧ p < (j : Int)
    · rw [if_pos h, if_pos (by simp; omega)]
    · rw [if_neg h, if_neg (by simp; omega)]
  · exact areaM_at (Nat.lt_succ_self j)
theorem Ix.put {w w1 w2 w3 w4 : World} {ib m1 m2 L j : Nat} {rs : Nat → Value} (X : Ix w1 ib m1 m2 L j rs) (b1 : Below w.heap.size w w1) (hL : L ≤ w.heap.size) (hg : w1.grownBy w2 (some m2)) (hM : MapV w2 3 arZ intV m2 (j + 1) (areaM (j + 1))) (b3 : Below w2.heap.size w2 w3)
    (hP : PutLs w3 m1 j (lineM rs j) (j : Int) (j : Int) w4) : PutEnd w ib m1 m2 j w4 := by
  obtain ⟨b, c, cs, hc, hb, hbb, hcs, hfin⟩ := hP
  have c12 : Chg [m2] w1 w2 := (Chg.refl _ w1).grown hg (fun k hk => .inl (by simpa using hk.symm))
  have c13 : Chg [m2] w1 w3 := c12.trans (Chg.of_below (F := []) b3) (by simp)
  have c14 : Chg [m1, m2] w1 w4 := (c13.mono (G := [m1, m2]) (by simp)).trans hc (by simp)
  have h1 := hL
  have h2 := b1.size
  have h3 := c12.size
  have h4 := b3.size
  have h5 := hc.size
  have i1 := X.ib'
  have i2 := X.m1'
  have i3 := X.m2'
  have n1 : ib ≠ m1 := by
    rintro rfl
    obtain ⟨D, ⟨es, clock, hb, -⟩, -⟩ := X.rows
    rw [X.head] at hb
    cases hb
  have n2 : ib ≠ m2 := by
    rintro rfl
    obtain ⟨D, ⟨es, clock, hb, -⟩, -⟩ := X.areas
    rw [X.head] at hb
    cases hb
  obtain ⟨q1, q2⟩ := lineM_new rs (.slice (some ⟨b, 0, none⟩) 1 c) j
  have c24 : Chg [m1] w2 w4 := (Chg.of_below (F := [m1]) b3).trans hc (by simp)
  refine ⟨_, ⟨c14.heap X.head (by simp; omega), hfin _ q2 q1, hM.chg c24 (by simp only [List.mem_singleton]; exact fun e => X.ne e.symm), fun r hr => ?_, by omega, by omega, by omega, X.ne, Nat.le_refl _⟩, ?_⟩
  · by_cases e : r = j
    · subst e
      exact ⟨b, c, cs, by simp, hbb, hcs, heap_lt hbb⟩
    · obtain ⟨b', c', cs', a1, a2, a3, a4⟩ := X.one r (by omega)
      refine ⟨b', c', cs', by rw [if_neg e]; exact a1, c14.heap a2 ?_, a3, by omega⟩
      simp only [List.mem_cons, List.not_mem_nil, or_false, not_or]
      constructor
      · rintro rfl
        obtain ⟨D, ⟨es, clock, hb, -⟩, -⟩ := X.rows
        rw [a2] at hb
        cases hb
      · rintro rfl
        obtain ⟨D, ⟨es, clock, hb, -⟩, -⟩ := X.areas
        rw [a2] at hb
        cases hb
  · exact (Chg.of_below (F := [m1, m2]) b1).trans c14 (by simp)

set_option maxRecDepth 20000 in
set_option maxHeartbeats 1000000 in
theorem Put_any {w : World} {ib m1 m2 L j : Nat} {rs : Nat → Value} (X : Ix w ib m1 m2 L j rs) (hE : ∀ z, Chg [m1, m2] w z → Env z) (hj : j < 100) :
    Calls Tryz.prog 14 #[.pointer (some ⟨ib, 0, none⟩), .int .i64 (j : Int), arV (j : Int) 1] w fun e w' => e = .returned (.int .i64 0) ∧ PutEnd w ib m1 m2 j w' := by
  have hsz := X.size
  have ba := (Below.refl w.heap.size w).alloc (Nat.le_refl _) (.cells #[.int .i64 0, .int .i64 (j : Int), .int .i64 0, .int .i64 1, .int .i64 1] 62)
  have g0 := heap_alloc_new w (.cells #[.int .i64 0, .int .i64 (j : Int), .int .i64 0, .int .i64 1, .int .i64 1] 62)
  have X0 := hid (X.keep ba)
  have BA := hid ba
  have HE := hid hE
  have HJ := hid hj
  have HSZ := hid hsz
  obtain ⟨g, hg⟩ : ∃ g, g = w.heap.size := ⟨_, rfl⟩
  clear X ba hE hsz hj
  go_enter Tryz.func14, Tryz.ntmps14
  go_wp2_with fail
  rw [← hg] at g0 ⊢
  have HG := hid hg
  clear hg
  generalize World.alloc _ _ = w0 at X0 BA g0 ⊢
  refine (check_free X0.out HJ.out).mono ?_
  rintro e w1 ⟨rfl, b1⟩
  have X1 := hid (X0.out.keep b1)
  have B1 := hid (BA.out.trans (b1.mono BA.out.size))
  have G1 := hid ((b1.block _ (heap_lt g0)).trans g0)
  clear b1 g0 X0 BA
  go_wp2_with fail
  have w1s : w1.drew.heap = w1.heap := rfl
  obtain ⟨w2, hput, hfin, hgr⟩ := (show MapV w1.drew 3 arZ intV m2 j (areaM j) from X1.out.areas.below (Below.refl _ _).drew).put int_keys Tryz.underlying113 (by have := HJ.out; omega) (j : Int) ⟨by omega, by have := HJ.out; omega⟩ (arV (j : Int) 1)
  have X2 := hid (X1.out.keep (Below.refl _ _).drew)
  have B2 := hid (B1.out.drew)
  have G2 := hid (show w1.drew.heap[g]? = _ from G1.out)
  have HFIN := hid (hfin _ (areaM_new j).2 (areaM_new j).1)
  have HGR := hid hgr
  have Q2 := hid (show w2.heap[ib]? = some (.cells #[.map (some m1), .map (some m2)] 115 (0, 0)) ∧ w2.heap[g]? = some (.cells #[.int .i64 0, .int .i64 (j : Int), .int .i64 0, .int .i64 1, .int .i64 1] 62 (0, 0)) from by
    have hne : ∀ (x : Nat) (cs : Array Value) (t : TypeId), w1.drew.heap[x]? = some (.cells cs t (0, 0)) → x ≠ m2 := by
      rintro x cs t h rfl
      obtain ⟨D, ⟨es, clock, hb, -⟩, -⟩ := X2.out.areas
      rw [h] at hb
      cases hb
    exact ⟨(hgr.block _ (heap_lt X2.out.head) (by simpa using hne _ _ _ X2.out.head)).trans X2.out.head, (hgr.block _ (heap_lt G2.out) (by simpa using hne _ _ _ G2.out)).trans G2.out⟩)
  clear hfin hgr
  simp only [intV] at hput
  refine wp_region_held_drew (S := fun z => z.cell? ⟨ib, 1, none⟩ = some (.map (some m2)) ∧ z.heap[g]? = some (.cells #[.int .i64 0, .int .i64 (j : Int), .int .i64 0, .int .i64 1, .int .i64 1] 62 (0, 0))) (by kernel_rfl) ⟨cell_of (i := 1) X1.out.head rfl, G1.out⟩ (fun hS => ?_)
  refine wpAnyH_take (i := 0) (oi := ⟨some 16, Op.move (Operand.tmp 0), 55, "index.go:96", #[], none⟩) (v := ?_) rfl (by kernel_rfl) (by kernel_rfl) (by kernel_rfl) (fun _ _ _ h => h) (Or.inl ⟨by rfl, ?_⟩) hS ?_
  rotate_left 1
  · rintro wx ⟨s0, s1⟩
    (go_simp <;> (try with_reducible rfl))
  try simp only [Act.put, List.setIfInBounds_toArray, List.set_cons_zero, List.set_cons_succ]
  refine wpAnyH_take (i := 1) (oi := ⟨some 17, Op.nilCheck (Operand.tmp 16), 0, "index.go:96", #[⟨0, .data⟩], none⟩) (v := ?_) rfl (by kernel_rfl) (by kernel_rfl) (by kernel_rfl) (fun _ _ _ h => h) (Or.inl ⟨by rfl, ?_⟩) hS ?_
  rotate_left 1
  · rintro wx ⟨s0, s1⟩
    (go_simp <;> (try with_reducible rfl))
  try simp only [Act.put, List.setIfInBounds_toArray, List.set_cons_zero, List.set_cons_succ]
  refine wpAnyH_take (i := 2) (oi := ⟨some 18, Op.fieldAddr 115 (Operand.tmp 17) 1, 0, "index.go:96", #[⟨1, .data⟩], none⟩) (v := ?_) rfl (by kernel_rfl) (by kernel_rfl) (by kernel_rfl) (fun _ _ _ h => h) (Or.inl ⟨by rfl, ?_⟩) hS ?_
  rotate_left 1
  · rintro wx ⟨s0, s1⟩
    (go_simp <;> (try with_reducible rfl))
  try simp only [Act.put, List.setIfInBounds_toArray, List.set_cons_zero, List.set_cons_succ]
  refine wpAnyH_take (i := 3) (oi := ⟨some 19, Op.load 113 (Operand.tmp 18), 113, "index.go:96", #[⟨2, .data⟩], none⟩) (v := ?_) rfl (by kernel_rfl) (by kernel_rfl) (by kernel_rfl) (fun _ _ _ h => h) (Or.inl ⟨by rfl, ?_⟩) hS ?_
  rotate_left 1
  · rintro wx ⟨s0, s1⟩
    (go_simp <;> (try with_reducible rfl))
  try simp only [Act.put, List.setIfInBounds_toArray, List.set_cons_zero, List.set_cons_succ]
  refine wpAnyH_take (i := 4) (oi := ⟨some 20, Op.move (Operand.tmp 1), 3, "index.go:96", #[], none⟩) (v := ?_) rfl (by kernel_rfl) (by kernel_rfl) (by kernel_rfl) (fun _ _ _ h => h) (Or.inl ⟨by rfl, ?_⟩) hS ?_
  rotate_left 1
  · rintro wx ⟨s0, s1⟩
    (go_simp <;> (try with_reducible rfl))
  try simp only [Act.put, List.setIfInBounds_toArray, List.set_cons_zero, List.set_cons_succ]
  refine wpAnyH_take (i := 5) (oi := ⟨some 21, Op.load 62 (Operand.tmp 5), 62, "index.go:96", #[], none⟩) rfl (by kernel_rfl) (by kernel_rfl) (by kernel_rfl) (fun _ _ _ h => h) (yieldsIf_load_mid (by rfl) 62 _ rfl g 0 rfl [.int .i64 0, .int .i64 (j : Int), .int .i64 0, .int .i64 1, .int .i64 1] _ ?_ Tryz.underlying62 rfl (show _ = some 5 from by kernel_rfl)) hS ?_
  · exact fun _ hw => row_at hw.2
  try simp only [Act.put, List.setIfInBounds_toArray, List.set_cons_zero, List.set_cons_succ]
  generalize World.drew w1 = w1d at hput X2 B2 G2 HGR ⊢
  refine wpAnyH_ready (rs := [6]) (by kernel_rfl) (by simp) ?_
  refine AllReadyH.cons (o := ⟨none, Op.mapUpdate 113 (Operand.tmp 19) (Operand.tmp 20) (Operand.tmp 21), 0, "index.go:96", #[⟨3, .data⟩, ⟨4, .data⟩, ⟨5, .data⟩, ⟨0, .phase⟩, ⟨1, .phase⟩, ⟨2, .phase⟩, ⟨3, .phase⟩, ⟨4, .phase⟩, ⟨5, .phase⟩], none⟩) rfl (fun K hK => ?_) AllReadyH.nil
  go_simp
  refine hK.out _ _ ⟨cell_of (i := 1) Q2.out.1 rfl, Q2.out.2⟩ (fun hS2 => ?_)
  clear hK K hS
  revert hS2; intro hS
  try simp only [Act.put, List.setIfInBounds_toArray, List.set_cons_zero, List.set_cons_succ]
  refine wpAnyH_done (by kernel_rfl) ?_ _
  go_wp2_with fail
  have M2 := hid (show MapV w2.drew 188 sliceN lineV m1 j (lineM rs j) from (X2.out.rows.grown HGR.out (by simpa using X2.out.ne)).below (Below.refl _ _).drew)
  refine wp_region_held_drew (S := fun z => z.heap[ib]? = some (.cells #[.map (some m1), .map (some m2)] 115 (0, 0)) ∧ z.heap[g]? = some (.cells #[.int .i64 0, .int .i64 (j : Int), .int .i64 0, .int .i64 1, .int .i64 1] 62 (0, 0))) (by kernel_rfl) ⟨Q2.out.1, Q2.out.2⟩ (fun hS => ?_)
  refine wpAnyH_take (i := 0) (oi := ⟨some 22, Op.move (Operand.tmp 0), 55, "index.go:97", #[], none⟩) (v := ?_) rfl (by kernel_rfl) (by kernel_rfl) (by kernel_rfl) (fun _ _ _ h => h) (Or.inl ⟨by rfl, ?_⟩) hS ?_
  rotate_left 1
  · rintro wx ⟨s0, s1⟩
    (go_simp <;> (try with_reducible rfl))
  try simp only [Act.put, List.setIfInBounds_toArray, List.set_cons_zero, List.set_cons_succ]
  refine wpAnyH_take (i := 1) (oi := ⟨some 23, Op.nilCheck (Operand.tmp 22), 0, "index.go:97", #[⟨0, .data⟩], none⟩) (v := ?_) rfl (by kernel_rfl) (by kernel_rfl) (by kernel_rfl) (fun _ _ _ h => h) (Or.inl ⟨by rfl, ?_⟩) hS ?_
  rotate_left 1
  · rintro wx ⟨s0, s1⟩
    (go_simp <;> (try with_reducible rfl))
  try simp only [Act.put, List.setIfInBounds_toArray, List.set_cons_zero, List.set_cons_succ]
  refine wpAnyH_take (i := 2) (oi := ⟨some 24, Op.fieldAddr 115 (Operand.tmp 23) 0, 0, "index.go:97", #[⟨1, .data⟩], none⟩) (v := ?_) rfl (by kernel_rfl) (by kernel_rfl) (by kernel_rfl) (fun _ _ _ h => h) (Or.inl ⟨by rfl, ?_⟩) hS ?_
  rotate_left 1
  · rintro wx ⟨s0, s1⟩
    (go_simp <;> (try with_reducible rfl))
  try simp only [Act.put, List.setIfInBounds_toArray, List.set_cons_zero, List.set_cons_succ]
  refine wpAnyH_take (i := 3) (oi := ⟨some 25, Op.load 112 (Operand.tmp 24), 112, "index.go:97", #[⟨2, .data⟩], none⟩) rfl (by kernel_rfl) (by kernel_rfl) (by kernel_rfl) (fun _ _ _ h => h) (yieldsIf_load_mid (by rfl) 112 _ rfl ib 0 rfl [.map (some m1)] _ ?_ Tryz.underlying112 rfl (show _ = some 1 from by kernel_rfl)) hS ?_
  · exact fun _ hw => range_fst hw.1
  try simp only [Act.put, List.setIfInBounds_toArray, List.set_cons_zero, List.set_cons_succ]
  refine wpAnyH_take (i := 4) (oi := ⟨some 26, Op.move (Operand.tmp 1), 3, "index.go:97", #[], none⟩) (v := ?_) rfl (by kernel_rfl) (by kernel_rfl) (by kernel_rfl) (fun _ _ _ h => h) (Or.inl ⟨by rfl, ?_⟩) hS ?_
  rotate_left 1
  · rintro wx ⟨s0, s1⟩
    (go_simp <;> (try with_reducible rfl))
  try simp only [Act.put, List.setIfInBounds_toArray, List.set_cons_zero, List.set_cons_succ]
  refine wpAnyH_take (i := 5) (oi := ⟨some 27, Op.load 62 (Operand.tmp 5), 62, "index.go:97", #[], none⟩) rfl (by kernel_rfl) (by kernel_rfl) (by kernel_rfl) (fun _ _ _ h => h) (yieldsIf_load_mid (by rfl) 62 _ rfl g 0 rfl [.int .i64 0, .int .i64 (j : Int), .int .i64 0, .int .i64 1, .int .i64 1] _ ?_ Tryz.underlying62 rfl (show _ = some 5 from by kernel_rfl)) hS ?_
  · exact fun _ hw => row_at hw.2
  try simp only [Act.put, List.setIfInBounds_toArray, List.set_cons_zero, List.set_cons_succ]
  refine wpAnyH_ready (rs := [6]) (by kernel_rfl) (by simp) ?_
  refine AllReadyH.cons (o := ⟨some 28, Op.call { callee := Callee.value (Operand.func 48), args := #[Operand.tmp 27], argTypes := #[62] }, 126, "index.go:97", #[⟨5, .data⟩], none⟩) rfl (fun K hK => ?_) AllReadyH.nil
  go_simp; refine (linesOf_one (j : Int) (by omega) (by have := HJ.out; omega) _).mono ?_; rintro e w3 ⟨lv, rfl, hl, b3⟩; have B3 := hid (show Below w2.heap.size w2 w3 from (Below.refl _ w2).drew.trans b3); have M3 := hid (M2.out.below b3); have HL := hid hl; clear hl b3
  refine hK.out _ _ ⟨(B3.out.block _ (heap_lt Q2.out.1)).trans Q2.out.1, (B3.out.block _ (heap_lt Q2.out.2)).trans Q2.out.2⟩ (fun hS2 => ?_)
  clear hK K hS
  revert hS2; intro hS
  try simp only [Act.put, List.setIfInBounds_toArray, List.set_cons_zero, List.set_cons_succ]
  refine wpAnyH_ready (rs := [7]) (by kernel_rfl) (by simp) ?_
  refine AllReadyH.cons (o := ⟨some 29, Op.call { callee := Callee.value (Operand.func 47), args := #[Operand.tmp 25, Operand.tmp 26, Operand.tmp 28], argTypes := #[112, 3, 126] }, 0, "index.go:97", #[⟨3, .data⟩, ⟨4, .data⟩, ⟨6, .data⟩, ⟨6, .chain⟩], none⟩) rfl (fun K hK => ?_) AllReadyH.nil
  go_simp; refine (put_one M3.out (by have := HJ.out; omega) (j : Int) (j : Int) (by have := HJ.out; omega) HL.out (lineM_no rs j (Int.le_refl _))).mono ?_; rintro e w4 ⟨⟨ev, rfl⟩, hp⟩; have HP := hid hp; clear hp
  refine hK.out _ _ (by obtain ⟨_, _, _, hc, -⟩ := HP.out; have h1 := (B3.out.block _ (heap_lt Q2.out.1)).trans Q2.out.1; have h2 := (B3.out.block _ (heap_lt Q2.out.2)).trans Q2.out.2; exact ⟨hc.heap h1 (by simpa using cells_ne_map M3.out h1), hc.heap h2 (by simpa using cells_ne_map M3.out h2)⟩) (fun hS2 => ?_)
  clear hK K hS
  revert hS2; intro hS
  try simp only [Act.put, List.setIfInBounds_toArray, List.set_cons_zero, List.set_cons_succ]
  refine wpAnyH_done (by kernel_rfl) ?_ _
  have HZ := hid (X2.out.put B2.out HSZ.out HGR.out HFIN.out B3.out HP.out)
  go_wp2_with fail
  refine (told_nil _ (HE.out _ (by obtain ⟨_, _, hc⟩ := HZ.out; exact hc))).mono ?_
  rintro e w5 ⟨rfl, rfl⟩
  go_wp2_with fail
  go_ret
  exact ⟨rfl, HZ.out⟩
end Go.Proofs.YtpcjfgihglfdgaaGreatDoor

namespace Go.Proofs.YtpcjfgihglfdgaaGreatDoor
open Go.RowKit

theorem wide_fn (f : FuncId) : Fence.wide.fn f = True := rfl

section
variable {P : Program} {ops : Array Oper} {Q : Exit → Act → World → Prop} {lp n : Nat}

theorem wpOpIn_round (hno : ∀ (i : Nat) (o : Oper), ops[i]? = some o → ∀ c, o.op ≠ .defer c) (hL : ¬ LetsOut Q) {i : Nat} {K K' : Act → World → Prop} {a : Act} {w : World} (hK : ∀ a w, K a w → K' a w)
    (h : wpOp P ops Q i K a w) : wpOpIn (Fence.wide.inRound lp) n P ops Q i K' a w := by
  unfold wpOp at h
  unfold wpOpIn
  cases ho : ops[i]? with
  | none => simp only [ho] at h ⊢; exact hK _ _ h
  | some o =>
    simp only [ho] at h ⊢
    by_cases hw : Region.wanted o (yielded ops a.tmps) = true
    · simp only [hw, if_true] at h ⊢
      rcases h with h | ⟨_, h⟩
      · refine ⟨fun _ _ => trivial, ?_⟩
        rw [Oper.semAt_eq _ _ _ (hno i o ho)]
        unfold Oper.wp at h
        generalize (execOp a.eval o).run P w = r at *
        cases r with
        | ok x w' =>
          cases x <;> simp only [Oper.upon, Oper.uponIn] at h ⊢
          case value v => exact hK _ _ h
          case skip => exact hK _ _ h
          case defer d => exact hK _ _ h
          case enter f args =>
            refine ⟨fun hd => (by cases hd), (CallsIn.inRound lp (callsIn_wide.2 h)).mono fun e w'' he => ?_⟩
            cases e with
            | returned v => exact hK _ _ he
            | panicked c => exact he
            | outgrown => exact he
          case row row args =>
            refine ⟨fun hd => (by cases hd), fun c cs _ => ?_⟩
            obtain ⟨v, w'', hR, hs⟩ := h c cs
            exact ⟨v, w'', hK _ _ hR, stepsIn_wide.2 hs⟩
        | halt x w' => cases x <;> simp only [Oper.upon, Oper.uponIn] at h ⊢ <;> exact h
      · exact absurd h hL
    · simp only [hw] at h ⊢
      exact ⟨fun _ _ => trivial, hK _ _ h⟩

theorem wpAnyIn_round (hno : ∀ (i : Nat) (o : Oper), ops[i]? = some o → ∀ c, o.op ≠ .defer c) (hL : ¬ LetsOut Q) {md : Region.Mode} : ∀ (fuel : Nat) (listed : Array Bool) (a : Act) (w : World), wpAny P md ops Q fuel listed a w →
    wpAnyIn (Fence.wide.inRound lp) n P md ops Q fuel listed a w
  | 0, _, _, _, h => h
  | fuel + 1, _, _, _, h => ⟨h.1, fun i hi => wpOpIn_round hno hL (fun a' w' h' => wpAnyIn_round hno hL fuel _ a' w' h') (h.2 i hi)⟩

def noDefer (ops : Array Oper) : Bool := ops.toList.all fun o => match o.op with | .defer _ => false | _ => true
theorem noDefer_spec (h : noDefer ops = true) (i : Nat) (o : Oper) (ho : ops[i]? = some o) (c : Call) : o.op ≠ .defer c := by
  intro e
  have hm : o ∈ ops.toList := by
    rw [Array.mem_toList_iff]; exact Array.mem_of_getElem? ho
  have := List.all_eq_true.1 h o hm
  simp [e] at this

/-- A region that draws its order, in a round: from the plain law of all orders, with what its loads read. -/
theorem wpIn_region_round {id : Nat} {S : World → Prop} {a : Act} {w : World} (hm : P.follows .mixedOrders = true) (hno : noDefer ops = true) (hL : ¬ LetsOut Q) (hS : S w.drew)
    (h : S w.drew → wpAnyH P .any ops Q S ops.size (Array.replicate ops.size false) a w.drew) : (Code.region id ops true).wpIn (Fence.wide.inRound lp) n P Q a w :=
  wpIn_region_any hm (wpAnyIn_round (noDefer_spec hno) hL _ _ _ _ (wpAny_of_held _ _ _ _ (h hS)))
end

/-- One round of a loop over a function, whose body goes on. -/
theorem yield_round {P : Program} {lp m : Nat} {r : Loop} {args : Array Value} {W : World} {R : Ending → World → Prop} (hl : W.heap[lp]? = some (.loop r)) (hst : r.state = .ready) (hpn : r.pending = none) (hs : args.size = r.params.size)
    (h : ∀ rb : Loop, r.assign.wpIn (Fence.wide.inRound lp) m P (Exit.then (fun a1 W1 => W1.heap[lp]? = some (.loop r) ∧ r.body.wpIn (Fence.wide.inRound lp) m P
        (fun e _ W3 => match e with | .normal => W3.heap[lp]? = some (.loop rb) ∧ R (.returned (.bool true)) (W3.putObj lp (.loop r)) | _ => False) a1 (W1.putObj lp (.loop rb)))
      (fun _ _ _ => False)) { tmps := (r.params.zip args).foldl (fun t (p, v) => t.setIfInBounds p v) r.tmps, defers := [] } W) :
    YieldAt Fence.wide m P lp args W R := by
  refine ⟨r.fn, _, r.assign, r.body, run_yield (P := P) hl hs, roundIn_of_wpIn trivial (wpIn_mono (h { r with state := .busy }) ?_)⟩
  intro e a1 W1 hp
  cases e with
  | normal =>
    obtain ⟨hl1, hb⟩ := hp
    refine ⟨_, run_beginRound hl1 hst, wpIn_mono hb ?_⟩
    intro e a3 W3 hq
    cases e with
    | normal =>
      obtain ⟨hl3, hR⟩ := hq
      refine ⟨_, _, run_endRound (P := P) none hl3, ?_⟩
      have e : ({ r with state := .ready, pending := none } : Loop) = r := by cases r; simp at hst hpn; simp [hst, hpn]
      simp only [Option.isNone_none, if_true]
      rw [e]
      exact hR
    | _ => exact hq.elim
  | _ => exact hp.elim

/-- The statement 'for .. := range f', outermost: the record is laid; f's contract ends with the record ready. -/
theorem wpIn_rangeFunc_wide {P : Program} {g : Operand} {ps : Array Tmp} {assign body : Code} {Q : Exit → Act → World → Prop} {a : Act} {w : World} {m gf : Nat} {lb : Array Value}
    (hg : a.eval g = .func (.func gf) #[] lb) (eg : ∀ args w, (callFunc gf args).run P w = .ok (.enter gf args) w)
    (h : ∀ (rec : Loop) (D : Nat), D = w.heap.size → rec.state = .ready → rec.pending = none → rec.tmps = a.tmps → rec.params = ps → rec.assign = assign → rec.body = body →
      CallsIn Fence.wide m P gf (#[.func (.yield (D + 1)) #[] #[]] ++ lb) ((w.alloc (.deferred (some []))).alloc (.loop rec))
      (fun e W2 => (∃ v, e = .returned v) ∧ W2.heap[D + 1]? = some (.loop rec) ∧
        Q .normal { a with defers := { target := .collected D, args := #[] } :: a.defers } (W2.putObj (D + 1) (.loop { rec with state := .exhausted })))) :
    (Code.rangeFunc g ps assign body).wpIn Fence.wide (m + 1) P Q a w := by
  refine wpIn_rangeFunc ?_
  intro fn _
  have H := h { state := .ready, pending := none, fn := fn, tmps := a.tmps, params := ps, assign := assign, body := body, defers := w.heap.size } w.heap.size rfl rfl rfl rfl rfl rfl rfl
  obtain ⟨W1, hW1⟩ : ∃ W1, (w.alloc (.deferred (some []))).alloc (.loop { state := .ready, pending := none, fn := fn, tmps := a.tmps, params := ps, assign := assign, body := body, defers := w.heap.size }) = W1 := ⟨_, rfl⟩
  rw [hW1] at H
  refine ⟨w.heap.size + 1, [{ target := .collected w.heap.size, args := #[] }], W1, { target := .fn (.func gf) lb, args := #[.func (.yield (w.heap.size + 1)) #[] #[]] }, W1, gf,
    #[.func (.yield (w.heap.size + 1)) #[] #[]] ++ lb, W1, ?_, ?_, fun _ _ => trivial, ?_, fun _ => by omega, ?_⟩
  · rw [← hW1]; exact run_enterLoop_outer _ _ _ _ _
  · simp only [resolve, hg]
    simp [go_sem]
  · simp [invoke, go_sem, eg]
  · refine CallsIn.mono H ?_
    rintro e W2 ⟨⟨v, rfl⟩, hl, hq⟩
    exact ⟨none, _, run_endLoop (P := P) hl (by simp), hq⟩

end Go.Proofs.YtpcjfgihglfdgaaGreatDoor
