/- The law's four formulas are read as trees. Condition: what the package-level variables hold lies as it was laid. A workbook of one sheet in memory; the second half of book.Check at it. Condition: what the package-level variables hold lies as it was laid. -/
import Derived.Test.YtpcjfgihglfdgaaGreatDoorKChParse
import Derived.Test.YtpcjfgihglfdgaaGreatDoorKChOne
import Derived.Deep.RegionHeldLaw

namespace Go.Proofs.YtpcjfgihglfdgaaGreatDoor
open Go.RowKit Go.Lib

set_option maxRecDepth 20000 in
set_option maxHeartbeats 1000000 in
theorem kids_none (o : Ow) (hk : o.k = 5 ∨ o.k = 6 ∨ o.k = 1) : KidsN o .nil := by
  intro w ao c _
  obtain ⟨k, s, n, e, b, er, r, t, rows⟩ := o
  simp only at hk
  show Calls Tryz.prog 215 #[.agg ((Ow.mk k s n e b er r t rows).cells (.slice ao 0 c)).toArray] w _
  rcases hk with rfl | rfl | rfl
  all_goals
    go_enter Tryz.func215, Tryz.ntmps215
    go_wp2_with fail
    go_ret
    exact ⟨rfl, (Below.refl _ w).alloc (Nat.le_refl _) _⟩
theorem bareN_num : BareN (owNum 1 0) .nil := by
  intro w B ao c _ hv
  obtain ⟨rfl, rfl⟩ := hv.none
  exact bare_one w
theorem bareN_ref (r : Int) (hr : 0 ≤ r ∧ r < 200) : BareN (owRef (rfZ r)) .nil := by
  intro w B ao c _ hv
  obtain ⟨rfl, rfl⟩ := hv.none
  exact bare_ref r w hr
theorem bareN_range (r t : Int) (hr : 0 ≤ r ∧ r < 200) (ht : 0 ≤ t ∧ t < 200) : BareN (owRange (rfZ r) (rfZ t)) .nil := by
  intro w B ao c _ hv
  obtain ⟨rfl, rfl⟩ := hv.none
  exact bare_range r t w hr ht
theorem bareN_op (o o2 : Ow) (k k2 : Fo) : BareN (owOp (bs [43])) (.cons o k (.cons o2 k2 .nil)) := by
  intro w B ao c _ hv
  exact bare_op ao c w
theorem kidsN_op (o o2 : Ow) (k k2 : Fo) : KidsN (owOp (bs [43])) (.cons o k (.cons o2 k2 .nil)) := by
  intro w ao c _
  exact kids_op (bs [43]) 0 0 0 ao c w
theorem bareN_call (f : Fo) : BareN (owCall textSUM) f := by
  intro w B ao c hT hv
  exact bare_call textSUM rfl ao f.len c w hT
theorem kidsN_call (f : Fo) : KidsN (owCall textSUM) f := by
  intro w ao c _
  exact kids_call textSUM 0 0 0 ao f.len c w
theorem rightOk_of {o : Ow} {ks : Fo} (h1 : BareN o ks) (h2 : KidsN o ks) (h3 : FoOk ks) (hd : dF ks + 1 ≤ 20) (hm : mF ks + 1 ≤ 200) : RightOk o ks :=
  right_any (size_all (.cons o ks .nil) (by rw [mF]; show mF ks + 1 + 0 ≤ _; omega) ⟨⟨h1, h2⟩, h3, trivial⟩ 0 o ks rfl) hd hm
theorem refRead_rf (n : Nat) (h1 : 1 ≤ n) (h2 : n ≤ 33) (w : World) (hT : Tabs w) : Calls Tryz.prog 138 #[.string (bs (refB n))] w fun e w' => e = .returned (.tuple #[.agg (rfZ ((n - 1 : Nat) : Int)).cells.toArray, .int .i64 0]) ∧ Below w.heap.size w w' := refRead_any n h1 h2 w hT
section
variable {T : List (Int × ByteArray × Nat)}
theorem no_kind {a : Nat} {t : Int × ByteArray × Nat} (ht : T[a]? = some t) (hk : t.1 ≠ 8) (s : List UInt8) : NoSign T a s := .inr (.inl ⟨t, ht, hk⟩)
theorem no_end {a : Nat} (h : T.length ≤ a) (ha : a ≤ 1000) (s : List UInt8) : NoSign T a s := .inl ⟨h, ha⟩
theorem sign_num {a q : Nat} (ht : T[a]? = some (1, bs [49], q)) : SignOk T a (owNum 1 0) .nil (a + 1) :=
  sign_plain (no_kind ht (show (1 : Int) ≠ 8 by decide) _) (no_kind ht (show (1 : Int) ≠ 8 by decide) _) (prim_leaf ht (show (1 : Int) ≠ 7 by decide) (no_kind ht (show (1 : Int) ≠ 8 by decide) _) (no_kind ht (show (1 : Int) ≠ 8 by decide) _)
    (one_num ht (fun w => decRead_one w) bareN_num) (span_other (a + 1) (owNum 1 0) (show (1 : Int) ≠ 5 by decide)))
theorem sign_ref {a q n : Nat} (h1 : 1 ≤ n) (h2 : n ≤ 33) (ht : T[a]? = some (5, bs (refB n), q)) (h58 : NoSign T (a + 1) [58]) : SignOk T a (owRef (rfZ ((n - 1 : Nat) : Int))) .nil (a + 1) :=
  sign_plain (no_kind ht (show (5 : Int) ≠ 8 by decide) _) (no_kind ht (show (5 : Int) ≠ 8 by decide) _) (prim_leaf ht (show (5 : Int) ≠ 7 by decide) (no_kind ht (show (5 : Int) ≠ 8 by decide) _) (no_kind ht (show (5 : Int) ≠ 8 by decide) _)
    (one_ref ht (refRead_rf n h1 h2) (bareN_ref _ (by omega))) (span_ref (a + 1) _ rfl h58))
theorem next_none {a : Nat} (h : T.length ≤ a) : NextOk T a ⟨#[]⟩ 0 := fun _ _ _ _ _ hp => next_end hp.py h
theorem next_some {a q : Nat} {c : UInt8} (ht : T[a]? = some (8, bs [c], q)) (hc : c = 43 ∨ c = 58 ∨ c = 41) : NextOk T a (bs [c]) (tightP [c]) := fun _ _ _ _ _ hp => next_sign hp.py ht hc
end
theorem reads_one : Reads fOne (owNum 1 0) .nil := by
  refine ⟨⟨psOne, pieces_one, by first | decide | exact Nat.le_of_ble_eq_true rfl, by first | decide | exact Nat.le_of_ble_eq_true rfl, ?_⟩, rightOk_of bareN_num (kids_none _ (.inr (.inr rfl))) trivial (by first | decide | exact Nat.le_of_ble_eq_true rfl) (by first | decide | exact Nat.le_of_ble_eq_true rfl), by decide⟩
  exact expr_ops (b := 1) (sign_num (q := 0) rfl) (no_end (by first | decide | exact Nat.le_of_ble_eq_true rfl) (by first | decide | exact Nat.le_of_ble_eq_true rfl) _) (Ops.stop (next_none (by first | decide | exact Nat.le_of_ble_eq_true rfl)) (.inl rfl))
theorem reads_ref (n : Nat) (h1 : 1 ≤ n) (h2 : n ≤ 33) : Reads (refB n) (owRef (rfZ ((n - 1 : Nat) : Int))) .nil := by
  have hl := refB_len (n := n) (by omega)
  refine ⟨⟨psRef n, pieces_ref n h1 h2, by first | decide | exact Nat.le_of_ble_eq_true rfl, by first | decide | exact Nat.le_of_ble_eq_true rfl, ?_⟩, rightOk_of (bareN_ref _ (by omega)) (kids_none _ (.inl rfl)) trivial (by first | decide | exact Nat.le_of_ble_eq_true rfl) (by first | decide | exact Nat.le_of_ble_eq_true rfl), by omega⟩
  exact expr_ops (b := 1) (sign_ref (q := 0) h1 h2 rfl (no_end (by first | decide | exact Nat.le_of_ble_eq_true rfl) (by first | decide | exact Nat.le_of_ble_eq_true rfl) _)) (no_end (by first | decide | exact Nat.le_of_ble_eq_true rfl) (by first | decide | exact Nat.le_of_ble_eq_true rfl) _) (Ops.stop (next_none (by first | decide | exact Nat.le_of_ble_eq_true rfl)) (.inl rfl))
theorem reads_plus (n : Nat) (h1 : 1 ≤ n) (h2 : n ≤ 33) : Reads (fPlus n) (owOp (bs [43])) (.cons (owRef (rfZ ((n - 1 : Nat) : Int))) .nil (.cons (owNum 1 0) .nil .nil)) := by
  have hl := refB_len (n := n) (by omega)
  have hlen : (fPlus n).length = (refB n).length + 2 := by simp [fPlus]
  refine ⟨⟨psPlus n, pieces_plus n h1 h2, by first | decide | exact Nat.le_of_ble_eq_true rfl, by first | decide | exact Nat.le_of_ble_eq_true rfl, ?_⟩, rightOk_of (bareN_op _ _ _ _) (kidsN_op _ _ _ _) ⟨⟨bareN_ref _ (by omega), kids_none _ (.inl rfl)⟩, trivial, ⟨bareN_num, kids_none _ (.inr (.inr rfl))⟩, trivial, trivial⟩ (by first | decide | exact Nat.le_of_ble_eq_true rfl) (by first | decide | exact Nat.le_of_ble_eq_true rfl), by omega⟩
  obtain ⟨q1, e1⟩ : ∃ q1, (tp 0 (psPlus n))[1]? = some (8, bs [43], q1) := ⟨_, rfl⟩
  obtain ⟨q2, e2⟩ : ∃ q2, (tp 0 (psPlus n))[2]? = some (1, bs [49], q2) := ⟨_, rfl⟩
  refine expr_ops (b := 1) (sign_ref (q := 0) h1 h2 rfl (no_of_sign e1 (by first | decide | exact Nat.le_of_ble_eq_true rfl))) (no_of_sign e1 (by first | decide | exact Nat.le_of_ble_eq_true rfl)) (n := 1) ?_
  refine Ops.more (next_some e1 (.inl rfl)) (by first | decide | exact Nat.le_of_ble_eq_true rfl) (by first | decide | exact Nat.le_of_ble_eq_true rfl) (by first | decide | exact Nat.le_of_ble_eq_true rfl) (by first | decide | exact Nat.le_of_ble_eq_true rfl) (b := 3) ?_ (Ops.stop (next_none (by first | decide | exact Nat.le_of_ble_eq_true rfl)) (.inl rfl))
  exact expr_ops (b := 3) (sign_num e2) (no_end (by first | decide | exact Nat.le_of_ble_eq_true rfl) (by first | decide | exact Nat.le_of_ble_eq_true rfl) _) (Ops.stop (next_none (by first | decide | exact Nat.le_of_ble_eq_true rfl)) (.inl rfl))
theorem reads_sum (i j : Nat) (h1 : 1 ≤ i) (h2 : i ≤ 33) (h3 : 1 ≤ j) (h4 : j ≤ 33) : Reads (fSum i j) (owCall textSUM) (.cons (owRange (rfZ ((i - 1 : Nat) : Int)) (rfZ ((j - 1 : Nat) : Int))) .nil .nil) := by
  have hi := refB_len (n := i) (by omega)
  have hj := refB_len (n := j) (by omega)
  have hlen : (fSum i j).length = (refB i).length + (refB j).length + 6 := by simp [fSum]; omega
  refine ⟨⟨psSum i j, pieces_sum i j h1 h2 h3 h4, by first | decide | exact Nat.le_of_ble_eq_true rfl, by first | decide | exact Nat.le_of_ble_eq_true rfl, ?_⟩, rightOk_of (bareN_call _) (kidsN_call _) ⟨⟨bareN_range _ _ (by omega) (by omega), kids_none _ (.inr (.inl rfl))⟩, trivial, trivial⟩ (by first | decide | exact Nat.le_of_ble_eq_true rfl) (by first | decide | exact Nat.le_of_ble_eq_true rfl), by omega⟩
  obtain ⟨q1, e1⟩ : ∃ q1, (tp 0 (psSum i j))[1]? = some (8, bs [40], q1) := ⟨_, rfl⟩
  obtain ⟨q2, e2⟩ : ∃ q2, (tp 0 (psSum i j))[2]? = some (5, bs (refB i), q2) := ⟨_, rfl⟩
  obtain ⟨q3, e3⟩ : ∃ q3, (tp 0 (psSum i j))[3]? = some (8, bs [58], q3) := ⟨_, rfl⟩
  obtain ⟨q4, e4⟩ : ∃ q4, (tp 0 (psSum i j))[4]? = some (5, bs (refB j), q4) := ⟨_, rfl⟩
  obtain ⟨q5, e5⟩ : ∃ q5, (tp 0 (psSum i j))[5]? = some (8, bs [41], q5) := ⟨_, rfl⟩
  have e0 : (tp 0 (psSum i j))[0]? = some (7, textSUM, 0) := rfl
  have p2 := prim_leaf e2 (show (5 : Int) ≠ 7 by decide) (no_kind e2 (show (5 : Int) ≠ 8 by decide) _) (no_kind e2 (show (5 : Int) ≠ 8 by decide) _) (one_ref e2 (refRead_rf i h1 h2) (bareN_ref _ (by omega)))
    (span_range (r := rfZ ((i - 1 : Nat) : Int)) (t := rfZ ((j - 1 : Nat) : Int)) rfl e3 e4 (refRead_rf j h3 h4) (bareN_range _ _ (by omega) (by omega)))
  have s2 := sign_plain (no_kind e2 (show (5 : Int) ≠ 8 by decide) _) (no_kind e2 (show (5 : Int) ≠ 8 by decide) _) p2
  have x2 := expr_ops (least := 1) s2 (no_of_sign e5 (by first | decide | exact Nat.le_of_ble_eq_true rfl)) (Ops.stop (next_some e5 (.inr (.inr rfl))) (.inl rfl))
  have a2 := args_some (n := 0) (no_kind e2 (show (5 : Int) ≠ 8 by decide) _) (by first | decide | exact Nat.le_of_ble_eq_true rfl) x2 (Ags.stop e5)
  have c0 := call_any (S := textSUM) e0 e1 a2 callName_SUM great_SUM (by first | decide | exact Nat.le_of_ble_eq_true rfl) (by first | decide | exact Nat.le_of_ble_eq_true rfl) (by kernel_rfl) (by kernel_rfl)
  have p0 := prim_call e0 c0 (no_end (by first | decide | exact Nat.le_of_ble_eq_true rfl) (by first | decide | exact Nat.le_of_ble_eq_true rfl) _)
  have s0 := sign_plain (no_kind e0 (show (7 : Int) ≠ 8 by decide) _) (no_kind e0 (show (7 : Int) ≠ 8 by decide) _) p0
  exact expr_ops s0 (no_end (by first | decide | exact Nat.le_of_ble_eq_true rfl) (by first | decide | exact Nat.le_of_ble_eq_true rfl) _) (Ops.stop (next_none (by first | decide | exact Nat.le_of_ble_eq_true rfl)) (.inl rfl))
end Go.Proofs.YtpcjfgihglfdgaaGreatDoor

namespace Go.Proofs.YtpcjfgihglfdgaaGreatDoor
open Go.RowKit Go.Lib

/-- a right input, where what was laid lies -/
def InE (s : ByteArray) : Prop := ∀ w, Env w → Calls Tryz.prog 29 #[.string s] w fun e w' => e = .returned (.bool true) ∧ Below w.heap.size w w'
theorem inE_of {l : List UInt8} {o : Ow} {ks : Fo} (h : Reads l o ks) : InE (bs (61 :: l)) := fun w he => input_any h w he
/-- a workbook of one sheet, S, with a right input at each of some places -/
structure Bk1 (w : World) (v : Value) (A : List PAt) (tx : PAt → ByteArray) : Prop where
  at' : ∃ b off bc v0, 1 ≤ bc ∧ v = .agg #[.slice (some ⟨b, off, none⟩) 1 bc, .slice none 0 0, .slice none 0 0, .slice none 0 0] ∧
    w.cell? ⟨b, off, none⟩ = some (.string nameS) ∧ w.cell? ⟨b, off + 1, none⟩ = some v0 ∧ CellsIn w v0 tx (onSheet A 0)
  rise : Rising A
  two : ∀ p, p ∈ A → InTwo p
  few : A.length ≤ 40
  ok : ∀ p, p ∈ A → InE (tx p)
theorem Bk1.below {w w' : World} {v : Value} {A : List PAt} {tx : PAt → ByteArray} (h : Bk1 w v A tx) (hb : Below w.heap.size w w') : Bk1 w' v A tx := by
  obtain ⟨⟨b, off, bc, v0, hbc, h1, h2, h3, h6⟩, hr, ht, hf, ho⟩ := h
  have k : ∀ {p : Addr} {u : Value}, w.cell? p = some u → w'.cell? p = some u := fun {p u} hc => (hb.cell (World.block_lt_of_cell? _ _ hc)).trans hc
  exact ⟨⟨b, off, bc, v0, hbc, h1, k h2, k h3, h6.below hb⟩, hr, ht, hf, ho⟩
def sndSeq : Code → Code
  | .seq _ c => c
  | c => c
/-- book.Check behind its first loop -/
noncomputable def rest26a : Code := sndSeq (sndSeq (sndSeq (Tryz.f11.body.getD .skip)))

/-- what stands while Check goes: its book, its place, utf8's tables -/
structure Ck1 (w : World) (cs : Array Value) (y : World) : Prop where
  book : y.heap[w.heap.size]? = some (.cells cs 39 (0, 0))
  at' : y.heap[w.heap.size + 1]? = some (.cells #[.int .i64 0, .int .i64 0, .int .i64 0] 46 (0, 0))
  env : Env y
  low : Below w.heap.size w y
theorem Ck1.keep {w y z : World} {cs : Array Value} (h : Ck1 w cs y) (hb : Below y.heap.size y z) : Ck1 w cs z :=
  ⟨(hb.block _ (heap_lt h.book)).trans h.book, (hb.block _ (heap_lt h.at')).trans h.at', h.env.below hb, h.low.trans (hb.mono h.low.size)⟩
theorem Ck1.low_lt {w y : World} {cs : Array Value} (h : Ck1 w cs y) : w.heap.size + 1 < y.heap.size := heap_lt h.at'
abbrev bookC1 (b off bc : Nat) : Array Value := #[.slice (some ⟨b, off, none⟩) 1 bc, .slice none 0 0, .slice none 0 0, .slice none 0 0]
theorem Ck1.c0 {w y : World} {b off bc : Nat} (h : Ck1 w (bookC1 b off bc) y) : y.cell? ⟨w.heap.size, 0, none⟩ = some (.slice (some ⟨b, off, none⟩) 1 bc) := cell_of h.book rfl
theorem Ck1.c1 {w y : World} {b off bc : Nat} (h : Ck1 w (bookC1 b off bc) y) : y.cell? ⟨w.heap.size, 1, none⟩ = some (.slice none 0 0) := cell_of h.book rfl
theorem Ck1.c2 {w y : World} {b off bc : Nat} (h : Ck1 w (bookC1 b off bc) y) : y.cell? ⟨w.heap.size, 2, none⟩ = some (.slice none 0 0) := cell_of h.book rfl
theorem Ck1.c3 {w y : World} {b off bc : Nat} (h : Ck1 w (bookC1 b off bc) y) : y.cell? ⟨w.heap.size, 3, none⟩ = some (.slice none 0 0) := cell_of h.book rfl
theorem Ck1.d0 {w y : World} {cs : Array Value} (h : Ck1 w cs y) : y.cell? ⟨w.heap.size + 1, 0, none⟩ = some (.int .i64 0) := cell_of h.at' rfl
theorem Ck1.d1 {w y : World} {cs : Array Value} (h : Ck1 w cs y) : y.cell? ⟨w.heap.size + 1, 1, none⟩ = some (.int .i64 0) := cell_of h.at' rfl
theorem Ck1.d2 {w y : World} {cs : Array Value} (h : Ck1 w cs y) : y.cell? ⟨w.heap.size + 1, 2, none⟩ = some (.int .i64 0) := cell_of h.at' rfl

/-- the loop over the sheets -/
def ShRel1 (w : World) (cs : Array Value) (i : Value) (wr : World) : Prop := ∃ j : Nat, i = .int .i64 (j : Int) ∧ j ≤ 1 ∧ Ck1 w cs wr
/-- the loop over a sheet's cells -/
def CeRel1 (w : World) (cs : Array Value) (g : Nat) (nm : ByteArray) (sv : Value) (n : Nat) (i : Value) (wr : World) : Prop := ∃ j : Nat, i = .int .i64 (j : Int) ∧ j ≤ n ∧ Ck1 w cs wr ∧ wr.cell? ⟨g, 0, none⟩ = some (.string nm) ∧ wr.cell? ⟨g, 1, none⟩ = some sv

/-- cells in order on a sheet -/
theorem ord_lt {L : List PAt} (h : Rising L) {s : Int} (hs : ∀ p, p ∈ L → p.1 = s) {j : Nat} {p q : PAt} (hp : L[j]? = some p) (hq : L[j + 1]? = some q) : ordC p.2.1 p.2.2 q.2.1 q.2.2 = -1 := by
  have ha : aheadP p q := by
    obtain ⟨h1, e1⟩ := List.getElem?_eq_some_iff.1 hp
    obtain ⟨h2, e2⟩ := List.getElem?_eq_some_iff.1 hq
    have := List.pairwise_iff_getElem.1 h j (j + 1) h1 h2 (by omega)
    rw [e1, e2] at this
    exact this
  have e1 := hs p (List.mem_of_getElem? hp)
  have e2 := hs q (List.mem_of_getElem? hq)
  unfold aheadP at ha
  unfold ordC cmpZ
  repeat' split
  all_goals omega

theorem Bk1.sheet {w y : World} {b off bc : Nat} {A : List PAt} {tx : PAt → ByteArray} (h : Bk1 w (.agg (bookC1 b off bc)) A tx) (hb : Below w.heap.size w y) {j : Nat} (hj : j < 1) :
    ∃ nm sv, y.cell? ⟨b, off + j * 2, none⟩ = some (.string nm) ∧ y.cell? ⟨b, off + j * 2 + 1, none⟩ = some sv ∧ CellsIn y sv tx (onSheet A (j : Int)) ∧ CellsIn w sv tx (onSheet A (j : Int)) := by
  obtain ⟨⟨b', off', bc', v0, -, h1, h2, h3, h6⟩, -⟩ := h
  have e : (b' = b ∧ off' = off) ∧ bc' = bc := by simpa [bookC1, eq_comm] using h1
  obtain ⟨⟨rfl, rfl⟩, rfl⟩ := e
  have k : ∀ {p : Addr} {u : Value}, w.cell? p = some u → y.cell? p = some u := fun {p u} hc => (hb.cell (World.block_lt_of_cell? _ _ hc)).trans hc
  have : j = 0 := by omega
  subst this
  exact ⟨_, _, k h2, k h3, h6.below hb, h6⟩
theorem onSheet_at {A : List PAt} {s : Int} {p : PAt} (h : p ∈ onSheet A s) : p.1 = s ∧ p ∈ A := by
  unfold onSheet at h
  rw [List.mem_filter] at h
  exact ⟨of_decide_eq_true h.2, h.1⟩

/-- a region that draws its order, whose operations and callees leave a class of worlds -/
theorem wp_region_class {P : Program} {C : World → Prop} {id : Nat} {Q : Exit → Act → World → Prop} {a : Act} {w : World} {l : List Oper} (hm : P.follows .mixedOrders = true) (hB : Region.lexB .any l.toArray = true) (hC : C w.drew)
    (h : wpQuiet P l.toArray C (fun a' => ∀ w', C w' → Q .normal a' w') l a) : (Code.region id l.toArray true).wp P Q a w :=
  wp_region_quiet (C := C) hm hB hC (by simpa using h)

set_option maxRecDepth 20000 in
set_option maxHeartbeats 4000000 in
theorem check1_tail {w x : World} {b off bc : Nat} {A : List PAt} {tx : PAt → ByteArray} {v0 v4 v5 v6 v7 v8 v9 v10 v11 v12 v13 v14 v15 v16 v17 v18 v19 v20 v21 v22 v23 v24 v25 v26 v27 v28 v29 v30 v31 v32 v33 v34 v35 v36 v37 v38 v39 v40 v41 v42 v43 v44 v45 v46 v47 v48 v49 v50 v51 v52 v53 v54 v55 v56 v57 v58 v59 v60 v61 v62 v63 v64 v65 v66 v67 v68 v69 v70 v71 v72 v73 v74 v75 v76 v77 v78 v79 v80 v81 v82 v83 v84 v85 v86 v87 v88 v89 v90 v91 v92 v93 v94 v95 v96 v97 v98 v99 v100 v101 v102 v103 v104 v105 v106 v107 v108 v109 v110 v111 v112 v113 v114 v115 v116 v117 v118 v119 v120 v121 v122 v123 v124 v125 v126 v127 v128 v129 v130 v131 v132 v133 v134 v135 v136 v137 v138 v139 v140 v141 v142 v143 v144 v145 v146 v147 v148 v149 v150 v151 v152 v153 v154 v155 v156 v157 v158 v159 v160 v161 v162 v163 v164 v165 v166 v167 v168 v169 v170 v171 v172 v173 v174 v175 v176 v177 v178 v179 v180 v181 v182 : Value} (K : Ck1 w (bookC1 b off bc) x) (hB : Bk1 w (.agg (bookC1 b off bc)) A tx) :
    Code.wp Tryz.prog rest26a (bodyPost Tryz.prog Tryz.f11 (fun e w' => e = .returned (.tuple #[.agg #[.int .i64 0, .int .i64 0, .int .i64 0], .int .i64 0]) ∧ Below w.heap.size w w')) { tmps := #[v0, .pointer (some ⟨w.heap.size, 0, none⟩), .pointer (some ⟨w.heap.size + 1, 0, none⟩), .int .i64 0, v4, v5, v6, v7, v8, v9, v10, v11, v12, v13, v14, v15, v16, v17, v18, v19, v20, v21, v22, v23, v24, v25, v26, v27, v28, v29, v30, v31, v32, v33, v34, v35, v36, v37, v38, v39, v40, v41, v42, v43, v44, v45, v46, v47, v48, v49, v50, v51, v52, v53, v54, v55, v56, v57, v58, v59, v60, v61, v62, v63, v64, v65, v66, v67, v68, v69, v70, v71, v72, v73, v74, v75, v76, v77, v78, v79, v80, v81, v82, v83, v84, v85, v86, v87, v88, v89, v90, v91, v92, v93, v94, v95, v96, v97, v98, v99, v100, v101, v102, v103, v104, v105, v106, v107, v108, v109, v110, v111, v112, v113, v114, v115, v116, v117, v118, v119, v120, v121, v122, v123, v124, v125, v126, v127, v128, v129, v130, v131, v132, v133, v134, v135, v136, v137, v138, v139, v140, v141, v142, v143, v144, v145, v146, v147, v148, v149, v150, v151, v152, v153, v154, v155, v156, v157, v158, v159, v160, v161, v162, v163, v164, v165, v166, v167, v168, v169, v170, v171, v172, v173, v174, v175, v176, v177, v178, v179, v180, v181, v182], defers := [] } x := by
  have HK := hid K
  have HB := hid hB
  have q0 := K.c0
  clear K hB
  simp only [rest26a, sndSeq, Tryz.f11, Option.getD_some]
  go_wp2_with fail
  rename_i K hK
  have HC := hid hK
  clear hK
  go_loopw [81] (fun i wr => ShRel1 w (bookC1 b off bc) i wr) (fun i _ => 1 - (RowKit.intOf i).toNat)
  case atStart => exact ⟨0, rfl, by omega, HK.out⟩
  case round =>
    obtain ⟨j, rfl, hj, K1⟩ := hrel
    have HK1 := hid K1
    by_cases hg : j < 1
    · obtain ⟨nm, sv, s0, s1, hc, hcw⟩ := HB.out.sheet K1.low hg
      obtain ⟨ao, cc, cb, co, rfl, hl, hcl⟩ := hcw.view
      obtain ⟨n, hn⟩ : ∃ n, n = (onSheet A (j : Int)).length := ⟨_, rfl⟩
      have hn12 : n ≤ 40 := by rw [hn]; exact Nat.le_trans (onSheet_le _ _) HB.out.few
      rw [← hn] at s1 hl
      have HN := hid hn
      have HCL := hid hcl
      have hg2 := K1.low_lt
      have K2 : ∀ o, Ck1 w (bookC1 b off bc) (wr.alloc o) := fun o => HK1.out.keep ((Below.refl _ wr).alloc (Nat.le_refl _) o)
      have HK2 := hid K2
      have hgt : ((j : Int) < 1) = True := by rw [eq_iff_iff, iff_true]; omega
      clear K1 hc hcw hn hcl K2
      go_wp2_with fail
      have m0 := cell_of (i := 0) (heap_alloc_new wr (.cells #[.string nm, .slice ao n cc] 25)) rfl
      have m1 := cell_of (i := 1) (heap_alloc_new wr (.cells #[.string nm, .slice ao n cc] 25)) rfl
      have K3 := HK2.out (.cells #[.string nm, .slice ao n cc] 25)
      obtain ⟨g, hg⟩ : ∃ g, g = wr.heap.size := ⟨_, rfl⟩
      rw [← hg] at m0 m1 ⊢
      generalize World.alloc _ _ = w2 at m0 m1 K3 ⊢
      have HR := hid (show CeRel1 w (bookC1 b off bc) g nm (.slice ao n cc) n (.int .i64 0) w2 from ⟨0, rfl, by omega, K3, m0, m1⟩)
      clear m0 m1 K3 HK2 HK1 s0 s1 hg
      rename_i K' hK'
      have HC' := hid hK'
      clear hK'
      go_loopw [89] (fun i wr => CeRel1 w (bookC1 b off bc) g nm (.slice ao n cc) n i wr) (fun i _ => n - (RowKit.intOf i).toNat)
      case atStart => exact HR.out
      case round =>
        obtain ⟨k, rfl, hk, K4, m0, m1⟩ := hrel
        have HK4 := hid K4
        by_cases hkn : k < n
        · obtain ⟨p, hp⟩ : ∃ p, (onSheet A (j : Int))[k]? = some p := ⟨_, List.getElem?_eq_getElem (by rw [← HN.out]; exact hkn)⟩
          have hpa := onSheet_at (List.mem_of_getElem? hp)
          have hpt := HB.out.two p hpa.2
          obtain ⟨rfl, p0, p1, p2⟩ := HCL.out k p hp
          have kk : ∀ {q : Addr} {u : Value}, w.cell? q = some u → wr.cell? q = some u := fun {q u} hc => (K4.low.cell (World.block_lt_of_cell? _ _ hc)).trans hc
          have p0' := kk p0
          have p1' := kk p1
          have p2' := kk p2
          obtain ⟨tp, htp⟩ : ∃ tp, tp = tx p := ⟨_, rfl⟩
          have hin := HB.out.ok p hpa.2
          rw [← htp] at p2' hin
          have HIN := hid hin
          clear htp hin
          obtain ⟨r, hr⟩ : ∃ r, r = p.2.1 := ⟨_, rfl⟩
          obtain ⟨k2, hk2⟩ : ∃ k2, k2 = p.2.2 := ⟨_, rfl⟩
          unfold InTwo at hpt
          rw [← hr, ← hk2] at hpt
          rw [← hr] at p0'
          rw [← hk2] at p1'
          obtain ⟨-, -, t1, t2, t3, t4⟩ := hpt
          have HP := hid hp
          have HPR := hid hr
          have HPK := hid hk2
          clear K4 kk p0 p1 p2 hpa hr hk2 hp
          go_wp2_with fail
          have a0 := cell_of (i := 0) (heap_alloc_new wr (.cells #[.int .i64 r, .int .i64 k2, .string tp] 28)) rfl
          have a1 := cell_of (i := 1) (heap_alloc_new wr (.cells #[.int .i64 r, .int .i64 k2, .string tp] 28)) rfl
          have a2 := cell_of (i := 2) (heap_alloc_new wr (.cells #[.int .i64 r, .int .i64 k2, .string tp] 28)) rfl
          have bA : Below wr.heap.size wr (wr.alloc (.cells #[.int .i64 r, .int .i64 k2, .string tp] 28)) := (Below.refl _ wr).alloc (Nat.le_refl _) _
          obtain ⟨h, hh⟩ : ∃ h, h = wr.heap.size := ⟨_, rfl⟩
          rw [← hh] at a0 a1 a2 ⊢
          generalize World.alloc _ _ = w3 at a0 a1 a2 bA ⊢
          have K5 := HK4.out.keep bA
          have m0' := (bA.cell (World.block_lt_of_cell? _ _ m0)).trans m0
          have m1' := (bA.cell (World.block_lt_of_cell? _ _ m1)).trans m1
          clear m0 m1 hh p0' p1' p2' bA HK4
          have u1 : (r < 0) = False := by rw [eq_iff_iff, iff_false]; omega
          have u2 : (200 ≤ r) = False := by rw [eq_iff_iff, iff_false]; omega
          have u3 : (k2 < 0) = False := by rw [eq_iff_iff, iff_false]; omega
          have u4 : (52 ≤ k2) = False := by rw [eq_iff_iff, iff_false]; omega
          by_cases hk0 : k = 0
          · subst hk0
            have HKP := hid (fun (y z : World) (hS : y.cell? ⟨g, 1, none⟩ = some (.slice (some ⟨cb, co, none⟩) n cc) ∧ y.cell? ⟨h, 0, none⟩ = some (.int .i64 r) ∧ y.cell? ⟨h, 1, none⟩ = some (.int .i64 k2) ∧ y.cell? ⟨h, 2, none⟩ = some (.string tp) ∧ y.cell? ⟨g, 0, none⟩ = some (.string nm) ∧ Ck1 w (bookC1 b off bc) y) (hb : Below y.heap.size y z) => show z.cell? ⟨g, 1, none⟩ = some (.slice (some ⟨cb, co, none⟩) n cc) ∧ z.cell? ⟨h, 0, none⟩ = some (.int .i64 r) ∧ z.cell? ⟨h, 1, none⟩ = some (.int .i64 k2) ∧ z.cell? ⟨h, 2, none⟩ = some (.string tp) ∧ z.cell? ⟨g, 0, none⟩ = some (.string nm) ∧ Ck1 w (bookC1 b off bc) z from ⟨(hb.cell (World.block_lt_of_cell? _ _ hS.1)).trans hS.1, (hb.cell (World.block_lt_of_cell? _ _ hS.2.1)).trans hS.2.1, (hb.cell (World.block_lt_of_cell? _ _ hS.2.2.1)).trans hS.2.2.1, (hb.cell (World.block_lt_of_cell? _ _ hS.2.2.2.1)).trans hS.2.2.2.1, (hb.cell (World.block_lt_of_cell? _ _ hS.2.2.2.2.1)).trans hS.2.2.2.2.1, hS.2.2.2.2.2.keep hb⟩)
            have HS2 := hid (HKP.out _ _ ⟨m1', a0, a1, a2, m0', K5⟩ (Below.refl _ w3).drew)
            clear a0 a1 a2 K5 m0' m1'
            refine wp_region_class (C := fun y => y.cell? ⟨g, 1, none⟩ = some (.slice (some ⟨cb, co, none⟩) n cc) ∧ y.cell? ⟨h, 0, none⟩ = some (.int .i64 r) ∧ y.cell? ⟨h, 1, none⟩ = some (.int .i64 k2) ∧ y.cell? ⟨h, 2, none⟩ = some (.string tp) ∧ y.cell? ⟨g, 0, none⟩ = some (.string nm) ∧ Ck1 w (bookC1 b off bc) y) (by kernel_rfl) (by kernel_rfl) HS2.out ?_
            repeat (first | go_big_quiet_skip | (go_big_quiet_want; apply Exists.intro; refine ⟨fun y hy => ?_, ?_⟩; rotate_left; (rotate_right; have hS := hy; obtain ⟨y1, y2, y3, y4, y5, y6⟩ := hy; go_simp; first | (go_at_call 29; exact (HIN.out y (hS.2.2.2.2.2).env).mono fun e z hz => ⟨hz.1, HKP.out y z hS hz.2⟩) | with_reducible rfl | skip); simp only [Act.put, List.setIfInBounds_toArray, List.set_cons_zero, List.set_cons_succ]; go_big_quiet_on))
            refine wpQuiet_nil ?_
            rintro y ⟨y1, -, -, -, y5, y6⟩
            have RR := hid (show CeRel1 w (bookC1 b off bc) g nm (.slice (some ⟨cb, co, none⟩) n cc) n (.int .i64 1) y from ⟨1, rfl, by omega, y6, y5, y1⟩)
            clear y1 y5 y6 HKP HS2
            go_wp2_with fail
            go_roundw
            case rel => exact RR.out
            case measure => simp [RowKit.intOf]; omega
          · obtain ⟨m, hm⟩ : ∃ m, k = m + 1 := ⟨k - 1, by omega⟩
            obtain ⟨q, hq⟩ : ∃ q, (onSheet A (j : Int))[m]? = some q := ⟨_, List.getElem?_eq_getElem (by rw [← HN.out]; omega)⟩
            obtain ⟨-, e0, e1, e2⟩ := HCL.out m q hq
            have kk : ∀ {q : Addr} {u : Value}, w.cell? q = some u → w3.cell? q = some u := fun {q u} hc => (K5.low.cell (World.block_lt_of_cell? _ _ hc)).trans hc
            have e0' := kk e0
            have e1' := kk e1
            have e2' := kk e2
            have hord := ord_lt (onSheet_rising HB.out.rise (j : Int)) (s := (j : Int)) (fun p hp => (onSheet_at hp).1) hq (by rw [← hm]; exact HP.out)
            obtain ⟨tq, htq⟩ : ∃ tq, tq = tx q := ⟨_, rfl⟩
            rw [← htq] at e2'
            obtain ⟨r', hr'⟩ : ∃ r', r' = q.2.1 := ⟨_, rfl⟩
            obtain ⟨k', hk'⟩ : ∃ k', k' = q.2.2 := ⟨_, rfl⟩
            rw [← hr'] at e0' hord
            rw [← hk'] at e1' hord
            rw [← HPR.out, ← HPK.out] at hord
            have hbo := fun y => border_any r' k' r k2 tq tp y
            rw [hord] at hbo
            unfold cellV at hbo
            have HBO := hid hbo
            have HKP := hid (fun (y z : World) (hS : y.cell? ⟨cb, co + m * 3, none⟩ = some (.int .i64 r') ∧ y.cell? ⟨cb, co + m * 3 + 1, none⟩ = some (.int .i64 k') ∧ y.cell? ⟨cb, co + m * 3 + 2, none⟩ = some (.string tq) ∧ y.cell? ⟨g, 1, none⟩ = some (.slice (some ⟨cb, co, none⟩) n cc) ∧ y.cell? ⟨h, 0, none⟩ = some (.int .i64 r) ∧ y.cell? ⟨h, 1, none⟩ = some (.int .i64 k2) ∧ y.cell? ⟨h, 2, none⟩ = some (.string tp) ∧ y.cell? ⟨g, 0, none⟩ = some (.string nm) ∧ Ck1 w (bookC1 b off bc) y) (hb : Below y.heap.size y z) => show z.cell? ⟨cb, co + m * 3, none⟩ = some (.int .i64 r') ∧ z.cell? ⟨cb, co + m * 3 + 1, none⟩ = some (.int .i64 k') ∧ z.cell? ⟨cb, co + m * 3 + 2, none⟩ = some (.string tq) ∧ z.cell? ⟨g, 1, none⟩ = some (.slice (some ⟨cb, co, none⟩) n cc) ∧ z.cell? ⟨h, 0, none⟩ = some (.int .i64 r) ∧ z.cell? ⟨h, 1, none⟩ = some (.int .i64 k2) ∧ z.cell? ⟨h, 2, none⟩ = some (.string tp) ∧ z.cell? ⟨g, 0, none⟩ = some (.string nm) ∧ Ck1 w (bookC1 b off bc) z from ⟨(hb.cell (World.block_lt_of_cell? _ _ (hS.1))).trans (hS.1), (hb.cell (World.block_lt_of_cell? _ _ (hS.2.1))).trans (hS.2.1), (hb.cell (World.block_lt_of_cell? _ _ (hS.2.2.1))).trans (hS.2.2.1), (hb.cell (World.block_lt_of_cell? _ _ (hS.2.2.2.1))).trans (hS.2.2.2.1), (hb.cell (World.block_lt_of_cell? _ _ (hS.2.2.2.2.1))).trans (hS.2.2.2.2.1), (hb.cell (World.block_lt_of_cell? _ _ (hS.2.2.2.2.2.1))).trans (hS.2.2.2.2.2.1), (hb.cell (World.block_lt_of_cell? _ _ (hS.2.2.2.2.2.2.1))).trans (hS.2.2.2.2.2.2.1), (hb.cell (World.block_lt_of_cell? _ _ (hS.2.2.2.2.2.2.2.1))).trans (hS.2.2.2.2.2.2.2.1), hS.2.2.2.2.2.2.2.2.keep hb⟩)
            have HS2 := hid (HKP.out _ _ ⟨e0', e1', e2', m1', a0, a1, a2, m0', K5⟩ (Below.refl _ w3).drew)
            have g1 : (k : Int) - 1 = (m : Int) := by omega
            have g2 : (0 < (k : Int)) = True := by rw [eq_iff_iff, iff_true]; omega
            have g2' : (0 < k) = True := by rw [eq_iff_iff, iff_true]; omega
            have g3 : (m : Int) < (n : Int) := by omega
            have g4 : (0 : Int) ≤ (m : Int) := by omega
            have g5 : m < n := by omega
            have gw : IntKind.i64.wrap (m : Int) = (m : Int) := IntWalk.i64_in _ (by omega)
            clear a0 a1 a2 K5 m0' m1' e0 e1 e2 e0' e1' e2' htq hq hr' hk' hord hbo kk hm
            refine wp_region_class (C := fun y => y.cell? ⟨cb, co + m * 3, none⟩ = some (.int .i64 r') ∧ y.cell? ⟨cb, co + m * 3 + 1, none⟩ = some (.int .i64 k') ∧ y.cell? ⟨cb, co + m * 3 + 2, none⟩ = some (.string tq) ∧ y.cell? ⟨g, 1, none⟩ = some (.slice (some ⟨cb, co, none⟩) n cc) ∧ y.cell? ⟨h, 0, none⟩ = some (.int .i64 r) ∧ y.cell? ⟨h, 1, none⟩ = some (.int .i64 k2) ∧ y.cell? ⟨h, 2, none⟩ = some (.string tp) ∧ y.cell? ⟨g, 0, none⟩ = some (.string nm) ∧ Ck1 w (bookC1 b off bc) y) (by kernel_rfl) (by kernel_rfl) HS2.out ?_
            repeat (first | go_big_quiet_skip | (go_big_quiet_want; apply Exists.intro; refine ⟨fun y hy => ?_, ?_⟩; rotate_left; (rotate_right; have hS := hy; obtain ⟨y1, y2, y3, y4, y5, y6, y7, y8, y9⟩ := hy; go_simp; first | (go_at_call 29; exact (HIN.out y (hS.2.2.2.2.2.2.2.2).env).mono fun e z hz => ⟨hz.1, HKP.out y z hS hz.2⟩) | (go_at_call 39; exact (HBO.out y).mono fun e z hz => ⟨hz.1, HKP.out y z hS hz.2⟩) | with_reducible rfl | skip); simp only [Act.put, List.setIfInBounds_toArray, List.set_cons_zero, List.set_cons_succ]; go_big_quiet_on))
            refine wpQuiet_nil ?_
            rintro y ⟨-, -, -, y1, -, -, -, y5, y6⟩
            have RR := hid (show CeRel1 w (bookC1 b off bc) g nm (.slice (some ⟨cb, co, none⟩) n cc) n (.int .i64 ((k : Int) + 1)) y from ⟨k + 1, by simp, by omega, y6, y5, y1⟩)
            clear y1 y5 y6 HKP HS2 HBO g1 gw
            go_wp2_with fail
            go_roundw
            case rel => exact RR.out
            case measure => simp [RowKit.intOf]; omega
        · obtain rfl : k = n := by omega
          clear HCL m0 m1
          go_wp2_with fail
          refine HC'.out _ _ ?_
          go_wp2_with fail
          exact ⟨⟨j + 1, by simp, by omega, HK4.out⟩, by simp [RowKit.intOf]; omega⟩
    · obtain rfl : j = 1 := by omega
      have c0 := K1.c0
      have c1 := K1.c1
      have c2 := K1.c2
      have c3 := K1.c3
      have d0 := K1.d0
      have d1 := K1.d1
      have d2 := K1.d2
      have f0 := free_of (i := 0) K1.at'
      have f1 := free_of (i := 1) K1.at'
      have f2 := free_of (i := 2) K1.at'
      clear K1 q0
      go_wp2_with fail
      refine HC.out _ _ ?_
      go_wp2_with fail
      refine wp_loop_rounds 1 ?_
      rw [rounds_succ]
      go_wp2_with fail
      refine wp_loop_rounds 1 ?_
      rw [rounds_succ]
      go_wp2_with fail
      refine wp_loop_rounds 1 ?_
      rw [rounds_succ]
      go_wp2_with fail
      refine bodyPost_ret (v := .tuple #[.agg #[.int .i64 0, .int .i64 0, .int .i64 0], .int .i64 0]) (by simp [results, go_sem, *]) rfl ?_
      exact ⟨rfl, ((HK1.out.low.setCell (by simp) _).setCell (by simp) _).setCell (by simp) _⟩
end Go.Proofs.YtpcjfgihglfdgaaGreatDoor
