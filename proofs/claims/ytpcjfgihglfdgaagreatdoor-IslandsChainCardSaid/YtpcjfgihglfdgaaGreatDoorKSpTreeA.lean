/- Contracts of the parser's small functions at the pieces of "1". No condition. Contracts of the parser at the pieces of "1". No condition. Contract of tree.bare at a number's node. No condition. Contracts of the parser at the pieces of "1", up to tree.Right. No condition. Contracts of the parser's small functions over any pieces. No condition. Nodes of 20 cells as values; equality of their parts; contracts of callName, kids. No condition. Contracts of tree.bare at the nodes of the law's formulas. Condition: utf8's tables lie as they were laid (at a call). -/
import Derived.Test.YtpcjfgihglfdgaaGreatDoorKSpOwn
import Derived.Test.YtpcjfgihglfdgaaGreatDoorKChLexE

namespace Go.Proofs.YtpcjfgihglfdgaaGreatDoor
open Go.RowKit Go.Lib

section
variable {p tb tf tc : Nat} {w : World}
end
set_option maxHeartbeats 400000 in
theorem must_yes (w : World) : Calls Tryz.prog 152 #[.bool true] w fun e w' => e = .returned (.tuple #[]) ∧ w = w' := by
  go_enter Tryz.func152, Tryz.ntmps152
  go_wp2_with fail
  go_end0
  exact ⟨rfl, rfl⟩

theorem eq_dec_same (w : World) : (Op.equalIn 10000 75 (.agg #[.int .i64 1, .int .i64 0]) (.agg #[.int .i64 1, .int .i64 0])).run Tryz.prog w = .ok true w := by
  have h1 : Tryz.prog.keyLits 2 75 [.int .i64 1, .int .i64 0] = some [.int .i64 1, .int .i64 0] := by kernel_rfl
  have h2 : (Value.agg #[.int .i64 1, .int .i64 0]).formed Tryz.prog 75 = true := by kernel_rfl
  obtain ⟨r, h3, h4⟩ := run_equalIn_deep (P := Tryz.prog) 9998 2 75 (by kernel_rfl) w 2 2 _ _ _ _ h2 h2 h1 h1
  rw [h4.2 rfl] at h3
  exact h3
theorem eq_dec_zero (w : World) : (Op.equalIn 10000 75 (.agg #[.int .i64 1, .int .i64 0]) (.agg #[.int .i64 0, .int .i64 0])).run Tryz.prog w = .ok false w := by
  have h1 : Tryz.prog.keyLits 2 75 [.int .i64 1, .int .i64 0] = some [.int .i64 1, .int .i64 0] := by kernel_rfl
  have h1' : Tryz.prog.keyLits 2 75 [.int .i64 0, .int .i64 0] = some [.int .i64 0, .int .i64 0] := by kernel_rfl
  have h2 : (Value.agg #[.int .i64 1, .int .i64 0]).formed Tryz.prog 75 = true := by kernel_rfl
  have h2' : (Value.agg #[.int .i64 0, .int .i64 0]).formed Tryz.prog 75 = true := by kernel_rfl
  obtain ⟨r, h3, h4⟩ := run_equalIn_deep (P := Tryz.prog) 9998 2 75 (by kernel_rfl) w 2 2 _ _ _ _ h2 h2' h1 h1'
  have : r = false := by
    cases r with
    | false => rfl
    | true => exact absurd (h4.1 rfl) (by simp)
  rw [this] at h3
  exact h3
abbrev refL : List Value := [.string ⟨#[]⟩, .int .i64 0, .int .i64 0, .bool false, .bool false, .bool false]
theorem eq_ref_same (w : World) : (Op.equalIn 10000 77 (.agg refL.toArray) (.agg refL.toArray)).run Tryz.prog w = .ok true w := by
  have h1 : (Tryz.prog.keyLits 2 77 refL).isSome = true := by kernel_rfl
  obtain ⟨la, hla⟩ := Option.isSome_iff_exists.1 h1
  have h2 : (Value.agg refL.toArray).formed Tryz.prog 77 = true := by kernel_rfl
  obtain ⟨r, h3, h4⟩ := run_equalIn_deep (P := Tryz.prog) 9998 2 77 (by kernel_rfl) w 2 2 _ _ la la h2 h2 hla hla
  rw [h4.2 rfl] at h3
  exact h3
set_option maxHeartbeats 1000000 in
theorem decRight_one (w : World) : Calls Tryz.prog 269 #[.agg #[.int .i64 1, .int .i64 0]] w fun e w' => e = .returned (.bool true) ∧ Below w.heap.size w w' := by
  have heq := fun w => eq_dec_zero w
  go_enter Tryz.func269, Tryz.ntmps269
  go_wp2_with fail
  refine (abs_one _).mono ?_
  rintro e w1 ⟨rfl, rfl⟩
  go_wp2_with fail
  go_ret
  exact ⟨rfl, (Below.refl _ w).alloc (Nat.le_refl _) _⟩

/-- a number's tree -/
abbrev nodeL (k n : Int) : List Value := [.int .i64 k, .string ⟨#[]⟩, .int .i64 n, .int .i64 0, .bool false, .int .i64 0, .string ⟨#[]⟩, .int .i64 0, .int .i64 0, .bool false, .bool false, .bool false, .string ⟨#[]⟩, .int .i64 0, .int .i64 0, .bool false, .bool false, .bool false, .int .i64 0, .slice none 0 0]
end Go.Proofs.YtpcjfgihglfdgaaGreatDoor

namespace Go.Proofs.YtpcjfgihglfdgaaGreatDoor
open Go.RowKit Go.Lib

/-- tree.bare's contract at a number's node -/
def BareOk : Prop := ∀ w : World, Calls Tryz.prog 214 #[.agg (nodeL 1 1).toArray] w fun e w' => e = .returned (.bool true) ∧ Below w.heap.size w w'
section
variable {p tb tf tc : Nat} {w : World}
/-- a node of the call's own -/
def Nx (g : Nat) (k n : Int) (w : World) : Prop := w.heap[g]? = some (.cells (nodeL k n).toArray 79 (0, 0))
theorem Nx.keep {g : Nat} {k n : Int} {w w' : World} (h : Nx g k n w) (hb : Below w.heap.size w w') : Nx g k n w' := (hb.block _ (heap_lt h)).trans h
theorem node_info (k n : Int) : (Tryz.prog.info? 79).map (·.size) = some (nodeL k n).toArray.size := by
  have : (Tryz.prog.info? 79).map (·.size) = some 20 := by kernel_rfl
  rw [this]
  rfl
end
end Go.Proofs.YtpcjfgihglfdgaaGreatDoor

namespace Go.Proofs.YtpcjfgihglfdgaaGreatDoor
open Go.RowKit Go.Lib

theorem end_one {A G : World → Prop} {Q : Prop} (main : (∀ w, A w → G w) → Q) (tail : ∀ w, A w → G w) : Q := main tail
theorem node_ten : (nodeL 1 0).toArray.all (·.oneCell') = true := by kernel_rfl
set_option maxRecDepth 20000 in
set_option maxHeartbeats 4000000 in
theorem bare_one : BareOk := by
  intro w
  have A1 : Nx w.heap.size 1 1 (((w.alloc (.cells (nodeL 1 1).toArray 79)).alloc (.cells (nodeL 0 0).toArray 79)).setRow (w.heap.size + 1) (nodeL 1 0).toArray) := heap_setRow_far (heap_alloc_keep (heap_alloc_new w _) _) (by omega) _
  have W1 : Nx (w.heap.size + 1) 1 0 (((w.alloc (.cells (nodeL 1 1).toArray 79)).alloc (.cells (nodeL 0 0).toArray 79)).setRow (w.heap.size + 1) (nodeL 1 0).toArray) := heap_setRow_at (heap_alloc2_new w _ _)
  have B1 := hid (((((Chg.refl [] w).alloc (.cells (nodeL 1 1).toArray 79)).alloc (.cells (nodeL 0 0).toArray 79)).setRow (g := w.heap.size + 1) (.inr (by omega)) (nodeL 1 0).toArray).nil_below)
  have a0 := cell_of (i := 0) A1 rfl
  have HA := hid A1
  have HW := hid W1
  clear A1 W1
  go_enter Tryz.func214, Tryz.ntmps214
  generalize h37 : Code.seq (Code.region 37 _ _) _ = c37
  generalize Code.seq (Code.region 7 _ _) _ = cB
  go_wp2_with (refine wpList_store_row rfl 79 _ _ rfl (w.heap.size + 1) (nodeL 1 0).toArray rfl rfl 79 _ (heap_alloc2_new w _ _) (node_info 1 0) (by rfl) node_ten ?_)
  clear a0
  generalize World.setRow _ _ _ = w1 at HA HW B1 ⊢
  obtain ⟨g, hg⟩ : ∃ g, g = w.heap.size := ⟨_, rfl⟩
  obtain ⟨g3, hg3⟩ : ∃ g3, g3 = w.heap.size + 1 := ⟨_, rfl⟩
  rw [← hg] at HA
  rw [← hg3] at HW
  rw [← hg3, ← hg]
  have hgg : g ≠ g3 := by omega
  have hgg' : g3 ≠ g := by omega
  have HG3 := hid (show w.heap.size ≤ g3 by omega)
  clear hg hg3
  have b0 : w1.cell? ⟨g, 2, none⟩ = some (.int .i64 1) := cell_of HA.out rfl
  have b1 : w1.cell? ⟨g, 3, none⟩ = some (.int .i64 0) := cell_of HA.out rfl
  have e2 : w1.cell? ⟨g3, 2, none⟩ = some (.int .i64 0) := cell_of HW.out rfl
  have e3 : w1.cell? ⟨g3, 3, none⟩ = some (.int .i64 0) := cell_of HW.out rfl
  have f2 : w1.frozen? ⟨g3, 2, none⟩ = false := free_of HW.out
  have f3 : w1.frozen? ⟨g3, 3, none⟩ = false := free_of HW.out
  have HDR := hid (fun w => decRight_one w)
  apply end_one (A := fun y => Nx g 1 1 y ∧ Nx g3 1 1 y ∧ Below w.heap.size w y)
  · intro key
    go_region_with (first | (go_at_call 269; refine (HDR.out _).mono ?_; rintro e w2 ⟨rfl, b2⟩; have HA2 := hid (HA.out.keep ((Below.refl w1.heap.size w1).drew.trans b2)); have HW2 := hid (HW.out.keep ((Below.refl w1.heap.size w1).drew.trans b2)); have HB2 := hid (B1.out.trans (((Below.refl w1.heap.size w1).drew.trans b2).mono B1.out.size)); have b0' : w2.cell? ⟨g, 2, none⟩ = some (.int .i64 1) := cell_of HA2.out rfl; have b1' : w2.cell? ⟨g, 3, none⟩ = some (.int .i64 0) := cell_of HA2.out rfl; have e2' : w2.cell? ⟨g3, 2, none⟩ = some (.int .i64 0) := cell_of HW2.out rfl; have e3' : w2.cell? ⟨g3, 3, none⟩ = some (.int .i64 0) := cell_of HW2.out rfl; have f2' : w2.frozen? ⟨g3, 2, none⟩ = false := free_of HW2.out; have f3' : w2.frozen? ⟨g3, 3, none⟩ = false := free_of HW2.out))
    all_goals (try go_simp)
    all_goals exact key _ ⟨heap_setCell_far (heap_setCell_far HA2.out hgg _) hgg _, heap_setCell_at (i := 3) (heap_setCell_at (i := 2) HW2.out (.int .i64 1)) (.int .i64 0), (HB2.out.setCell HG3.out _).setCell HG3.out _⟩
  · rintro y ⟨y1, y2, y3⟩
    have HY1 := hid y1
    have HY2 := hid y2
    have HY3 := hid y3
    clear y1 y2 y3 b0 b1 e2 e3 f2 f3 HA HW B1
    have x1 : y.cell? ⟨g, 1, none⟩ = some (.string ⟨#[]⟩) := cell_of HY1.out rfl
    have z1 : y.cell? ⟨g3, 1, none⟩ = some (.string ⟨#[]⟩) := cell_of HY2.out rfl
    have x2 : y.cell? ⟨g, 2, none⟩ = some (.int .i64 1) := cell_of HY1.out rfl
    have z2 : y.cell? ⟨g3, 2, none⟩ = some (.int .i64 1) := cell_of HY2.out rfl
    have x3 : y.cell? ⟨g, 3, none⟩ = some (.int .i64 0) := cell_of HY1.out rfl
    have z3 : y.cell? ⟨g3, 3, none⟩ = some (.int .i64 0) := cell_of HY2.out rfl
    have x4 : y.cell? ⟨g, 4, none⟩ = some (.bool false) := cell_of HY1.out rfl
    have z4 : y.cell? ⟨g3, 4, none⟩ = some (.bool false) := cell_of HY2.out rfl
    have x5 : y.cell? ⟨g, 5, none⟩ = some (.int .i64 0) := cell_of HY1.out rfl
    have z5 : y.cell? ⟨g3, 5, none⟩ = some (.int .i64 0) := cell_of HY2.out rfl
    have x6 : y.cell? ⟨g, 6, none⟩ = some (.string ⟨#[]⟩) := cell_of HY1.out rfl
    have z6 : y.cell? ⟨g3, 6, none⟩ = some (.string ⟨#[]⟩) := cell_of HY2.out rfl
    have x7 : y.cell? ⟨g, 7, none⟩ = some (.int .i64 0) := cell_of HY1.out rfl
    have z7 : y.cell? ⟨g3, 7, none⟩ = some (.int .i64 0) := cell_of HY2.out rfl
    have x8 : y.cell? ⟨g, 8, none⟩ = some (.int .i64 0) := cell_of HY1.out rfl
    have z8 : y.cell? ⟨g3, 8, none⟩ = some (.int .i64 0) := cell_of HY2.out rfl
    have x9 : y.cell? ⟨g, 9, none⟩ = some (.bool false) := cell_of HY1.out rfl
    have z9 : y.cell? ⟨g3, 9, none⟩ = some (.bool false) := cell_of HY2.out rfl
    have x10 : y.cell? ⟨g, 10, none⟩ = some (.bool false) := cell_of HY1.out rfl
    have z10 : y.cell? ⟨g3, 10, none⟩ = some (.bool false) := cell_of HY2.out rfl
    have x11 : y.cell? ⟨g, 11, none⟩ = some (.bool false) := cell_of HY1.out rfl
    have z11 : y.cell? ⟨g3, 11, none⟩ = some (.bool false) := cell_of HY2.out rfl
    have x12 : y.cell? ⟨g, 12, none⟩ = some (.string ⟨#[]⟩) := cell_of HY1.out rfl
    have z12 : y.cell? ⟨g3, 12, none⟩ = some (.string ⟨#[]⟩) := cell_of HY2.out rfl
    have x13 : y.cell? ⟨g, 13, none⟩ = some (.int .i64 0) := cell_of HY1.out rfl
    have z13 : y.cell? ⟨g3, 13, none⟩ = some (.int .i64 0) := cell_of HY2.out rfl
    have x14 : y.cell? ⟨g, 14, none⟩ = some (.int .i64 0) := cell_of HY1.out rfl
    have z14 : y.cell? ⟨g3, 14, none⟩ = some (.int .i64 0) := cell_of HY2.out rfl
    have x15 : y.cell? ⟨g, 15, none⟩ = some (.bool false) := cell_of HY1.out rfl
    have z15 : y.cell? ⟨g3, 15, none⟩ = some (.bool false) := cell_of HY2.out rfl
    have x16 : y.cell? ⟨g, 16, none⟩ = some (.bool false) := cell_of HY1.out rfl
    have z16 : y.cell? ⟨g3, 16, none⟩ = some (.bool false) := cell_of HY2.out rfl
    have x17 : y.cell? ⟨g, 17, none⟩ = some (.bool false) := cell_of HY1.out rfl
    have z17 : y.cell? ⟨g3, 17, none⟩ = some (.bool false) := cell_of HY2.out rfl
    have x18 : y.cell? ⟨g, 18, none⟩ = some (.int .i64 0) := cell_of HY1.out rfl
    have z18 : y.cell? ⟨g3, 18, none⟩ = some (.int .i64 0) := cell_of HY2.out rfl
    have q1 := fun w => eq_dec_same w
    have q2 := fun w => eq_ref_same w
    subst h37
    clear HY1 HY2 hgg hgg' HG3 HDR
    go_wp2_with fail
    go_ret
    exact ⟨rfl, HY3.out⟩
end Go.Proofs.YtpcjfgihglfdgaaGreatDoor

namespace Go.Proofs.YtpcjfgihglfdgaaGreatDoor
open Go.RowKit Go.Lib

/-- a row loaded by an operation that is guarded, and wanted -/
theorem wpList_load_row_w {P : Program} {ops : Array Oper} {rest : List Oper} {o : Oper} {a : Act} {w : World} {Q : Exit → Act → World → Prop} (hw : Region.wanted o (yielded ops a.tmps) = true) (ty : TypeId) (x : Operand) (ho : o.op = .load ty x)
    (g : Nat) (hx : a.eval x = .pointer (some ⟨g, 0, none⟩)) (t : TypeId) (cs : Array Value) (fr : Nat × Nat) (d : TypeDesc) (hg : w.heap[g]? = some (.cells cs t fr))
    (hu : P.underlying ty = some d) (hd : (match d with | .struct _ | .array _ _ => true | _ => false) = true) (hi : (P.info? ty).map (·.size) = some cs.size)
    (h : wpList P ops Q rest (a.put o.dst (.agg cs)) w) : wpList P ops Q (o :: rest) a w :=
  wpList_step fun K hK => by simp only [hw, if_true]; exact wp_load_row ty x ho g hx t cs fr d hg hu hd hi (hK _ _ h)
section
variable {p tb tf tc : Nat} {w : World}
end
end Go.Proofs.YtpcjfgihglfdgaaGreatDoor

namespace Go.Proofs.YtpcjfgihglfdgaaGreatDoor
open Go.RowKit Go.Lib

/-- a parser of some pieces, at one of them -/
structure Py (T : List (Int × ByteArray × Nat)) (p tb tf tc a : Nat) (w : World) : Prop where
  par : w.heap[p]? = some (.cells #[.slice (some ⟨tb, tf, none⟩) T.length tc, .int .i64 a] 245 (0, 0))
  row : ∀ j t, T[j]? = some t → w.cell? ⟨tb, tf + j * 3, none⟩ = some (.int .i64 t.1) ∧ w.cell? ⟨tb, tf + j * 3 + 1, none⟩ = some (.string t.2.1) ∧ w.cell? ⟨tb, tf + j * 3 + 2, none⟩ = some (.int .i64 t.2.2)
  ne : tb ≠ p
  len : T.length ≤ 100
section
variable {T : List (Int × ByteArray × Nat)} {p tb tf tc a : Nat} {w : World}
theorem Py.keep {w' : World} (h : Py T p tb tf tc a w) (hb : Below w.heap.size w w') : Py T p tb tf tc a w' :=
  ⟨(hb.block _ (heap_lt h.par)).trans h.par, fun j t hj => ⟨cell_keep (h.row j t hj).1 hb, cell_keep (h.row j t hj).2.1 hb, cell_keep (h.row j t hj).2.2 hb⟩, h.ne, h.len⟩
theorem Py.step (h : Py T p tb tf tc a w) (b : Nat) : Py T p tb tf tc b (w.setCell ⟨p, 1, none⟩ (.int .i64 b)) :=
  ⟨heap_setCell_at (i := 1) h.par _, fun j t hj => ⟨cell_setCell_far (h.row j t hj).1 h.ne _, cell_setCell_far (h.row j t hj).2.1 h.ne _, cell_setCell_far (h.row j t hj).2.2 h.ne _⟩, h.ne, h.len⟩
theorem Py.chg {w' : World} {F : List Nat} (h : Py T p tb tf tc a w) (hc : Chg F w w') (hp : p ∉ F) (ht : tb ∉ F) : Py T p tb tf tc a w' :=
  ⟨hc.heap h.par hp, fun j t hj => ⟨hc.cell (h.row j t hj).1 ht, hc.cell (h.row j t hj).2.1 ht, hc.cell (h.row j t hj).2.2 ht⟩, h.ne, h.len⟩
set_option maxHeartbeats 1000000 in
theorem is_end (h : Py T p tb tf tc a w) (ha : T.length ≤ a) (hb : a ≤ 1000) (s : ByteArray) : Calls Tryz.prog 267 #[.pointer (some ⟨p, 0, none⟩), .string s, .int .i64 0] w fun e w' => e = .returned (.bool false) ∧ w = w' := by
  have c0 := cell_of (i := 0) h.par rfl
  have c1 := cell_of (i := 1) h.par rfl
  obtain ⟨n, hn⟩ : ∃ n, n = T.length := ⟨_, rfl⟩
  rw [← hn] at c0 ha
  have hlt : ((a : Int) < n) = False := by rw [eq_iff_iff, iff_false]; omega
  clear h hn
  go_enter Tryz.func267, Tryz.ntmps267
  go_wp2_with fail
  go_ret
  exact ⟨rfl, rfl⟩
set_option maxHeartbeats 1000000 in
theorem is_kind (h : Py T p tb tf tc a w) {t : Int × ByteArray × Nat} (ht : T[a]? = some t) (hk : t.1 ≠ 8) (s : ByteArray) : Calls Tryz.prog 267 #[.pointer (some ⟨p, 0, none⟩), .string s, .int .i64 0] w fun e w' => e = .returned (.bool false) ∧ w = w' := by
  have c0 := cell_of (i := 0) h.par rfl
  have c1 := cell_of (i := 1) h.par rfl
  obtain ⟨k0, k1, k2⟩ := h.row a t ht
  have hlen := h.len
  have hlt := (List.getElem?_eq_some_iff.1 ht).1
  obtain ⟨n, hn⟩ : ∃ n, n = T.length := ⟨_, rfl⟩
  rw [← hn] at c0 hlt hlen
  have h8 : (t.1 == 8) = false := ne_beq hk
  clear h hn ht hk
  go_enter Tryz.func267, Tryz.ntmps267
  go_wp2_with fail
  go_ret
  exact ⟨rfl, rfl⟩
set_option maxHeartbeats 1000000 in
theorem is_sign (h : Py T p tb tf tc a w) {x : List UInt8} {q : Nat} (ht : T[a]? = some (8, bs x, q)) (s : List UInt8) : Calls Tryz.prog 267 #[.pointer (some ⟨p, 0, none⟩), .string (bs s), .int .i64 0] w fun e w' => e = .returned (.bool (decide (x = s))) ∧ w = w' := by
  have c0 := cell_of (i := 0) h.par rfl
  have c1 := cell_of (i := 1) h.par rfl
  obtain ⟨k0, k1, k2⟩ := h.row a _ ht
  have hlen := h.len
  have hlt := (List.getElem?_eq_some_iff.1 ht).1
  obtain ⟨n, hn⟩ : ∃ n, n = T.length := ⟨_, rfl⟩
  rw [← hn] at c0 hlt hlen
  have hx := bs_beq x s
  generalize decide (x = s) = d at hx ⊢
  clear h hn ht
  go_enter Tryz.func267, Tryz.ntmps267
  go_wp2_with fail
  go_ret
  exact ⟨by rw [← hx]; rfl, rfl⟩
/-- no such sign stands here -/
def NoSign (T : List (Int × ByteArray × Nat)) (a : Nat) (s : List UInt8) : Prop := (T.length ≤ a ∧ a ≤ 1000) ∨ (∃ t, T[a]? = some t ∧ t.1 ≠ 8) ∨ ∃ x q, T[a]? = some (8, bs x, q) ∧ x ≠ s
theorem is_no (h : Py T p tb tf tc a w) {s : List UInt8} (hn : NoSign T a s) : Calls Tryz.prog 267 #[.pointer (some ⟨p, 0, none⟩), .string (bs s), .int .i64 0] w fun e w' => e = .returned (.bool false) ∧ w = w' := by
  rcases hn with ⟨h1, h2⟩ | ⟨t, h1, h2⟩ | ⟨x, q, h1, h2⟩
  · exact is_end h h1 h2 _
  · exact is_kind h h1 h2 _
  · have := is_sign h h1 s
    rwa [decide_eq_false h2] at this
set_option maxHeartbeats 1000000 in
theorem has_no (h : Py T p tb tf tc a w) {s : List UInt8} (hn : NoSign T a s) : Calls Tryz.prog 212 #[.pointer (some ⟨p, 0, none⟩), .string (bs s)] w fun e w' => e = .returned (.bool false) ∧ w = w' := by
  have H := hid (is_no h hn)
  clear h hn
  go_enter Tryz.func212, Tryz.ntmps212
  go_wp2_with fail
  refine H.out.mono ?_
  rintro e w1 ⟨rfl, rfl⟩
  go_wp2_with fail
  go_ret
  exact ⟨rfl, rfl⟩
set_option maxHeartbeats 1000000 in
theorem has_yes (h : Py T p tb tf tc a w) {s : List UInt8} {q : Nat} (ht : T[a]? = some (8, bs s, q)) : Calls Tryz.prog 212 #[.pointer (some ⟨p, 0, none⟩), .string (bs s)] w fun e w' => e = .returned (.bool true) ∧ Py T p tb tf tc (a + 1) w' ∧ Chg [p] w w' := by
  have H := hid (show Calls Tryz.prog 267 #[.pointer (some ⟨p, 0, none⟩), .string (bs s), .int .i64 0] w fun e w' => e = .returned (.bool true) ∧ w = w' from by have := is_sign h ht s; rwa [decide_eq_true rfl] at this)
  have c1 := cell_of (i := 1) h.par rfl
  have f1 := free_of (i := 1) h.par
  have hlen := h.len
  have hlt := (List.getElem?_eq_some_iff.1 ht).1
  have HS := hid (h.step (a + 1))
  have ha : a < 1000 := by omega
  clear h ht hlen hlt
  go_enter Tryz.func212, Tryz.ntmps212
  go_wp2_with fail
  refine H.out.mono ?_
  rintro e w1 ⟨rfl, rfl⟩
  go_wp2_with fail
  go_ret
  exact ⟨rfl, HS.out, (Chg.refl _ w).setCell (.inl (by simp)) _⟩
end
/-- how tight a sign is -/
def tightP (s : List UInt8) : Int := if s = [43] then 3 else 0
set_option maxHeartbeats 1000000 in
theorem operator_any (c : UInt8) (hc : c = 43 ∨ c = 58 ∨ c = 41) (w : World) : Calls Tryz.prog 268 #[.string (bs [c])] w fun e w' => e = .returned (.int .i64 (tightP [c])) ∧ w = w' := by
  have htl := bs_toList [c]
  rcases hc with rfl | rfl | rfl
  all_goals
    go_enter Tryz.func268, Tryz.ntmps268
    go_wp2_with fail
    go_ret
    exact ⟨rfl, rfl⟩
section
variable {T : List (Int × ByteArray × Nat)} {p tb tf tc a : Nat} {w : World}
set_option maxHeartbeats 1000000 in
theorem next_end (h : Py T p tb tf tc a w) (ha : T.length ≤ a) : Calls Tryz.prog 213 #[.pointer (some ⟨p, 0, none⟩)] w fun e w' => e = .returned (.tuple #[.string ⟨#[]⟩, .int .i64 0]) ∧ Below w.heap.size w w' := by
  have c0 := cell_of (i := 0) h.par rfl
  have c1 := cell_of (i := 1) h.par rfl
  obtain ⟨n, hn⟩ : ∃ n, n = T.length := ⟨_, rfl⟩
  rw [← hn] at c0 ha
  have hge : ((a : Int) ≥ n) = True := by rw [eq_iff_iff, iff_true]; omega
  have hge' : ((n : Int) ≤ a) = True := by rw [eq_iff_iff, iff_true]; omega
  clear h hn
  go_enter Tryz.func213, Tryz.ntmps213
  go_wp2_with fail
  go_quiet (fail)
  go_wp2_with fail
  go_ret2
  exact ⟨rfl, below_drewN (Below.refl _ w) _⟩
set_option maxHeartbeats 2000000 in
theorem next_sign (h : Py T p tb tf tc a w) {c : UInt8} {q : Nat} (ht : T[a]? = some (8, bs [c], q)) (hc : c = 43 ∨ c = 58 ∨ c = 41) : Calls Tryz.prog 213 #[.pointer (some ⟨p, 0, none⟩)] w fun e w' => e = .returned (.tuple #[.string (bs [c]), .int .i64 (tightP [c])]) ∧ Below w.heap.size w w' := by
  have c0 := cell_of (i := 0) h.par rfl
  have c1 := cell_of (i := 1) h.par rfl
  obtain ⟨k0, k1, k2⟩ := h.row a _ ht
  have hlen := h.len
  have hlt := (List.getElem?_eq_some_iff.1 ht).1
  obtain ⟨n, hn⟩ : ∃ n, n = T.length := ⟨_, rfl⟩
  rw [← hn] at c0 hlt hlen
  have hge : ((a : Int) ≥ n) = False := by rw [eq_iff_iff, iff_false]; omega
  have hge' : ((n : Int) ≤ a) = False := by rw [eq_iff_iff, iff_false]; omega
  have hlt' : ((a : Int) < n) = True := by rw [eq_iff_iff, iff_true]; omega
  have HO := hid (fun w => (operator_any c hc w).mono (fun e w' (hq : e = .returned (.int .i64 (tightP [c])) ∧ w = w') => (show e = .returned (.int .i64 (tightP [c])) ∧ w' = w from ⟨hq.1, hq.2.symm⟩)))
  have HP := hid h
  clear h hn ht hc
  go_enter Tryz.func213, Tryz.ntmps213
  go_wp2_with fail
  go_quiet (fail)
  have c0' : (w.drewN nq).cell? ⟨p, 0, none⟩ = _ := c0
  have c1' : (w.drewN nq).cell? ⟨p, 1, none⟩ = _ := c1
  have k0' : (w.drewN nq).cell? ⟨tb, tf + a * 3, none⟩ = _ := k0
  have k1' : (w.drewN nq).cell? ⟨tb, tf + a * 3 + 1, none⟩ = _ := k1
  have b1 := below_drewN (Below.refl w.heap.size w) nq
  generalize w.drewN nq = w1 at b1 c0' c1' k0' k1' ⊢
  clear c0 c1 k0 k1 k2
  go_wp2_with fail
  go_quiet (first | (go_at_call 268; refine Calls.quiet_of_same (HO.out _)))
  go_wp2_with fail
  go_ret2
  exact ⟨rfl, below_drewN b1 _⟩
end
end Go.Proofs.YtpcjfgihglfdgaaGreatDoor

namespace Go.Proofs.YtpcjfgihglfdgaaGreatDoor
open Go.RowKit Go.Lib

abbrev refZL (r : Int) : List Value := [.string ⟨#[]⟩, .int .i64 r, .int .i64 0, .bool false, .bool false, .bool false]
/-- a node's cells: its kind, text, number, reference's row, other reference's row, kids -/
abbrev ndL (k : Int) (s : ByteArray) (n r t : Int) (kv : Value) : List Value := [.int .i64 k, .string s, .int .i64 n, .int .i64 0, .bool false, .int .i64 0, .string ⟨#[]⟩, .int .i64 r, .int .i64 0, .bool false, .bool false, .bool false, .string ⟨#[]⟩, .int .i64 t, .int .i64 0, .bool false, .bool false, .bool false, .int .i64 0, kv]
abbrev nilV : Value := .slice none 0 0
theorem nd_info (k : Int) (s : ByteArray) (n r t : Int) (kv : Value) : (Tryz.prog.info? 79).map (·.size) = some (ndL k s n r t kv).toArray.size := by
  have : (Tryz.prog.info? 79).map (·.size) = some 20 := by kernel_rfl
  rw [this]
  rfl
theorem nd_one (k : Int) (s : ByteArray) (n r t : Int) (ao : Option Addr) (m c : Nat) : (ndL k s n r t (.slice ao m c)).toArray.all (·.oneCell') = true := by simp [Value.oneCell']
def Nd (g : Nat) (R : List Value) (w : World) : Prop := w.heap[g]? = some (.cells R.toArray 79 (0, 0))
theorem Nd.keep {g : Nat} {R : List Value} {w w' : World} (h : Nd g R w) (hb : Below w.heap.size w w') : Nd g R w' := (hb.block _ (heap_lt h)).trans h
theorem eq_dec_n (n : Int) (hn : n = 0 ∨ n = 1) (w : World) : (Op.equalIn 10000 75 (.agg #[.int .i64 n, .int .i64 0]) (.agg #[.int .i64 n, .int .i64 0])).run Tryz.prog w = .ok true w := by
  rcases hn with rfl | rfl
  · have h1 : Tryz.prog.keyLits 2 75 [.int .i64 0, .int .i64 0] = some [.int .i64 0, .int .i64 0] := by kernel_rfl
    have h2 : (Value.agg #[.int .i64 0, .int .i64 0]).formed Tryz.prog 75 = true := by kernel_rfl
    obtain ⟨r, h3, h4⟩ := run_equalIn_deep (P := Tryz.prog) 9998 2 75 (by kernel_rfl) w 2 2 _ _ _ _ h2 h2 h1 h1
    rw [h4.2 rfl] at h3
    exact h3
  · exact eq_dec_same w
theorem ref_cells6 : Tryz.prog.cellsOf 77 = 6 := by kernel_rfl
theorem int_cells1 : Tryz.prog.cellsOf 3 = 1 := by kernel_rfl
theorem str_cells1 : Tryz.prog.cellsOf 9 = 1 := by kernel_rfl
theorem bool_cells1 : Tryz.prog.cellsOf 4 = 1 := by kernel_rfl
theorem ref_lits (r : Int) (h : 0 ≤ r ∧ r < 200) : Tryz.prog.keyLits 2 77 (refZL r) = some [.string [], .int .i64 r, .int .i64 0, .bool false, .bool false, .bool false] := by
  have w1 : (Lit.int .i64 r).wf = true := WalkArith.wf_i64 (by omega)
  have w2 : (Lit.int .i64 0).wf = true := WalkArith.wf_i64 (by omega)
  simp [Program.keyLits, Tryz.underlying77, Tryz.underlying3, Tryz.underlying9, Tryz.underlying4, ref_cells6, int_cells1, str_cells1, bool_cells1, refZL, w1, w2]
  rw [if_pos (show (⟨#[]⟩ : ByteArray).size ≤ maxLen from Nat.zero_le _)]
  rfl
theorem ref_formed (r : Int) : (Value.agg (refZL r).toArray).formed Tryz.prog 77 = true := by simp [Value.formed, Tryz.underlying77, ref_cells6]
theorem eq_ref_n (r : Int) (h : 0 ≤ r ∧ r < 200) (w : World) : (Op.equalIn 10000 77 (.agg (refZL r).toArray) (.agg (refZL r).toArray)).run Tryz.prog w = .ok true w := by
  obtain ⟨r, h3, h4⟩ := run_equalIn_deep (P := Tryz.prog) 9998 2 77 (by kernel_rfl) w 2 2 _ _ _ _ (ref_formed r) (ref_formed r) (ref_lits r h) (ref_lits r h)
  rw [h4.2 rfl] at h3
  exact h3
set_option maxRecDepth 20000 in
set_option maxHeartbeats 2000000 in
theorem callName_SUM (w : World) : Calls Tryz.prog 272 #[.string textSUM] w fun e w' => e = .returned (.bool true) ∧ w = w' := by
  have htl := bs_toList [83, 85, 77]
  have h3 : textSUM.size = 3 := rfl
  have i0 : ∀ x, (Instr.index 9 (.string textSUM) (.int .i64 0)).run Tryz.prog x = .ok (.int .u8 83) x := fun x => index_bs (l := [83, 85, 77]) (j := 0) (b := 83) rfl x
  have i1 : ∀ x, (Instr.index 9 (.string textSUM) (.int .i64 1)).run Tryz.prog x = .ok (.int .u8 85) x := fun x => index_bs (l := [83, 85, 77]) (j := 1) (b := 85) rfl x
  have i2 : ∀ x, (Instr.index 9 (.string textSUM) (.int .i64 2)).run Tryz.prog x = .ok (.int .u8 77) x := fun x => index_bs (l := [83, 85, 77]) (j := 2) (b := 77) rfl x
  go_enter Tryz.func272, Tryz.ntmps272
  go_wp2_with fail
  refine wp_loop_rounds 4 ?_
  rw [rounds_succ]
  go_wp2_with fail
  rw [rounds_succ]
  go_wp2_with fail
  rw [rounds_succ]
  go_wp2_with fail
  rw [rounds_succ]
  go_wp2_with fail
  go_ret
  exact ⟨rfl, rfl⟩
set_option maxRecDepth 20000 in
set_option maxHeartbeats 1000000 in
theorem kids_op (s : ByteArray) (n r t : Int) (ao : Option Addr) (c : Nat) (w : World) : Calls Tryz.prog 215 #[.agg (ndL 9 s n r t (.slice ao 2 c)).toArray] w fun e w' => e = .returned (.bool true) ∧ Below w.heap.size w w' := by
  go_enter Tryz.func215, Tryz.ntmps215
  go_wp2_with fail
  go_ret
  exact ⟨rfl, (Below.refl _ w).alloc (Nat.le_refl _) _⟩
set_option maxRecDepth 20000 in
set_option maxHeartbeats 1000000 in
theorem kids_call (s : ByteArray) (n r t : Int) (ao : Option Addr) (m c : Nat) (w : World) : Calls Tryz.prog 215 #[.agg (ndL 12 s n r t (.slice ao m c)).toArray] w fun e w' => e = .returned (.bool true) ∧ Below w.heap.size w w' := by
  go_enter Tryz.func215, Tryz.ntmps215
  go_wp2_with fail
  go_ret
  exact ⟨rfl, (Below.refl _ w).alloc (Nat.le_refl _) _⟩
end Go.Proofs.YtpcjfgihglfdgaaGreatDoor

namespace Go.Proofs.YtpcjfgihglfdgaaGreatDoor
open Go.RowKit Go.Lib

set_option maxRecDepth 20000 in
set_option maxHeartbeats 4000000 in
theorem bare_ref (r : Int) (w : World)(hr : 0 ≤ r ∧ r < 200) : Calls Tryz.prog 214 #[.agg (ndL 5 ⟨#[]⟩ 0 r 0 nilV).toArray] w fun e w' => e = .returned (.bool true) ∧ Below w.heap.size w w' := by
  have HDR := hid (fun w => show Calls Tryz.prog 36 #[.agg (refZL r).toArray] w fun e w' => e = .returned (.bool true) ∧ Below w.heap.size w w' from by
    obtain ⟨m, hm⟩ := Int.eq_ofNat_of_zero_le hr.1
    subst hm
    exact refRight_any m (by omega) w)
  have HEQ := hid (fun w => eq_ref_n r hr w)
  have HEZ := hid (fun w => eq_ref_n 0 (by omega) w)
  have HED := hid (fun w => eq_dec_n 0 (.inl rfl) w)
  clear hr
  have A1 : Nd w.heap.size (ndL 5 ⟨#[]⟩ 0 r 0 nilV) (((w.alloc (.cells (ndL 5 ⟨#[]⟩ 0 r 0 nilV).toArray 79)).alloc (.cells (ndL 0 ⟨#[]⟩ 0 0 0 nilV).toArray 79)).setRow (w.heap.size + 1) (ndL 5 ⟨#[]⟩ 0 0 0 nilV).toArray) := heap_setRow_far (heap_alloc_keep (heap_alloc_new w _) _) (by omega) _
  have W1 : Nd (w.heap.size + 1) (ndL 5 ⟨#[]⟩ 0 0 0 nilV) (((w.alloc (.cells (ndL 5 ⟨#[]⟩ 0 r 0 nilV).toArray 79)).alloc (.cells (ndL 0 ⟨#[]⟩ 0 0 0 nilV).toArray 79)).setRow (w.heap.size + 1) (ndL 5 ⟨#[]⟩ 0 0 0 nilV).toArray) := heap_setRow_at (heap_alloc2_new w _ _)
  have B1 := hid (((((Chg.refl [] w).alloc (.cells (ndL 5 ⟨#[]⟩ 0 r 0 nilV).toArray 79)).alloc (.cells (ndL 0 ⟨#[]⟩ 0 0 0 nilV).toArray 79)).setRow (g := w.heap.size + 1) (.inr (by omega)) (ndL 5 ⟨#[]⟩ 0 0 0 nilV).toArray).nil_below)
  have a0 := cell_of (i := 0) A1 rfl
  have HA := hid A1
  have HW := hid W1
  clear A1 W1
  go_enter Tryz.func214, Tryz.ntmps214
  generalize h37 : Code.seq (Code.region 37 _ _) _ = c37
  generalize Code.seq (Code.region 15 _ _) _ = cB
  go_wp2_with (refine wpList_store_row rfl 79 _ _ rfl (w.heap.size + 1) (ndL 5 ⟨#[]⟩ 0 0 0 nilV).toArray rfl rfl 79 _ (heap_alloc2_new w _ _) (nd_info 5 ⟨#[]⟩ 0 0 0 nilV) (by rfl) (nd_one 5 ⟨#[]⟩ 0 0 0 none 0 0) ?_)
  clear a0
  generalize World.setRow _ _ _ = w1 at HA HW B1 ⊢
  obtain ⟨g, hg⟩ : ∃ g, g = w.heap.size := ⟨_, rfl⟩
  obtain ⟨g3, hg3⟩ : ∃ g3, g3 = w.heap.size + 1 := ⟨_, rfl⟩
  rw [← hg] at HA
  rw [← hg3] at HW
  rw [← hg3, ← hg]
  have hgg : g ≠ g3 := by omega
  have hgg' : g3 ≠ g := by omega
  have HG3 := hid (show w.heap.size ≤ g3 by omega)
  clear hg hg3
  have b6 : w1.cell? ⟨g, 6, none⟩ = some (.string ⟨#[]⟩) := cell_of HA.out rfl
  have b7 : w1.cell? ⟨g, 7, none⟩ = some (.int .i64 r) := cell_of HA.out rfl
  have b8 : w1.cell? ⟨g, 8, none⟩ = some (.int .i64 0) := cell_of HA.out rfl
  have b9 : w1.cell? ⟨g, 9, none⟩ = some (.bool false) := cell_of HA.out rfl
  have b10 : w1.cell? ⟨g, 10, none⟩ = some (.bool false) := cell_of HA.out rfl
  have b11 : w1.cell? ⟨g, 11, none⟩ = some (.bool false) := cell_of HA.out rfl
  have e6 : w1.cell? ⟨g3, 6, none⟩ = some (.string ⟨#[]⟩) := cell_of HW.out rfl
  have e7 : w1.cell? ⟨g3, 7, none⟩ = some (.int .i64 0) := cell_of HW.out rfl
  have e8 : w1.cell? ⟨g3, 8, none⟩ = some (.int .i64 0) := cell_of HW.out rfl
  have e9 : w1.cell? ⟨g3, 9, none⟩ = some (.bool false) := cell_of HW.out rfl
  have e10 : w1.cell? ⟨g3, 10, none⟩ = some (.bool false) := cell_of HW.out rfl
  have e11 : w1.cell? ⟨g3, 11, none⟩ = some (.bool false) := cell_of HW.out rfl
  have f6 : w1.frozen? ⟨g3, 6, none⟩ = false := free_of HW.out
  have f7 : w1.frozen? ⟨g3, 7, none⟩ = false := free_of HW.out
  have f8 : w1.frozen? ⟨g3, 8, none⟩ = false := free_of HW.out
  have f9 : w1.frozen? ⟨g3, 9, none⟩ = false := free_of HW.out
  have f10 : w1.frozen? ⟨g3, 10, none⟩ = false := free_of HW.out
  have f11 : w1.frozen? ⟨g3, 11, none⟩ = false := free_of HW.out
  apply end_one (A := fun y => Nd g (ndL 5 ⟨#[]⟩ 0 r 0 nilV) y ∧ Nd g3 (ndL 5 ⟨#[]⟩ 0 r 0 nilV) y ∧ Below w.heap.size w y)
  · intro key
    go_region_with (first | (go_at_call 36; refine (HDR.out _).mono ?_; rintro e w2 ⟨rfl, b2⟩; have HA2 := hid (HA.out.keep ((Below.refl w1.heap.size w1).drew.trans b2)); have HW2 := hid (HW.out.keep ((Below.refl w1.heap.size w1).drew.trans b2)); have HB2 := hid (B1.out.trans (((Below.refl w1.heap.size w1).drew.trans b2).mono B1.out.size)); have bb6 : w2.cell? ⟨g, 6, none⟩ = some (.string ⟨#[]⟩) := cell_of HA2.out rfl; have bb7 : w2.cell? ⟨g, 7, none⟩ = some (.int .i64 r) := cell_of HA2.out rfl; have bb8 : w2.cell? ⟨g, 8, none⟩ = some (.int .i64 0) := cell_of HA2.out rfl; have bb9 : w2.cell? ⟨g, 9, none⟩ = some (.bool false) := cell_of HA2.out rfl; have bb10 : w2.cell? ⟨g, 10, none⟩ = some (.bool false) := cell_of HA2.out rfl; have bb11 : w2.cell? ⟨g, 11, none⟩ = some (.bool false) := cell_of HA2.out rfl; have ee6 : w2.cell? ⟨g3, 6, none⟩ = some (.string ⟨#[]⟩) := cell_of HW2.out rfl; have ee7 : w2.cell? ⟨g3, 7, none⟩ = some (.int .i64 0) := cell_of HW2.out rfl; have ee8 : w2.cell? ⟨g3, 8, none⟩ = some (.int .i64 0) := cell_of HW2.out rfl; have ee9 : w2.cell? ⟨g3, 9, none⟩ = some (.bool false) := cell_of HW2.out rfl; have ee10 : w2.cell? ⟨g3, 10, none⟩ = some (.bool false) := cell_of HW2.out rfl; have ee11 : w2.cell? ⟨g3, 11, none⟩ = some (.bool false) := cell_of HW2.out rfl; have ff6 : w2.frozen? ⟨g3, 6, none⟩ = false := free_of HW2.out; have ff7 : w2.frozen? ⟨g3, 7, none⟩ = false := free_of HW2.out; have ff8 : w2.frozen? ⟨g3, 8, none⟩ = false := free_of HW2.out; have ff9 : w2.frozen? ⟨g3, 9, none⟩ = false := free_of HW2.out; have ff10 : w2.frozen? ⟨g3, 10, none⟩ = false := free_of HW2.out; have ff11 : w2.frozen? ⟨g3, 11, none⟩ = false := free_of HW2.out))
    all_goals (try go_simp)
    all_goals exact key _ ⟨heap_setCell_far (heap_setCell_far (heap_setCell_far (heap_setCell_far (heap_setCell_far (heap_setCell_far (HA2.out) hgg _) hgg _) hgg _) hgg _) hgg _) hgg _, heap_setCell_at (i := 11) (heap_setCell_at (i := 10) (heap_setCell_at (i := 9) (heap_setCell_at (i := 8) (heap_setCell_at (i := 7) (heap_setCell_at (i := 6) (HW2.out) (.string ⟨#[]⟩)) (.int .i64 r)) (.int .i64 0)) (.bool false)) (.bool false)) (.bool false), ((((((HB2.out).setCell HG3.out _).setCell HG3.out _).setCell HG3.out _).setCell HG3.out _).setCell HG3.out _).setCell HG3.out _⟩
  · rintro y ⟨y1, y2, y3⟩
    have HY1 := hid y1
    have HY2 := hid y2
    have HY3 := hid y3
    clear y1 y2 y3 HA HW B1 b6 e6 f6 b7 e7 f7 b8 e8 f8 b9 e9 f9 b10 e10 f10 b11 e11 f11
    have x1 : y.cell? ⟨g, 1, none⟩ = some (.string ⟨#[]⟩) := cell_of HY1.out rfl
    have z1 : y.cell? ⟨g3, 1, none⟩ = some (.string ⟨#[]⟩) := cell_of HY2.out rfl
    have x2 : y.cell? ⟨g, 2, none⟩ = some (.int .i64 0) := cell_of HY1.out rfl
    have z2 : y.cell? ⟨g3, 2, none⟩ = some (.int .i64 0) := cell_of HY2.out rfl
    have x3 : y.cell? ⟨g, 3, none⟩ = some (.int .i64 0) := cell_of HY1.out rfl
    have z3 : y.cell? ⟨g3, 3, none⟩ = some (.int .i64 0) := cell_of HY2.out rfl
    have x4 : y.cell? ⟨g, 4, none⟩ = some (.bool false) := cell_of HY1.out rfl
    have z4 : y.cell? ⟨g3, 4, none⟩ = some (.bool false) := cell_of HY2.out rfl
    have x5 : y.cell? ⟨g, 5, none⟩ = some (.int .i64 0) := cell_of HY1.out rfl
    have z5 : y.cell? ⟨g3, 5, none⟩ = some (.int .i64 0) := cell_of HY2.out rfl
    have x6 : y.cell? ⟨g, 6, none⟩ = some (.string ⟨#[]⟩) := cell_of HY1.out rfl
    have z6 : y.cell? ⟨g3, 6, none⟩ = some (.string ⟨#[]⟩) := cell_of HY2.out rfl
    have x7 : y.cell? ⟨g, 7, none⟩ = some (.int .i64 r) := cell_of HY1.out rfl
    have z7 : y.cell? ⟨g3, 7, none⟩ = some (.int .i64 r) := cell_of HY2.out rfl
    have x8 : y.cell? ⟨g, 8, none⟩ = some (.int .i64 0) := cell_of HY1.out rfl
    have z8 : y.cell? ⟨g3, 8, none⟩ = some (.int .i64 0) := cell_of HY2.out rfl
    have x9 : y.cell? ⟨g, 9, none⟩ = some (.bool false) := cell_of HY1.out rfl
    have z9 : y.cell? ⟨g3, 9, none⟩ = some (.bool false) := cell_of HY2.out rfl
    have x10 : y.cell? ⟨g, 10, none⟩ = some (.bool false) := cell_of HY1.out rfl
    have z10 : y.cell? ⟨g3, 10, none⟩ = some (.bool false) := cell_of HY2.out rfl
    have x11 : y.cell? ⟨g, 11, none⟩ = some (.bool false) := cell_of HY1.out rfl
    have z11 : y.cell? ⟨g3, 11, none⟩ = some (.bool false) := cell_of HY2.out rfl
    have x12 : y.cell? ⟨g, 12, none⟩ = some (.string ⟨#[]⟩) := cell_of HY1.out rfl
    have z12 : y.cell? ⟨g3, 12, none⟩ = some (.string ⟨#[]⟩) := cell_of HY2.out rfl
    have x13 : y.cell? ⟨g, 13, none⟩ = some (.int .i64 0) := cell_of HY1.out rfl
    have z13 : y.cell? ⟨g3, 13, none⟩ = some (.int .i64 0) := cell_of HY2.out rfl
    have x14 : y.cell? ⟨g, 14, none⟩ = some (.int .i64 0) := cell_of HY1.out rfl
    have z14 : y.cell? ⟨g3, 14, none⟩ = some (.int .i64 0) := cell_of HY2.out rfl
    have x15 : y.cell? ⟨g, 15, none⟩ = some (.bool false) := cell_of HY1.out rfl
    have z15 : y.cell? ⟨g3, 15, none⟩ = some (.bool false) := cell_of HY2.out rfl
    have x16 : y.cell? ⟨g, 16, none⟩ = some (.bool false) := cell_of HY1.out rfl
    have z16 : y.cell? ⟨g3, 16, none⟩ = some (.bool false) := cell_of HY2.out rfl
    have x17 : y.cell? ⟨g, 17, none⟩ = some (.bool false) := cell_of HY1.out rfl
    have z17 : y.cell? ⟨g3, 17, none⟩ = some (.bool false) := cell_of HY2.out rfl
    have x18 : y.cell? ⟨g, 18, none⟩ = some (.int .i64 0) := cell_of HY1.out rfl
    have z18 : y.cell? ⟨g3, 18, none⟩ = some (.int .i64 0) := cell_of HY2.out rfl
    have q1 := HED.out
    have q2 := HEQ.out
    have q3 := HEZ.out
    subst h37
    clear HY1 HY2 hgg hgg' HG3
    go_wp2_with fail
    go_ret
    exact ⟨rfl, HY3.out⟩
end Go.Proofs.YtpcjfgihglfdgaaGreatDoor
