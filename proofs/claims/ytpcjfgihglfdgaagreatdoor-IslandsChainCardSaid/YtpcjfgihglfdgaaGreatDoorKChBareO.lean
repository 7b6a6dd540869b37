/- Contracts of tree.bare at the nodes of the law's formulas. Condition: utf8's tables lie as they were laid (at a call). Trees in memory: nodes of 20 cells, whose kids lie in rows of new memory. No condition. Contracts of the parser at the pieces of "1": primary, signed, expr. No condition. Contracts of the parser's expr, of tree.Parse and tree.Read at "1". No condition. What the parser's functions answer at pieces, as rules; contracts of span, primary, signed. Condition: what the package-level variables hold lies as it was laid (at a call). -/
import Derived.Test.YtpcjfgihglfdgaaGreatDoorKSpTreeA
import Derived.Deep.MidRow
import Derived.Defers
import Derived.Recover

namespace Go.Proofs.YtpcjfgihglfdgaaGreatDoor
open Go.RowKit Go.Lib

set_option maxRecDepth 20000 in
set_option maxHeartbeats 4000000 in
theorem bare_op (ao : Option Addr) (c : Nat) (w : World) : Calls Tryz.prog 214 #[.agg (ndL 9 (bs [43]) 0 0 0 (.slice ao 2 c)).toArray] w fun e w' => e = .returned (.bool true) ∧ Below w.heap.size w w' := by
  have HOP := hid (fun w => show Calls Tryz.prog 268 #[.string (bs [43])] w fun e w' => e = .returned (.int .i64 3) ∧ w = w' from operator_any 43 (.inl rfl) w)
  have HEZ := hid (fun w => eq_ref_n 0 (by omega) w)
  have HED := hid (fun w => eq_dec_n 0 (.inl rfl) w)
  have A1 : Nd w.heap.size (ndL 9 (bs [43]) 0 0 0 (.slice ao 2 c)) (((w.alloc (.cells (ndL 9 (bs [43]) 0 0 0 (.slice ao 2 c)).toArray 79)).alloc (.cells (ndL 0 ⟨#[]⟩ 0 0 0 nilV).toArray 79)).setRow (w.heap.size + 1) (ndL 9 ⟨#[]⟩ 0 0 0 nilV).toArray) := heap_setRow_far (heap_alloc_keep (heap_alloc_new w _) _) (by omega) _
  have W1 : Nd (w.heap.size + 1) (ndL 9 ⟨#[]⟩ 0 0 0 nilV) (((w.alloc (.cells (ndL 9 (bs [43]) 0 0 0 (.slice ao 2 c)).toArray 79)).alloc (.cells (ndL 0 ⟨#[]⟩ 0 0 0 nilV).toArray 79)).setRow (w.heap.size + 1) (ndL 9 ⟨#[]⟩ 0 0 0 nilV).toArray) := heap_setRow_at (heap_alloc2_new w _ _)
  have B1 := hid (((((Chg.refl [] w).alloc (.cells (ndL 9 (bs [43]) 0 0 0 (.slice ao 2 c)).toArray 79)).alloc (.cells (ndL 0 ⟨#[]⟩ 0 0 0 nilV).toArray 79)).setRow (g := w.heap.size + 1) (.inr (by omega)) (ndL 9 ⟨#[]⟩ 0 0 0 nilV).toArray).nil_below)
  have a0 := cell_of (i := 0) A1 rfl
  have HA := hid A1
  have HW := hid W1
  clear A1 W1
  go_enter Tryz.func214, Tryz.ntmps214
  generalize h37 : Code.seq (Code.region 37 _ _) _ = c37
  generalize Code.seq (Code.region 24 _ _) _ = cB
  go_wp2_with (refine wpList_store_row rfl 79 _ _ rfl (w.heap.size + 1) (ndL 9 ⟨#[]⟩ 0 0 0 nilV).toArray rfl rfl 79 _ (heap_alloc2_new w _ _) (nd_info 9 ⟨#[]⟩ 0 0 0 nilV) (by rfl) (nd_one 9 ⟨#[]⟩ 0 0 0 none 0 0) ?_)
  clear a0
  generalize World.setRow _ _ _ = w1 at HA HW B1 ⊢
  obtain ⟨g, hg⟩ : ∃ g, g = w.heap.size := ⟨_, rfl⟩
  obtain ⟨g3, hg3⟩ : ∃ g3, g3 = w.heap.size + 1 := ⟨_, rfl⟩
  rw [← hg] at HA
  rw [← hg3] at HW
  rw [← hg3, ← hg]
  have hgg : g ≠ g3 := by omega
  have hgg' : g3 ≠ g := by omega
  have HG3 := hid (show w.heap.size ≤ g3 by omega)
  clear hg hg3
  have b1 : w1.cell? ⟨g, 1, none⟩ = some (.string (bs [43])) := cell_of HA.out rfl
  have e1 : w1.cell? ⟨g3, 1, none⟩ = some (.string ⟨#[]⟩) := cell_of HW.out rfl
  have f1 : w1.frozen? ⟨g3, 1, none⟩ = false := free_of HW.out
  apply end_one (A := fun y => Nd g (ndL 9 (bs [43]) 0 0 0 (.slice ao 2 c)) y ∧ Nd g3 (ndL 9 (bs [43]) 0 0 0 nilV) y ∧ Below w.heap.size w y)
  · intro key
    go_region_with (first | (go_at_call 268; refine (HOP.out _).mono ?_; rintro e w2 ⟨rfl, rfl⟩))
    all_goals (try go_simp)
    all_goals exact key _ ⟨heap_setCell_far (HA.out) hgg _, heap_setCell_at (i := 1) (HW.out) (.string (bs [43])), ((B1.out).setCell HG3.out _).drew⟩
  · rintro y ⟨y1, y2, y3⟩
    have HY1 := hid y1
    have HY2 := hid y2
    have HY3 := hid y3
    clear y1 y2 y3 HA HW B1 b1 e1 f1
    have x1 : y.cell? ⟨g, 1, none⟩ = some (.string (bs [43])) := cell_of HY1.out rfl
    have z1 : y.cell? ⟨g3, 1, none⟩ = some (.string (bs [43])) := cell_of HY2.out rfl
    have x2 : y.cell? ⟨g, 2, none⟩ = some (.int .i64 0) := cell_of HY1.out rfl
    have z2 : y.cell? ⟨g3, 2, none⟩ = some (.int .i64 0) := cell_of HY2.out rfl
    have x3 : y.cell? ⟨g, 3, none⟩ = some (.int .i64 0) := cell_of HY1.out rfl
    have z3 : y.cell? ⟨g3, 3, none⟩ = some (.int .i64 0) := cell_of HY2.out rfl
    have x4 : y.cell? ⟨g, 4, none⟩ = some (.bool false) := cell_of HY1.out rfl
    have z4 : y.cell? ⟨g3, 4, none⟩ = some (.bool false) := cell_of HY2.out rfl
    have x5 : y.cell? ⟨g, 5, none⟩ = some (.int .i64 0) := cell_of HY1.out rfl
    have z5 : y.cell? ⟨g3, 5, none⟩ = some (.int .i64 0) := cell_of HY2.out rfl
    have x6 : y.cell? ⟨g, 6, none⟩ = some (.string ⟨#[]⟩) := cell_of HY1.out rfl
    have z6 : y.cell? ⟨g3, 6, none⟩ = some (.string ⟨#[]⟩) := cell_of HY2.out rfl
    have x7 : y.cell? ⟨g, 7, none⟩ = some (.int .i64 0) := cell_of HY1.out rfl
    have z7 : y.cell? ⟨g3, 7, none⟩ = some (.int .i64 0) := cell_of HY2.out rfl
    have x8 : y.cell? ⟨g, 8, none⟩ = some (.int .i64 0) := cell_of HY1.out rfl
    have z8 : y.cell? ⟨g3, 8, none⟩ = some (.int .i64 0) := cell_of HY2.out rfl
    have x9 : y.cell? ⟨g, 9, none⟩ = some (.bool false) := cell_of HY1.out rfl
    have z9 : y.cell? ⟨g3, 9, none⟩ = some (.bool false) := cell_of HY2.out rfl
    have x10 : y.cell? ⟨g, 10, none⟩ = some (.bool false) := cell_of HY1.out rfl
    have z10 : y.cell? ⟨g3, 10, none⟩ = some (.bool false) := cell_of HY2.out rfl
    have x11 : y.cell? ⟨g, 11, none⟩ = some (.bool false) := cell_of HY1.out rfl
    have z11 : y.cell? ⟨g3, 11, none⟩ = some (.bool false) := cell_of HY2.out rfl
    have x12 : y.cell? ⟨g, 12, none⟩ = some (.string ⟨#[]⟩) := cell_of HY1.out rfl
    have z12 : y.cell? ⟨g3, 12, none⟩ = some (.string ⟨#[]⟩) := cell_of HY2.out rfl
    have x13 : y.cell? ⟨g, 13, none⟩ = some (.int .i64 0) := cell_of HY1.out rfl
    have z13 : y.cell? ⟨g3, 13, none⟩ = some (.int .i64 0) := cell_of HY2.out rfl
    have x14 : y.cell? ⟨g, 14, none⟩ = some (.int .i64 0) := cell_of HY1.out rfl
    have z14 : y.cell? ⟨g3, 14, none⟩ = some (.int .i64 0) := cell_of HY2.out rfl
    have x15 : y.cell? ⟨g, 15, none⟩ = some (.bool false) := cell_of HY1.out rfl
    have z15 : y.cell? ⟨g3, 15, none⟩ = some (.bool false) := cell_of HY2.out rfl
    have x16 : y.cell? ⟨g, 16, none⟩ = some (.bool false) := cell_of HY1.out rfl
    have z16 : y.cell? ⟨g3, 16, none⟩ = some (.bool false) := cell_of HY2.out rfl
    have x17 : y.cell? ⟨g, 17, none⟩ = some (.bool false) := cell_of HY1.out rfl
    have z17 : y.cell? ⟨g3, 17, none⟩ = some (.bool false) := cell_of HY2.out rfl
    have x18 : y.cell? ⟨g, 18, none⟩ = some (.int .i64 0) := cell_of HY1.out rfl
    have z18 : y.cell? ⟨g3, 18, none⟩ = some (.int .i64 0) := cell_of HY2.out rfl
    have q1 := HED.out
    have q3 := HEZ.out
    subst h37
    clear HY1 HY2 hgg hgg' HG3
    go_wp2_with fail
    go_ret
    exact ⟨rfl, HY3.out⟩
end Go.Proofs.YtpcjfgihglfdgaaGreatDoor

namespace Go.Proofs.YtpcjfgihglfdgaaGreatDoor
open Go.RowKit Go.Lib

/-- a reference's parts -/
structure Rf where
  sh : ByteArray
  row : Int
  col : Int
  fr : Bool
  fc : Bool
  bad : Bool
/-- a node's own parts: all but its kids -/
structure Ow where
  k : Int
  s : ByteArray
  n : Int
  e : Int
  b : Bool
  er : Int
  ref : Rf
  tr : Rf
  rows : Int
abbrev Rf.cells (r : Rf) : List Value := [.string r.sh, .int .i64 r.row, .int .i64 r.col, .bool r.fr, .bool r.fc, .bool r.bad]
abbrev Ow.cells (o : Ow) (kv : Value) : List Value := [.int .i64 o.k, .string o.s, .int .i64 o.n, .int .i64 o.e, .bool o.b, .int .i64 o.er, .string o.ref.sh, .int .i64 o.ref.row, .int .i64 o.ref.col, .bool o.ref.fr, .bool o.ref.fc, .bool o.ref.bad, .string o.tr.sh, .int .i64 o.tr.row, .int .i64 o.tr.col, .bool o.tr.fr, .bool o.tr.fc, .bool o.tr.bad, .int .i64 o.rows, kv]
abbrev rfZ (r : Int) : Rf := ⟨⟨#[]⟩, r, 0, false, false, false⟩
theorem ow_info (o : Ow) (kv : Value) : (Tryz.prog.info? 79).map (·.size) = some (o.cells kv).toArray.size := by
  have : (Tryz.prog.info? 79).map (·.size) = some 20 := by kernel_rfl
  rw [this]
  rfl
theorem ow_one (o : Ow) (ao : Option Addr) (m c : Nat) : (o.cells (.slice ao m c)).toArray.all (·.oneCell') = true := by simp [Value.oneCell']

/-- nodes, with their kids -/
inductive Fo where
  | nil
  | cons (o : Ow) (kids rest : Fo)
def Fo.len : Fo → Nat
  | .nil => 0
  | .cons _ _ r => r.len + 1
def Fo.app : Fo → Fo → Fo
  | .nil, g => g
  | .cons o k r, g => .cons o k (r.app g)
def Fo.get : Fo → Nat → Option (Ow × Fo)
  | .nil, _ => none
  | .cons o k _, 0 => some (o, k)
  | .cons _ _ r, j + 1 => r.get j
theorem Fo.get_lt {f : Fo} : ∀ {j : Nat} {p : Ow × Fo}, f.get j = some p → j < f.len := by
  induction f with
  | nil => intro j p h; cases h
  | cons o k r _ ih =>
    intro j p h
    cases j with
    | zero => rw [Fo.len]; omega
    | succ j => have := ih (j := j) h; rw [Fo.len]; omega
theorem Fo.get_of_lt {f : Fo} : ∀ {j : Nat}, j < f.len → ∃ o k, f.get j = some (o, k) := by
  induction f with
  | nil => intro j h; exact absurd h (Nat.not_lt_zero _)
  | cons o k r _ ih =>
    intro j h
    cases j with
    | zero => exact ⟨o, k, rfl⟩
    | succ j => exact ih (j := j) (by rw [Fo.len] at h; omega)
theorem Fo.len_app (f g : Fo) : (f.app g).len = f.len + g.len := by
  induction f with
  | nil => simp [Fo.app, Fo.len]
  | cons o k r _ ih => rw [Fo.app, Fo.len, Fo.len, ih]; omega
/-- some nodes stand in a row, from a place on -/
def FoAt (w : World) (B : Nat → Prop) : Fo → Nat → Nat → Prop
  | .nil, _, _ => True
  | .cons o ks r, b, f => (∃ ao c, w.rangeAt b f (o.cells (.slice ao ks.len c)) ∧ ((ks = .nil ∧ ao = none ∧ c = 0) ∨ ∃ b' f', (ao = some ⟨b', f', none⟩ ∧ ks ≠ .nil) ∧ B b' ∧ FoAt w B ks b' f')) ∧ FoAt w B r b (f + 20)
/-- a slice of kids -/
def KidsV (w : World) (B : Nat → Prop) (kv : Value) (ks : Fo) : Prop := ∃ ao c, kv = .slice ao ks.len c ∧ ((ks = .nil ∧ ao = none ∧ c = 0) ∨ ∃ b' f', (ao = some ⟨b', f', none⟩ ∧ ks ≠ .nil) ∧ B b' ∧ FoAt w B ks b' f')
/-- a node as a value -/
def NodeV (w : World) (B : Nat → Prop) (v : List Value) (o : Ow) (ks : Fo) : Prop := ∃ kv, v = o.cells kv ∧ KidsV w B kv ks
theorem KidsV.nil (w : World) (B : Nat → Prop) : KidsV w B (.slice none 0 0) .nil := ⟨none, 0, rfl, .inl ⟨rfl, rfl, rfl⟩⟩
theorem KidsV.none {w : World} {B : Nat → Prop} {ao : Option Addr} {c : Nat} (h : KidsV w B (.slice ao Fo.nil.len c) .nil) : ao = none ∧ c = 0 := by
  obtain ⟨ao', c', e, h⟩ := h
  have e2 : (ao = ao' ∧ True) ∧ c = c' := by simpa [Fo.len] using e
  rcases h with h | ⟨_, _, e', _⟩
  · exact ⟨e2.1.1.trans h.2.1, e2.2.trans h.2.2⟩
  · exact absurd rfl e'.2
theorem FoAt.cons_iff {w : World} {B : Nat → Prop} {o : Ow} {ks r : Fo} {b f : Nat} : FoAt w B (.cons o ks r) b f ↔ (∃ v, NodeV w B v o ks ∧ w.rangeAt b f v) ∧ FoAt w B r b (f + 20) := by
  constructor
  · rintro ⟨⟨ao, c, h1, h2⟩, h3⟩
    exact ⟨⟨_, ⟨_, rfl, ao, c, rfl, h2⟩, h1⟩, h3⟩
  · rintro ⟨⟨v, ⟨kv, rfl, ao, c, rfl, h2⟩, h1⟩, h3⟩
    exact ⟨⟨ao, c, h1, h2⟩, h3⟩
theorem FoAt.keepc {w w' : World} {B : Nat → Prop} {fo : Fo} : ∀ {b f : Nat}, FoAt w B fo b f → (∀ p v, w.cell? p = some v → (p.block = b ∨ B p.block) → w'.cell? p = some v) → FoAt w' B fo b f := by
  induction fo with
  | nil => intro b f _ _; trivial
  | cons o ks r ihk ihr =>
    rintro b f ⟨⟨ao, c, h1, h2⟩, h3⟩ hc
    refine ⟨⟨ao, c, fun i x hx => hc _ _ (h1 i x hx) (.inl rfl), ?_⟩, ihr h3 hc⟩
    rcases h2 with h2 | ⟨b', f', e, hB, h2⟩
    · exact .inl h2
    · exact .inr ⟨b', f', e, hB, ihk h2 (fun p v hp hb => hc p v hp (by rcases hb with h | h; exact .inr (h ▸ hB); exact .inr h))⟩
theorem FoAt.keep {w w' : World} {B : Nat → Prop} {fo : Fo} {b f : Nat} (h : FoAt w B fo b f) (hb : Below w.heap.size w w') : FoAt w' B fo b f := h.keepc fun _ _ hp _ => cell_keep hp hb
theorem FoAt.chg {w w' : World} {B : Nat → Prop} {fo : Fo} {b f : Nat} {F : List Nat} (h : FoAt w B fo b f) (hc : Chg F w w') (hF : ∀ x ∈ F, ¬ B x) (hb : b ∉ F) : FoAt w' B fo b f :=
  h.keepc fun p _ hp hq => hc.cell hp (by rcases hq with h | h; exact h ▸ hb; exact fun hx => hF _ hx h)
theorem FoAt.get {w : World} {B : Nat → Prop} {fo : Fo} : ∀ {b f j : Nat} {o : Ow} {k : Fo}, FoAt w B fo b f → fo.get j = some (o, k) → ∃ ao c, w.rangeAt b (f + j * 20) (o.cells (.slice ao k.len c)) ∧ KidsV w B (.slice ao k.len c) k := by
  induction fo with
  | nil => intro b f j o k _ h; cases h
  | cons o' ks r _ ihr =>
    rintro b f j o k ⟨⟨ao, c, h1, h2⟩, h3⟩ h
    cases j with
    | zero =>
      have e : (o', ks) = (o, k) := Option.some.inj h
      obtain ⟨rfl, rfl⟩ := Prod.mk.inj e
      exact ⟨ao, c, by simpa using h1, ao, c, rfl, h2⟩
    | succ j =>
      obtain ⟨ao', c', h4, h5⟩ := ihr (j := j) h3 h
      have e : f + (j + 1) * 20 = f + 20 + j * 20 := by omega
      exact ⟨ao', c', by rw [e]; exact h4, h5⟩
theorem FoAt.mono {w : World} {B C : Nat → Prop} (hC : ∀ x, B x → C x) {fo : Fo} : ∀ {b f : Nat}, FoAt w B fo b f → FoAt w C fo b f := by
  induction fo with
  | nil => intro b f _; trivial
  | cons o ks r ihk ihr =>
    rintro b f ⟨⟨ao, c, h1, h2⟩, h3⟩
    refine ⟨⟨ao, c, h1, ?_⟩, ihr h3⟩
    rcases h2 with h2 | ⟨b', f', e, hB, h2⟩
    · exact .inl h2
    · exact .inr ⟨b', f', e, hC _ hB, ihk h2⟩
section
variable {w w' : World} {B C : Nat → Prop} {kv : Value} {ks : Fo} {v : List Value} {o : Ow} {F : List Nat}
theorem KidsV.keep (h : KidsV w B kv ks) (hb : Below w.heap.size w w') : KidsV w' B kv ks := by
  obtain ⟨ao, c, e, h⟩ := h
  refine ⟨ao, c, e, ?_⟩
  rcases h with h | ⟨b', f', e', hB, h⟩
  · exact .inl h
  · exact .inr ⟨b', f', e', hB, h.keep hb⟩
theorem KidsV.chg (h : KidsV w B kv ks) (hc : Chg F w w') (hF : ∀ x ∈ F, ¬ B x) : KidsV w' B kv ks := by
  obtain ⟨ao, c, e, h⟩ := h
  refine ⟨ao, c, e, ?_⟩
  rcases h with h | ⟨b', f', e', hB, h⟩
  · exact .inl h
  · exact .inr ⟨b', f', e', hB, h.chg hc hF (fun hx => hF _ hx hB)⟩
theorem KidsV.mono (h : KidsV w B kv ks) (hC : ∀ x, B x → C x) : KidsV w C kv ks := by
  obtain ⟨ao, c, e, h⟩ := h
  refine ⟨ao, c, e, ?_⟩
  rcases h with h | ⟨b', f', e', hB, h⟩
  · exact .inl h
  · exact .inr ⟨b', f', e', hC _ hB, h.mono hC⟩
theorem KidsV.put (h : KidsV w B kv ks) {g : Nat} (hg : ¬ B g) (cs : Array Value) : KidsV (w.setRow g cs) B kv ks := h.chg (F := [g]) ((Chg.refl [g] w).setRow (.inl (by simp)) cs) (by simpa using hg)
theorem FoAt.lt : ∀ {fo : Fo} {b f : Nat}, FoAt w B fo b f → FoAt w (fun x => B x ∧ x < w.heap.size) fo b f := by
  intro fo
  induction fo with
  | nil => intro b f _; trivial
  | cons o ks r ihk ihr =>
    rintro b f ⟨⟨ao, c, h1, h2⟩, h3⟩
    refine ⟨⟨ao, c, h1, ?_⟩, ihr h3⟩
    rcases h2 with h2 | ⟨b', f', e, hB, h2⟩
    · exact .inl h2
    · cases ks with
      | nil => exact absurd rfl e.2
      | cons o2 k2 r2 =>
        have h2' := h2
        obtain ⟨⟨ao2, c2, h4, _⟩, _⟩ := h2'
        exact .inr ⟨b', f', e, ⟨hB, World.block_lt_of_cell? _ _ (h4 0 _ rfl)⟩, ihk h2⟩
theorem KidsV.lt (h : KidsV w B kv ks) : KidsV w (fun x => B x ∧ x < w.heap.size) kv ks := by
  obtain ⟨ao, c, e, h⟩ := h
  refine ⟨ao, c, e, ?_⟩
  rcases h with h | ⟨b', f', e', hB, h⟩
  · exact .inl h
  · cases ks with
    | nil => exact absurd rfl e'.2
    | cons o2 k2 r2 =>
      have h' := h
      obtain ⟨⟨ao2, c2, h4, _⟩, _⟩ := h'
      exact .inr ⟨b', f', e', ⟨hB, World.block_lt_of_cell? _ _ (h4 0 _ rfl)⟩, h.lt⟩
/-- a row of the call's own that holds a node -/
def NdV (g : Nat) (v : List Value) (w : World) : Prop := w.heap[g]? = some (.cells v.toArray 79 (0, 0))
end
end Go.Proofs.YtpcjfgihglfdgaaGreatDoor

namespace Go.Proofs.YtpcjfgihglfdgaaGreatDoor
open Go.RowKit Go.Lib

section
variable {p tb tf tc : Nat} {w : World}
end
end Go.Proofs.YtpcjfgihglfdgaaGreatDoor

namespace Go.Proofs.YtpcjfgihglfdgaaGreatDoor
open Go.RowKit Go.Lib

section
variable {p tb tf tc : Nat} {w : World}
end

theorem results_three {fn : Func} {p q r : Tmp} {t1 t2 t3 : TypeId} (h : fn.results = #[.cell p t1, .cell q t2, .cell r t3]) (tmps : Array Value) (w : World) (a1 a2 a3 : Addr) (v1 v2 v3 : Value)
    (hp : tmps.getD p undef = .pointer (some a1)) (hq : tmps.getD q undef = .pointer (some a2)) (hr : tmps.getD r undef = .pointer (some a3))
    (h1 : (loadVar t1 a1).run Tryz.prog w = .ok v1 w) (h2 : (loadVar t2 a2).run Tryz.prog w = .ok v2 w) (h3 : (loadVar t3 a3).run Tryz.prog w = .ok v3 w) : (results fn tmps).run Tryz.prog w = .ok (.tuple #[v1, v2, v3]) w := by
  have hp' : tmps[p]?.getD undef = .pointer (some a1) := by simpa using hp
  have hq' : tmps[q]?.getD undef = .pointer (some a2) := by simpa using hq
  have hr' : tmps[r]?.getD undef = .pointer (some a3) := by simpa using hr
  simp [results, h, hp', hq', hr', asAddr, h1, h2, h3, Result.andThen]
set_option maxRecDepth 20000 in
set_option maxHeartbeats 1000000 in
theorem parse1_idle (a b c d : Value) (w : World) : CallsD Tryz.prog 150 #[a, b, c, d] .returning w fun e u' w' => e = .returned (.tuple #[]) ∧ u' = .returning ∧ w' = w := by
  refine callsD_of_wpS Tryz.func150 rfl fun c₀ cs hu => ?_
  apply wpS_seq
  apply wpS_region
  simp [wpOpsS, go_sem, recoverD, hu, Tryz.ntmps150, Exit.thenS]
  apply wpS_seq
  apply wpS_region
  simp [wpOpsS, go_sem, Exit.thenS]
  refine wpS_cond (t := false) (by simp [Act.eval, Array.replicate]) ?_
  simp only [Bool.false_eq_true, if_false]
  refine wpS_of_wp (wp_skip ?_)
  cases c₀
  simp_all [bodyPostS, results, Tryz.results150]
end Go.Proofs.YtpcjfgihglfdgaaGreatDoor

namespace Go.Proofs.YtpcjfgihglfdgaaGreatDoor
open Go.RowKit Go.Lib

/-- a parser, in a world in which what was laid ahead of it still lies -/
structure Pz (T : List (Int × ByteArray × Nat)) (p tb tf tc a : Nat) (w : World) : Prop where
  py : Py T p tb tf tc a w
  lt : tb < p
  env : ∃ y, Env y ∧ y.heap.size ≤ p ∧ Below y.heap.size y w
section
variable {T : List (Int × ByteArray × Nat)} {p tb tf tc a : Nat} {w w' : World}
theorem Pz.keep (h : Pz T p tb tf tc a w) (hb : Below w.heap.size w w') : Pz T p tb tf tc a w' :=
  ⟨h.py.keep hb, h.lt, by obtain ⟨y, h1, h2, h3⟩ := h.env; exact ⟨y, h1, h2, h3.trans (hb.mono h3.size)⟩⟩
theorem Pz.chg {F : List Nat} (h : Pz T p tb tf tc a w) (hc : Chg F w w') (hF : ∀ x ∈ F, p < x) : Pz T p tb tf tc a w' :=
  ⟨h.py.chg hc (fun hx => Nat.lt_irrefl _ (hF _ hx)) (fun hx => by have := hF _ hx; have := h.lt; omega), h.lt, by
    obtain ⟨y, h1, h2, h3⟩ := h.env
    exact ⟨y, h1, h2, h3.trans (hc.below (fun x hx => by have := hF _ hx; omega) h3.size)⟩⟩
theorem Pz.step (h : Pz T p tb tf tc a w) (b : Nat) : Pz T p tb tf tc b (w.setCell ⟨p, 1, none⟩ (.int .i64 b)) :=
  ⟨h.py.step b, h.lt, by obtain ⟨y, h1, h2, h3⟩ := h.env; exact ⟨y, h1, h2, h3.setCell h2 _⟩⟩
theorem Pz.row (h : Pz T p tb tf tc a w) {g : Nat} (hg : p < g) (cs : Array Value) : Pz T p tb tf tc a (w.setRow g cs) :=
  h.chg (F := [g]) ((Chg.refl [g] w).setRow (.inl (by simp)) cs) (by simpa using hg)
theorem Pz.cell (h : Pz T p tb tf tc a w) {g : Nat} (hg : p < g) (i : Nat) (u : Value) : Pz T p tb tf tc a (w.setCell ⟨g, i, none⟩ u) :=
  h.chg (F := [g]) ((Chg.refl [g] w).setCell (.inl (by simp)) u) (by simpa using hg)
theorem Pz.en (h : Pz T p tb tf tc a w) : Env w := by obtain ⟨y, h1, _, h3⟩ := h.env; exact h1.below h3
theorem Pz.plt (h : Pz T p tb tf tc a w) : p < w.heap.size := heap_lt h.py.par
end

/-- what a function of the parser answers: a node with its kids in new memory; the parser has gone on to a piece -/
def RetV (T : List (Int × ByteArray × Nat)) (p tb tf tc b : Nat) (o : Ow) (ks : Fo) (w : World) (e : Ending) (w' : World) : Prop :=
  ∃ ao c, e = .returned (.agg (o.cells (.slice ao ks.len c)).toArray) ∧ KidsV w' (w.heap.size ≤ ·) (.slice ao ks.len c) ks ∧ Pz T p tb tf tc b w' ∧ Chg [p] w w'
def OneOk (T : List (Int × ByteArray × Nat)) (a : Nat) (o : Ow) (b : Nat) : Prop := ∀ p tb tf tc w, Pz T p tb tf tc a w → Calls Tryz.prog 309 #[.pointer (some ⟨p, 0, none⟩)] w fun e w' => e = .returned (.agg (o.cells nilV).toArray) ∧ Pz T p tb tf tc b w' ∧ Chg [p] w w'
def SpanOk (T : List (Int × ByteArray × Nat)) (a : Nat) (o : Ow) (o' : Ow) (b : Nat) : Prop := ∀ p tb tf tc w, Pz T p tb tf tc a w → Calls Tryz.prog 308 #[.pointer (some ⟨p, 0, none⟩), .agg (o.cells nilV).toArray] w fun e w' => e = .returned (.agg (o'.cells nilV).toArray) ∧ Pz T p tb tf tc b w' ∧ Chg [p] w w'
def CallOk (T : List (Int × ByteArray × Nat)) (a : Nat) (o : Ow) (ks : Fo) (b : Nat) : Prop := ∀ p tb tf tc w, Pz T p tb tf tc a w → Calls Tryz.prog 307 #[.pointer (some ⟨p, 0, none⟩)] w (RetV T p tb tf tc b o ks w)
def PrimOk (T : List (Int × ByteArray × Nat)) (a : Nat) (o : Ow) (ks : Fo) (b : Nat) : Prop := ∀ p tb tf tc w, Pz T p tb tf tc a w → Calls Tryz.prog 266 #[.pointer (some ⟨p, 0, none⟩)] w (RetV T p tb tf tc b o ks w)
def SignOk (T : List (Int × ByteArray × Nat)) (a : Nat) (o : Ow) (ks : Fo) (b : Nat) : Prop := ∀ p tb tf tc w, Pz T p tb tf tc a w → Calls Tryz.prog 211 #[.pointer (some ⟨p, 0, none⟩)] w (RetV T p tb tf tc b o ks w)
def ExprOk (T : List (Int × ByteArray × Nat)) (a : Nat) (least : Int) (o : Ow) (ks : Fo) (b : Nat) : Prop := ∀ p tb tf tc w, Pz T p tb tf tc a w → Calls Tryz.prog 151 #[.pointer (some ⟨p, 0, none⟩), .int .i64 least] w (RetV T p tb tf tc b o ks w)
section
variable {T : List (Int × ByteArray × Nat)}
theorem has_none {p tb tf tc a : Nat} {w : World} (h : Pz T p tb tf tc a w) (c : UInt8) (hn : NoSign T a [c]) : Calls Tryz.prog 212 #[.pointer (some ⟨p, 0, none⟩), .string ⟨#[c]⟩] w fun e w' => e = .returned (.bool false) ∧ w = w' := has_no h.py hn
theorem is_none {p tb tf tc a : Nat} {w : World} (h : Pz T p tb tf tc a w) (c : UInt8) (hn : NoSign T a [c]) : Calls Tryz.prog 267 #[.pointer (some ⟨p, 0, none⟩), .string ⟨#[c]⟩, .int .i64 0] w fun e w' => e = .returned (.bool false) ∧ w = w' := is_no h.py hn
theorem has_some {p tb tf tc a : Nat} {w : World} (h : Pz T p tb tf tc a w) (c : UInt8) {q : Nat} (ht : T[a]? = some (8, bs [c], q)) : Calls Tryz.prog 212 #[.pointer (some ⟨p, 0, none⟩), .string ⟨#[c]⟩] w fun e w' => e = .returned (.bool true) ∧ Pz T p tb tf tc (a + 1) w' ∧ Chg [p] w w' := by
  refine (has_yes h.py ht).mono ?_
  rintro e w' ⟨rfl, h1, h2⟩
  obtain ⟨y, e1, e2, e3⟩ := h.env
  exact ⟨rfl, ⟨h1, h.lt, y, e1, e2, e3.trans (h2.below (by simpa using e2) e3.size)⟩, h2⟩
set_option maxRecDepth 20000 in
set_option maxHeartbeats 2000000 in
/-- a node that is no reference has no span -/
theorem span_other (a : Nat) (o : Ow) (hk : o.k ≠ 5) : SpanOk T a o o a := by
  intro p tb tf tc w h
  have A1 : NdV w.heap.size (o.cells nilV) ((w.alloc (.cells (o.cells nilV).toArray 79)).alloc (.cells (nodeL 0 0).toArray 79)) := heap_alloc_keep (heap_alloc_new w _) _
  have W1 : NdV (w.heap.size + 1) (nodeL 0 0) ((w.alloc (.cells (o.cells nilV).toArray 79)).alloc (.cells (nodeL 0 0).toArray 79)) := heap_alloc2_new w _ _
  have B1 := hid (((((Chg.refl [] w).alloc (.cells (o.cells nilV).toArray 79)).alloc (.cells (nodeL 0 0).toArray 79)).setRow (g := w.heap.size + 1) (.inr (by omega)) (o.cells nilV).toArray))
  have a0 := cell_of (i := 0) A1 rfl
  have HA := hid A1
  have HW := hid W1
  have n5 : (o.k != 5) = true := by simpa using hk
  have HP := hid h
  clear A1 W1 h
  go_enter Tryz.func308, Tryz.ntmps308
  go_wp2_with (first | (refine wpList_load_row rfl 79 _ rfl w.heap.size rfl 79 _ (0, 0) _ HA.out Tryz.underlying79 rfl (ow_info o nilV) ?_) | (refine wpList_store_row rfl 79 _ _ rfl (w.heap.size + 1) (o.cells nilV).toArray rfl rfl 79 _ HW.out (node_info 0 0) (by rfl) (ow_one o none 0 0) ?_))
  refine bodyPost_ret (v := .agg (o.cells nilV).toArray) (results_cell_row rfl _ _ (w.heap.size + 1) 79 (o.cells nilV).toArray (0, 0) _ rfl (heap_setRow_at HW.out) Tryz.underlying79 rfl (ow_info o nilV)) rfl ?_
  exact ⟨rfl, HP.out.chg B1.out (by simp), B1.out.mono (by simp)⟩
set_option maxRecDepth 20000 in
set_option maxHeartbeats 2000000 in
/-- a reference with no ':' behind it has no span -/
theorem span_ref (a : Nat) (o : Ow) (hk : o.k = 5) (hn : NoSign T a [58]) : SpanOk T a o o a := by
  intro p tb tf tc w h
  have A1 : NdV w.heap.size (o.cells nilV) ((w.alloc (.cells (o.cells nilV).toArray 79)).alloc (.cells (nodeL 0 0).toArray 79)) := heap_alloc_keep (heap_alloc_new w _) _
  have W1 : NdV (w.heap.size + 1) (nodeL 0 0) ((w.alloc (.cells (o.cells nilV).toArray 79)).alloc (.cells (nodeL 0 0).toArray 79)) := heap_alloc2_new w _ _
  have B0 := ((Below.refl w.heap.size w).alloc (Nat.le_refl _) (.cells (o.cells nilV).toArray 79)).alloc (by simp) (.cells (nodeL 0 0).toArray 79)
  have B1 := hid (((((Chg.refl [] w).alloc (.cells (o.cells nilV).toArray 79)).alloc (.cells (nodeL 0 0).toArray 79)).setRow (g := w.heap.size + 1) (.inr (by omega)) (o.cells nilV).toArray))
  have a0 := cell_of (i := 0) A1 rfl
  have HA := hid A1
  have HW := hid W1
  have n5 : (o.k != 5) = false := by simp [hk]
  have HI := hid (is_none (h.keep B0) 58 hn)
  have HP := hid h
  clear A1 W1 h hn B0 hk
  go_enter Tryz.func308, Tryz.ntmps308
  go_wp2_with fail
  refine HI.out.mono ?_
  rintro e w1 ⟨rfl, rfl⟩
  go_wp2_with (first | (refine wpList_load_row rfl 79 _ rfl w.heap.size rfl 79 _ (0, 0) _ HA.out Tryz.underlying79 rfl (ow_info o nilV) ?_) | (refine wpList_store_row rfl 79 _ _ rfl (w.heap.size + 1) (o.cells nilV).toArray rfl rfl 79 _ HW.out (node_info 0 0) (by rfl) (ow_one o none 0 0) ?_))
  refine bodyPost_ret (v := .agg (o.cells nilV).toArray) (results_cell_row rfl _ _ (w.heap.size + 1) 79 (o.cells nilV).toArray (0, 0) _ rfl (heap_setRow_at HW.out) Tryz.underlying79 rfl (ow_info o nilV)) rfl ?_
  exact ⟨rfl, HP.out.chg B1.out (by simp), B1.out.mono (by simp)⟩
set_option maxRecDepth 20000 in
set_option maxHeartbeats 2000000 in
/-- a piece that is a node alone, with its span -/
theorem prim_leaf {a b c : Nat} {o o' : Ow} {t : Int × ByteArray × Nat} (ht : T[a]? = some t) (hk : t.1 ≠ 7) (n40 : NoSign T a [40]) (n123 : NoSign T a [123]) (HO : OneOk T a o b) (HS : SpanOk T b o o' c) : PrimOk T a o' .nil c := by
  intro p tb tf tc w h
  have hp := h.plt
  have bA := ((Below.refl w.heap.size w).alloc (Nat.le_refl _) (.cells (nodeL 0 0).toArray 79)).alloc (by simp) (.cells (nodeL 0 0).toArray 79)
  have H0 := hid (h.keep bA)
  have C0 := hid (((Chg.refl [p] w).alloc (.cells (nodeL 0 0).toArray 79)).alloc (.cells (nodeL 0 0).toArray 79))
  have N2 := hid (show NdV w.heap.size (nodeL 0 0) ((w.alloc (.cells (nodeL 0 0).toArray 79)).alloc (.cells (nodeL 0 0).toArray 79)) from heap_alloc_keep (heap_alloc_new w _) _)
  have N3 := hid (show NdV (w.heap.size + 1) (nodeL 0 0) ((w.alloc (.cells (nodeL 0 0).toArray 79)).alloc (.cells (nodeL 0 0).toArray 79)) from heap_alloc2_new w _ _)
  obtain ⟨g2, hg2⟩ : ∃ g2, g2 = w.heap.size := ⟨_, rfl⟩
  obtain ⟨g3, hg3⟩ : ∃ g3, g3 = w.heap.size + 1 := ⟨_, rfl⟩
  have X40 := hid n40
  have X123 := hid n123
  have XT := hid ht
  have XO := hid HO
  have XS := hid HS
  have h7 : (t.1 == 7) = false := ne_beq hk
  have hlen := h.py.len
  have hlt := (List.getElem?_eq_some_iff.1 ht).1
  obtain ⟨n, hn⟩ : ∃ n, n = T.length := ⟨_, rfl⟩
  rw [← hn] at hlt hlen
  have XN := hid hn
  have hab : (((a : Int)) < (n : Int)) = True := by rw [eq_iff_iff, iff_true]; omega
  have hab' : (a < n) = True := by rw [eq_iff_iff, iff_true]; exact hlt
  clear h bA n40 n123 ht HO HS hk hn
  go_enter Tryz.func266, Tryz.ntmps266
  go_wp2_with fail
  generalize World.alloc (World.alloc _ _) _ = w0 at H0 C0 N2 N3 ⊢
  rw [← hg3] at N3 ⊢
  rw [← hg2] at N2 ⊢
  have HG := hid (show (g2 ≠ p ∧ g3 ≠ p) ∧ (p < g2 ∧ p < g3) ∧ (w.heap.size ≤ g2 ∧ w.heap.size ≤ g3) ∧ g2 ≠ g3 by omega)
  clear hg2 hg3 hp
  refine (has_none H0.out 40 X40.out).mono ?_
  rintro e w1 ⟨rfl, rfl⟩
  go_wp2_with fail
  refine (has_none H0.out 123 X123.out).mono ?_
  rintro e w1 ⟨rfl, rfl⟩
  have c0 := cell_of (i := 0) H0.out.py.par rfl
  have c1 := cell_of (i := 1) H0.out.py.par rfl
  rw [← XN.out] at c0
  obtain ⟨k0, -, -⟩ := H0.out.py.row a t XT.out
  go_wp2_with fail
  go_quiet (fail)
  have H1 := hid (H0.out.keep (below_drewN (Below.refl w0.heap.size w0) nq))
  have C1 := hid (C0.out.drewN nq)
  have N21 := hid (show NdV g2 (nodeL 0 0) (w0.drewN nq) from N2.out)
  have N31 := hid (show NdV g3 (nodeL 0 0) (w0.drewN nq) from N3.out)
  obtain ⟨w1, hw1⟩ : ∃ w1, w1 = w0.drewN nq := ⟨_, rfl⟩
  rw [← hw1] at H1 C1 N21 N31 ⊢
  clear hw1 c0 c1 k0 H0 C0 N2 N3 hab hab'
  go_wp2_with fail
  refine (XO.out _ _ _ _ _ H1.out).mono ?_
  rintro e w2 ⟨rfl, h2, hc2⟩
  have H2 := hid h2
  have C2 := hid (C1.out.trans hc2 (by simp))
  have N22 := hid (show NdV g2 (nodeL 0 0) w2 from hc2.heap N21.out (by simpa using HG.out.1.1))
  have N32 := hid (show NdV g3 (nodeL 0 0) w2 from hc2.heap N31.out (by simpa using HG.out.1.2))
  clear h2 hc2 H1 C1 N21 N31
  go_wp2_with fail
  refine (XS.out _ _ _ _ _ H2.out).mono ?_
  rintro e w3 ⟨rfl, h3, hc3⟩
  have H3 := hid h3
  have C3 := hid (C2.out.trans hc3 (by simp))
  have N23 := hid (show NdV g2 (nodeL 0 0) w3 from hc3.heap N22.out (by simpa using HG.out.1.1))
  have N33 := hid (show NdV g3 (nodeL 0 0) w3 from hc3.heap N32.out (by simpa using HG.out.1.2))
  clear h3 hc3 H2 C2 N22 N32
  go_wp2_with (refine wpList_store_row rfl 79 _ _ rfl g3 (o'.cells nilV).toArray rfl rfl 79 _ N33.out (node_info 0 0) (by rfl) (ow_one o' none 0 0) ?_)
  have N34 := hid (show NdV g3 (o'.cells nilV) (w3.setRow g3 (o'.cells nilV).toArray) from heap_setRow_at N33.out)
  have N24 := hid (show NdV g2 (nodeL 0 0) (w3.setRow g3 (o'.cells nilV).toArray) from heap_setRow_far N23.out HG.out.2.2.2 _)
  have H4 := hid (H3.out.row HG.out.2.1.2 (o'.cells nilV).toArray)
  have C4 := hid (C3.out.setRow (.inr HG.out.2.2.1.2) (o'.cells nilV).toArray)
  generalize World.setRow _ _ _ = w4 at N34 N24 H4 C4 ⊢
  clear N23 N33 H3 C3
  refine wp_loop_rounds 1 ?_
  rw [rounds_succ]
  go_wp2_with (first | (refine wpList_load_row rfl 79 _ rfl g3 rfl 79 _ (0, 0) _ N34.out Tryz.underlying79 rfl (ow_info o' nilV) ?_) | (refine wpList_store_row rfl 79 _ _ rfl g2 (o'.cells nilV).toArray rfl rfl 79 _ N24.out (node_info 0 0) (by rfl) (ow_one o' none 0 0) ?_))
  refine bodyPost_ret (v := .agg (o'.cells nilV).toArray) (results_cell_row rfl _ _ g2 79 (o'.cells nilV).toArray (0, 0) _ rfl (heap_setRow_at N24.out) Tryz.underlying79 rfl (ow_info o' nilV)) rfl ?_
  exact ⟨none, 0, rfl, KidsV.nil _ _, H4.out.row HG.out.2.1.1 _, C4.out.setRow (.inr HG.out.2.2.1.1) _⟩
set_option maxRecDepth 20000 in
set_option maxHeartbeats 2000000 in
/-- what has no sign ahead -/
theorem sign_plain {a b : Nat} {o : Ow} {ks : Fo} (n43 : NoSign T a [43]) (n45 : NoSign T a [45]) (HPr : PrimOk T a o ks b) : SignOk T a o ks b := by
  intro p tb tf tc w h
  have hp := h.plt
  have bA := ((Below.refl w.heap.size w).alloc (Nat.le_refl _) (.cells (nodeL 0 0).toArray 79)).alloc (by simp) (.cells #[.string ⟨#[43]⟩, .string ⟨#[45]⟩] 9)
  have H0 := hid (h.keep bA)
  have C0 := hid (((Chg.refl [p] w).alloc (.cells (nodeL 0 0).toArray 79)).alloc (.cells #[.string ⟨#[43]⟩, .string ⟨#[45]⟩] 9))
  have N2 := hid (show NdV w.heap.size (nodeL 0 0) ((w.alloc (.cells (nodeL 0 0).toArray 79)).alloc (.cells #[.string ⟨#[43]⟩, .string ⟨#[45]⟩] 9)) from heap_alloc_keep (heap_alloc_new w _) _)
  have S2 := heap_alloc2_new w (.cells (nodeL 0 0).toArray 79) (.cells #[.string ⟨#[43]⟩, .string ⟨#[45]⟩] 9)
  obtain ⟨g2, hg2⟩ : ∃ g2, g2 = w.heap.size := ⟨_, rfl⟩
  obtain ⟨g3, hg3⟩ : ∃ g3, g3 = w.heap.size + 1 := ⟨_, rfl⟩
  have X43 := hid n43
  have X45 := hid n45
  have XP := hid HPr
  clear h bA n43 n45 HPr
  go_enter Tryz.func211, Tryz.ntmps211
  go_wp2_with fail
  generalize World.alloc (World.alloc _ _) _ = w0 at H0 C0 N2 S2 ⊢
  rw [← hg3] at S2 ⊢
  rw [← hg2] at N2 ⊢
  have HG := hid (show g2 ≠ p ∧ p < g2 ∧ w.heap.size ≤ g2 by omega)
  clear hg2 hg3 hp
  have s0 : w0.cell? ⟨g3, 0, none⟩ = some (.string ⟨#[43]⟩) := cell_of S2 rfl
  have s1 : w0.cell? ⟨g3, 1, none⟩ = some (.string ⟨#[45]⟩) := cell_of S2 rfl
  clear S2
  refine wp_loop_rounds 3 ?_
  rw [rounds_succ]
  go_wp2_with fail
  refine (has_none H0.out 43 X43.out).mono ?_
  rintro e w1 ⟨rfl, rfl⟩
  go_wp2_with fail
  rw [rounds_succ]
  go_wp2_with fail
  refine (has_none H0.out 45 X45.out).mono ?_
  rintro e w1 ⟨rfl, rfl⟩
  go_wp2_with fail
  rw [rounds_succ]
  go_wp2_with fail
  refine (XP.out _ _ _ _ _ H0.out).mono ?_
  rintro e w1 ⟨ao, c, rfl, hk, h1, hc1⟩
  have N21 := hid (show NdV g2 (nodeL 0 0) w1 from hc1.heap N2.out (by simpa using HG.out.1))
  have H1 := hid h1
  have C1 := hid (C0.out.trans hc1 (by simp))
  have hl2 := heap_lt N2.out
  have S0 := hid C0.out.size
  have K1 := hid (show g2 < w0.heap.size ∧ KidsV w1 (w0.heap.size ≤ ·) (.slice ao ks.len c) ks from ⟨hl2, hk⟩)
  obtain ⟨n, hn⟩ : ∃ n, n = ks.len := ⟨_, rfl⟩
  have XN := hid hn
  rw [← hn] at K1 ⊢
  clear h1 hc1 N2 H0 C0 s0 s1 hk hn hl2
  go_wp2_with (refine wpList_store_row rfl 79 _ _ rfl g2 (o.cells (.slice ao n c)).toArray rfl rfl 79 _ N21.out (node_info 0 0) (by rfl) (ow_one o ao n c) ?_)
  refine bodyPost_ret (v := .agg (o.cells (.slice ao n c)).toArray) (results_cell_row rfl _ _ g2 79 (o.cells (.slice ao n c)).toArray (0, 0) _ rfl (heap_setRow_at N21.out) Tryz.underlying79 rfl (ow_info o (.slice ao n c))) rfl ?_
  refine ⟨ao, c, by rw [XN.out], ?_, H1.out.row HG.out.2.1 _, C1.out.setRow (.inr HG.out.2.2) _⟩
  rw [← XN.out]
  exact (K1.out.2.put (Nat.not_le.2 K1.out.1) _).mono (fun x hx => Nat.le_trans S0.out hx)
end
end Go.Proofs.YtpcjfgihglfdgaaGreatDoor
