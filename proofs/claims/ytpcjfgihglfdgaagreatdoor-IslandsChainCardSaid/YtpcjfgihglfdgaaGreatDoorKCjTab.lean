/- The tables that islands.Parts makes (parts, needs, readers) beside its walker, in memory; what each step leaves of them. The islands of a graph and their order, by what leads to what; they are told apart by nothing else. No program in sight. No condition. -/
import Derived.Test.YtpcjfgihglfdgaaGreatDoorKCjFam
import Derived.Test.YtpcjfgihglfdgaaGreatDoorKCjPlain2

namespace Go.Proofs.YtpcjfgihglfdgaaGreatDoor.Isl
open Go.RowKit Go.Lib

theorem infoT24 : (Tryz.prog.info? 42).map (fun i => (i.zero, i.size, i.bytes)) = some (some (.slice none 0 0), 1, 24) := by kernel_rfl
theorem make_rows (n : Nat) (h : n ≤ 100000) (u : World) : (Instr.makeSlice 30 (.int .i64 (n : Int)) (.int .i64 (n : Int))).run Tryz.prog u =
    .ok (.slice (some ⟨u.heap.size, 0, none⟩) n n) (u.alloc (.cells (List.replicate n (Value.slice none 0 0)).toArray 42)) := by
  obtain ⟨i0, hi, hz0, hz1, hz2⟩ := info_parts infoT24
  have h := run_make (P := Tryz.prog) u 30 42 i0 (.slice none 0 0) Tryz.underlying30 hi hz0 .i64 .i64 (n : Int) (n : Int) (by omega) (Int.le_refl _) (by rw [hz2]; omega) (by omega)
  have e : madeCells #[Value.slice none 0 0] n = (List.replicate n (Value.slice none 0 0)).toArray := by
    apply Array.ext'
    rw [toList_madeCells_one]
  simpa [hz1, Value.cells, e] using h

/-- parts under vs p, readers under vs (m + q), needs nd -/
structure Tab (w : World) (B wb : Nat) (ev : Value) (n bw bl bo : Nat) (ov : Value) (s : St) (m pbx pr nbx nr rr : Nat) (vs : Nat → Value) (xs : Nat → List Nat) (nd : Nat → Nat) : Prop where
  wat : WAt w B wb ev n bw bl bo ov s
  hpb : w.heap[pbx]? = some (.cells #[.slice (some ⟨pr, 0, none⟩) m m] 30 (0, 0))
  hnb : w.heap[nbx]? = some (.cells #[.slice (some ⟨nr, 0, none⟩) m m] 42 (0, 0))
  rp : RowV w pr m vs
  rq : RowV w rr m (fun q => vs (m + q))
  rn : RowF w nr m (natI nd)
  rows : Rows3 w B (2 * m) vs xs (wb :: bw :: bl :: bo :: nr :: own ov)
  n1 : pr ≠ rr
  n2 : pr ≠ nbx
  n3 : rr ≠ nbx
  n4 : nr ≠ bw ∧ nr ≠ bl ∧ nr ≠ bo ∧ nr ∉ own ov
  b1 : B ≤ pr
  b2 : B ≤ rr
  b3 : B ≤ nr

section
variable {w w2 : World} {B wb n bw bl bo m pbx pr nbx nr rr i : Nat} {ev ov : Value} {s : St} {vs vs' : Nat → Value} {xs xs' : Nat → List Nat} {nd : Nat → Nat}

theorem Tab.size (T : Tab w B wb ev n bw bl bo ov s m pbx pr nbx nr rr vs xs nd) : B ≤ w.heap.size := by have := T.b3; have := T.rn.lt; omega
/-- a step that writes none of the tables' own blocks -/
theorem Tab.keep {F : List Nat} (T : Tab w B wb ev n bw bl bo ov s m pbx pr nbx nr rr vs xs nd) (h : Chg F w w2) (hF : ∀ b ∈ F, b ∉ [pbx, pr, nbx, nr, rr, wb, bw, bl, bo] ∧ b ∉ own ov) (hR : Rows3 w2 B (2 * m) vs' xs' (wb :: bw :: bl :: bo :: nr :: own ov))
    (hp : RowV w2 pr m vs') (hq : RowV w2 rr m (fun q => vs' (m + q))) : Tab w2 B wb ev n bw bl bo ov s m pbx pr nbx nr rr vs' xs' nd := by
  have no : ∀ b, b ∈ [pbx, pr, nbx, nr, rr, wb, bw, bl, bo] → b ∉ F := fun b hb hm => (hF b hm).1 hb
  have A := T.wat
  exact ⟨⟨h.heap A.hd (no wb (by simp)), A.rw.chg h (no bw (by simp)), A.rl.chg h (no bl (by simp)), A.ro.chg h (no bo (by simp)), h.owns A.op (fun g hg hm => (hF g hm).2 (by simp [own, hg])), A.wl, A.wo, A.lo, A.ow, A.b0, A.b1, A.b2, A.b3⟩,
    h.heap T.hpb (no pbx (by simp)), h.heap T.hnb (no nbx (by simp)), hp, hq, T.rn.chg h (no nr (by simp)), hR, T.n1, T.n2, T.n3, T.n4, T.b1, T.b2, T.b3⟩

/-- the rows of ints are none of the tables' own blocks -/
theorem Tab.rowfar (T : Tab w B wb ev n bw bl bo ov s m pbx pr nbx nr rr vs xs nd) (hi : i < 2 * m) : ∀ b ∈ own (vs i), b ∉ [pbx, pr, nbx, nr, rr, wb, bw, bl, bo] ∧ b ∉ own ov := by
  intro b hb
  simp only [own, Option.mem_toList] at hb
  have hf := T.rows.far i hi b hb
  obtain ⟨cur, hc⟩ := owns_cells (T.rows.row i hi) hb
  simp only [List.mem_cons, not_or] at hf
  obtain ⟨f1, f2, f3, f4, f5, f6⟩ := hf
  refine ⟨?_, f6⟩
  simp only [List.mem_cons, List.not_mem_nil, or_false, not_or]
  exact ⟨heap_ne hc T.hpb (by decide), heap_ne hc T.rp (by decide), heap_ne hc T.hnb (by decide), f5, heap_ne hc T.rq (by decide), f1, f2, f3, f4⟩

theorem Tab.low (T : Tab w B wb ev n bw bl bo ov s m pbx pr nbx nr rr vs xs nd) : ∀ b ∈ wb :: bw :: bl :: bo :: nr :: own ov, b < w.heap.size := by
  intro b hb
  simp only [List.mem_cons] at hb
  rcases hb with rfl | rfl | rfl | rfl | rfl | hb
  · exact heap_lt T.wat.hd
  · exact T.wat.rw.lt
  · exact T.wat.rl.lt
  · exact T.wat.ro.lt
  · exact T.rn.lt
  · simp only [own, Option.mem_toList] at hb
    exact (T.wat.op.lt b hb).2

/-- one more node in a part, or one more reader -/
theorem Tab.app (T : Tab w B wb ev n bw bl bo ov s m pbx pr nbx nr rr vs xs nd) (hi : i < 2 * m) (hl : (xs i).length ≤ 1000000) (x : Nat) :
    ∃ a c w2, (Builtin.append_ #[42, 42] 42 #[vs i, .slice (some ⟨w.heap.size, 0, none⟩) 1 1]).run Tryz.prog (w.alloc (.cells #[.int .i64 (x : Int)] 3)) = .ok (.slice a ((xs i).length + 1) c) w2 ∧ Chg (own (vs i)) w w2 ∧
      (i < m → Tab (w2.setCell ⟨pr, i, none⟩ (.slice a ((xs i).length + 1) c)) B wb ev n bw bl bo ov s m pbx pr nbx nr rr (upd vs i (.slice a ((xs i).length + 1) c)) (upd xs i (xs i ++ [x])) nd) ∧
      (∀ q, i = m + q → Tab (w2.setCell ⟨rr, q, none⟩ (.slice a ((xs i).length + 1) c)) B wb ev n bw bl bo ov s m pbx pr nbx nr rr (upd vs i (.slice a ((xs i).length + 1) c)) (upd xs i (xs i ++ [x])) nd) := by
  obtain ⟨a, c, w2, h1, h2, h3⟩ := T.rows.app hi T.size hl T.low x
  have far := T.rowfar hi
  have hp2 := T.rp.chg h3 (fun hm => (far pr hm).1 (by simp))
  have hq2 := T.rq.chg h3 (fun hm => (far rr hm).1 (by simp))
  have hnb2 := h3.heap T.hnb (fun hm => (far nbx hm).1 (by simp))
  have hpb2 := h3.heap T.hpb (fun hm => (far pbx hm).1 (by simp))
  have A := T.wat
  have hd2 := h3.heap A.hd (fun hm => (far wb hm).1 (by simp))
  have rn2 := T.rn.chg h3 (fun hm => (far nr hm).1 (by simp))
  have rw2 := A.rw.chg h3 (fun hm => (far bw hm).1 (by simp))
  have rl2 := A.rl.chg h3 (fun hm => (far bl hm).1 (by simp))
  have ro2 := A.ro.chg h3 (fun hm => (far bo hm).1 (by simp))
  have op2 := h3.owns A.op (fun g hg hm => (far g hm).2 (by simp [own, hg]))
  have nv : ∀ (b : Nat), (∃ cs, w2.heap[b]? = some (.cells cs 42 (0, 0))) → ∀ p, p < 2 * m → (upd vs i (.slice a ((xs i).length + 1) c) p).ownBlock ≠ some b := by
    rintro b ⟨cs, hcs⟩ p hp he
    obtain ⟨cur, hc⟩ := owns_cells (h2.row p hp) he
    exact heap_ne hc hcs (by decide) rfl
  have nov : ∀ (b : Nat), (∃ cs, w2.heap[b]? = some (.cells cs 42 (0, 0))) → b ∉ own ov := by
    rintro b ⟨cs, hcs⟩ hm
    simp only [own, Option.mem_toList] at hm
    obtain ⟨cur, hc⟩ := owns_cells op2 hm
    exact heap_ne hc hcs (by decide) rfl
  have gen : ∀ (b k : Nat), (b = pr ∨ b = rr) → (∃ cs, w2.heap[b]? = some (.cells cs 42 (0, 0))) →
      RowV (w2.setCell ⟨b, k, none⟩ (.slice a ((xs i).length + 1) c)) pr m (upd vs i (.slice a ((xs i).length + 1) c)) → RowV (w2.setCell ⟨b, k, none⟩ (.slice a ((xs i).length + 1) c)) rr m (fun q => upd vs i (.slice a ((xs i).length + 1) c) (m + q)) →
      Tab (w2.setCell ⟨b, k, none⟩ (.slice a ((xs i).length + 1) c)) B wb ev n bw bl bo ov s m pbx pr nbx nr rr (upd vs i (.slice a ((xs i).length + 1) c)) (upd xs i (xs i ++ [x])) nd := by
    intro b k hbb hcs r1 r2
    have ch : Chg [b] w2 (w2.setCell ⟨b, k, none⟩ (.slice a ((xs i).length + 1) c)) := (Chg.refl _ w2).setCell (by simp) _
    obtain ⟨cs, hcs'⟩ := hcs
    have d1 : wb ∉ [b] := by simp only [List.mem_singleton]; exact heap_ne hd2 hcs' (by decide)
    have d2 : bw ∉ [b] := by simp only [List.mem_singleton]; exact heap_ne rw2 hcs' (by decide)
    have d3 : bl ∉ [b] := by simp only [List.mem_singleton]; exact heap_ne rl2 hcs' (by decide)
    have d4 : bo ∉ [b] := by simp only [List.mem_singleton]; exact heap_ne ro2 hcs' (by decide)
    have d5 : nr ∉ [b] := by simp only [List.mem_singleton]; exact heap_ne rn2 hcs' (by decide)
    have d6 : pbx ∉ [b] := by simp only [List.mem_singleton]; exact heap_ne hpb2 hcs' (by decide)
    have d7 : nbx ∉ [b] := by
      simp only [List.mem_singleton]
      have := T.n2; have := T.n3
      rcases hbb with rfl | rfl <;> omega
    refine ⟨⟨ch.heap hd2 d1, rw2.chg ch d2, rl2.chg ch d3, ro2.chg ch d4, ch.owns op2 (fun g hg hm => ?_), A.wl, A.wo, A.lo, A.ow, A.b0, A.b1, A.b2, A.b3⟩, ch.heap hpb2 d6, ch.heap hnb2 d7, r1, r2, rn2.chg ch d5, h2.chg ch (fun y hy => .inr ?_), T.n1, T.n2, T.n3, T.n4, T.b1, T.b2, T.b3⟩
    · simp only [List.mem_singleton] at hm
      subst hm
      exact nov g ⟨cs, hcs'⟩ (by simp [own, hg])
    · simp only [List.mem_singleton] at hy
      subst hy
      exact nv y ⟨cs, hcs'⟩
  refine ⟨a, c, w2, h1, h3, fun him => ?_, fun q hq => ?_⟩
  · refine gen pr i (.inl rfl) ⟨_, hp2⟩ (hp2.set _) ?_
    have e : (fun q => upd vs i (.slice a ((xs i).length + 1) c) (m + q)) = fun q => vs (m + q) := by
      funext q
      exact upd_far _ _ (by omega)
    rw [e]
    exact hq2.chg ((Chg.refl [pr] w2).setCell (by simp) _) (by simp only [List.mem_singleton]; exact T.n1.symm)
  · subst hq
    refine gen rr q (.inr rfl) ⟨_, hq2⟩ ?_ ?_
    · have h5 := hp2.chg ((Chg.refl [rr] w2).setCell (p := ⟨rr, q, none⟩) (by simp) (.slice a ((xs (m + q)).length + 1) c)) (by simp only [List.mem_singleton]; exact T.n1)
      unfold RowV at h5 ⊢
      rw [h5]
      refine congrArg some (congrArg (fun l => Obj.cells (List.toArray l) 42 (0, 0)) ?_)
      refine List.map_congr_left (fun p hp => ?_)
      simp only [List.mem_range] at hp
      exact (upd_far _ _ (by omega)).symm
    · have h5 := hq2.set (k := q) (.slice a ((xs (m + q)).length + 1) c)
      have e : (fun p => upd vs (m + q) (.slice a ((xs (m + q)).length + 1) c) (m + p)) = upd (fun p => vs (m + p)) q (.slice a ((xs (m + q)).length + 1) c) := by
        funext p
        unfold upd
        by_cases h : p = q
        · subst h; simp
        · simp [h]
      rw [e]
      exact h5

/-- behind the append the boxes and rows of slices stand as they did -/
theorem Tab.behind (T : Tab w B wb ev n bw bl bo ov s m pbx pr nbx nr rr vs xs nd) (hi : i < 2 * m) (h : Chg (own (vs i)) w w2) :
    w2.heap[pbx]? = some (.cells #[.slice (some ⟨pr, 0, none⟩) m m] 30 (0, 0)) ∧ RowV w2 pr m vs ∧ RowV w2 rr m (fun q => vs (m + q)) ∧ w2.heap[wb]? = w.heap[wb]? ∧ RowF w2 bo n (islI s.isl) := by
  have far := T.rowfar hi
  exact ⟨h.heap T.hpb (fun hm => (far pbx hm).1 (by simp)), T.rp.chg h (fun hm => (far pr hm).1 (by simp)), T.rq.chg h (fun hm => (far rr hm).1 (by simp)), h.block wb (heap_lt T.wat.hd) (fun hm => (far wb hm).1 (by simp)), T.wat.ro.chg h (fun hm => (far bo hm).1 (by simp))⟩
theorem Tab.drewN (T : Tab w B wb ev n bw bl bo ov s m pbx pr nbx nr rr vs xs nd) (k : Nat) : Tab (w.drewN k) B wb ev n bw bl bo ov s m pbx pr nbx nr rr vs xs nd :=
  T.keep ((Chg.refl [] w).drewN k) (by simp) (T.rows.chg ((Chg.refl [] w).drewN k) (by simp)) (T.rp.chg ((Chg.refl [] w).drewN k) (by simp)) (T.rq.chg ((Chg.refl [] w).drewN k) (by simp))
theorem Tab.blocks (T : Tab w B wb ev n bw bl bo ov s m pbx pr nbx nr rr vs xs nd) (hi : i < 2 * m) : ∀ b ∈ own (vs i), B ≤ b := fun b hb => by
  simp only [own, Option.mem_toList] at hb
  exact ((T.rows.row i hi).lt b hb).1

/-- needs turned at one place -/
theorem Tab.need (T : Tab w B wb ev n bw bl bo ov s m pbx pr nbx nr rr vs xs nd) (k v : Nat) : Tab (w.setCell ⟨nr, k, none⟩ (.int .i64 (v : Int))) B wb ev n bw bl bo ov s m pbx pr nbx nr rr vs xs (upd nd k v) := by
  have ch : Chg [nr] w (w.setCell ⟨nr, k, none⟩ (.int .i64 (v : Int))) := (Chg.refl _ w).setCell (by simp) _
  have A := T.wat
  have n4 := T.n4
  refine ⟨⟨ch.heap A.hd (by simp only [List.mem_singleton]; exact heap_ne A.hd T.rn (by decide)), A.rw.chg ch (by simp only [List.mem_singleton]; exact n4.1.symm), A.rl.chg ch (by simp only [List.mem_singleton]; exact n4.2.1.symm), A.ro.chg ch (by simp only [List.mem_singleton]; exact n4.2.2.1.symm),
    ch.owns A.op (fun g hg hm => ?_), A.wl, A.wo, A.lo, A.ow, A.b0, A.b1, A.b2, A.b3⟩, ch.heap T.hpb (by simp only [List.mem_singleton]; exact heap_ne T.hpb T.rn (by decide)), ch.heap T.hnb (by simp only [List.mem_singleton]; exact heap_ne T.hnb T.rn (by decide)),
    T.rp.chg ch (by simp only [List.mem_singleton]; exact heap_ne T.rp T.rn (by decide)), T.rq.chg ch (by simp only [List.mem_singleton]; exact heap_ne T.rq T.rn (by decide)), ?_, T.rows.chg ch (fun b hb => .inl ?_), T.n1, T.n2, T.n3, T.n4, T.b1, T.b2, T.b3⟩
  · simp only [List.mem_singleton] at hm
    subst hm
    exact n4.2.2.2 (by simp [own, hg])
  · have := T.rn.set (k := k) (v : Int)
    rw [natI_upd] at this
    exact this
  · simp only [List.mem_singleton] at hb
    simp [hb]
end

/-- a node's edges in memory -/
theorem rows_edges {y : World} {eb eo ec n d : Nat} {g : Gr} (h : RowsIn y (.slice (some ⟨eb, eo, none⟩) n ec) (castG g)) (hn : n = g.length) (hd : d < n) : ∃ lo lc, y.cell? ⟨eb, eo + d, none⟩ = some (.slice lo (edges g d).length lc) ∧ (edges g d).length ≤ 9223372036854775807 ∧
    ∀ (t to : Nat), (edges g d)[t]? = some to → ∃ b2 o2, lo = some ⟨b2, o2, none⟩ ∧ y.cell? ⟨b2, o2 + t, none⟩ = some (.int .i64 (to : Int)) := by
  obtain ⟨ao, c, b, off, h1, _, h3⟩ := h
  obtain ⟨h4, lv, h5, lo, lc, b2, o2, h6, h7, h8⟩ := h3 d _ (castG_get (by omega))
  subst h4
  injection h1 with h1 _ _
  injection h1 with h1
  injection h1 with h1 h1'
  subst h1 h1'
  rw [h6, List.length_map] at h5
  rw [List.length_map] at h7
  refine ⟨lo, lc, h5, h7, fun t to ht => ⟨b2, o2, ?_⟩⟩
  have := h8 t (to : Int) (by simp [ht])
  exact ⟨this.1, this.2.1⟩

theorem tab_start {w : World} {B wb n bw bl bo : Nat} {ev ov : Value} {s : St} (A : WAt w B wb ev n bw bl bo ov s) (m : Nat) :
    Tab (((((w.alloc (.cells (List.replicate m (Value.slice none 0 0)).toArray 42)).alloc (.cells #[.slice (some ⟨w.heap.size, 0, none⟩) m m] 30)).alloc (.cells (List.replicate m (Value.int .i64 0)).toArray 3)).alloc (.cells #[.slice (some ⟨w.heap.size + 1 + 1, 0, none⟩) m m] 42)).alloc (.cells (List.replicate m (Value.slice none 0 0)).toArray 42))
      B wb ev n bw bl bo ov s m (w.heap.size + 1) w.heap.size (w.heap.size + 1 + 1 + 1) (w.heap.size + 1 + 1) (w.heap.size + 1 + 1 + 1 + 1) (fun _ => .slice none 0 0) (fun _ => []) (fun _ => 0) := by
  generalize hO1 : Obj.cells (List.replicate m (Value.slice none 0 0)).toArray 42 = O1
  generalize hO2 : Obj.cells #[Value.slice (some ⟨w.heap.size, 0, none⟩) m m] 30 = O2
  generalize hO3 : Obj.cells (List.replicate m (Value.int .i64 0)).toArray 3 = O3
  generalize hO4 : Obj.cells #[Value.slice (some ⟨w.heap.size + 1 + 1, 0, none⟩) m m] 42 = O4
  have e1 := heap_alloc_new w O1
  have e2 := heap_alloc_new (w.alloc O1) O2
  have e3 := heap_alloc_new ((w.alloc O1).alloc O2) O3
  have e4 := heap_alloc_new (((w.alloc O1).alloc O2).alloc O3) O4
  have e5 := heap_alloc_new ((((w.alloc O1).alloc O2).alloc O3).alloc O4) O1
  simp only [World.size_alloc] at e2 e3 e4 e5
  have k1 := heap_alloc_keep (heap_alloc_keep (heap_alloc_keep (heap_alloc_keep e1 O2) O3) O4) O1
  have k2 := heap_alloc_keep (heap_alloc_keep (heap_alloc_keep e2 O3) O4) O1
  have k3 := heap_alloc_keep (heap_alloc_keep e3 O4) O1
  have k4 := heap_alloc_keep e4 O1
  have ch : Chg [] w (((((w.alloc O1).alloc O2).alloc O3).alloc O4).alloc O1) := (((((Chg.refl _ w).alloc _).alloc _).alloc _).alloc _).alloc _
  have l1 := A.rw.lt
  have l2 := A.rl.lt
  have l3 := A.ro.lt
  have l4 := heap_lt A.hd
  have hB := A.b0
  subst hO2 hO4
  have r0 : Obj.cells (List.replicate m (Value.slice none 0 0)).toArray 42 = Obj.cells ((List.range m).map fun _ => Value.slice none 0 0).toArray 42 := by
    rw [List.map_const']; simp
  have r3 : Obj.cells (List.replicate m (Value.int .i64 0)).toArray 3 = Obj.cells ((List.range m).map fun i => Value.int .i64 (natI (fun _ => 0) i)).toArray 3 := by
    have : (fun i => Value.int .i64 (natI (fun _ => 0) i)) = fun _ => Value.int .i64 0 := by funext i; rfl
    rw [this, List.map_const']; simp
  refine ⟨⟨ch.heap A.hd (by simp), A.rw.chg ch (by simp), A.rl.chg ch (by simp), A.ro.chg ch (by simp), ch.owns A.op (by simp), A.wl, A.wo, A.lo, A.ow, A.b0, A.b1, A.b2, A.b3⟩, k2, k4, ?_, ?_, ?_, ⟨fun p _ => World.ownsRow_nil _ _ _ _, fun p _ b hb => by simp [Value.ownBlock] at hb, fun p q _ _ _ b hb => by simp [Value.ownBlock] at hb⟩, by omega, by omega, by omega, ⟨by omega, by omega, by omega, fun hm => ?_⟩, by omega, by omega, by omega⟩
  · unfold RowV
    rw [k1, ← hO1, r0]
  · unfold RowV
    rw [e5, ← hO1, r0]
  · unfold RowF
    rw [k3, ← hO3, r3]
  · simp only [own, Option.mem_toList] at hm
    have := (A.op.lt _ hm).2
    omega

end Go.Proofs.YtpcjfgihglfdgaaGreatDoor.Isl

namespace Go.Proofs.YtpcjfgihglfdgaaGreatDoor.Isl

/-- i may be next: all that it leads to is in its own island, or there already -/
def Ready (g : Gr) (done : List Nat) (i : Nat) : Prop := i < g.length ∧ i ∉ done ∧ ∀ j, Leads g i j → Same g i j ∨ j ∈ done
open Classical in
noncomputable def island (g : Gr) (i : Nat) : List Nat := (List.range g.length).filter (fun j => decide (Same g i j))
structure IsParts (g : Gr) (out : List (List Nat)) : Prop where
  each : ∀ k l, out[k]? = some l → ∃ i, Ready g (out.take k).flatten i ∧ (∀ j, Ready g (out.take k).flatten j → i ≤ j) ∧ l = island g i
  full : ∀ j, j < g.length → j ∈ out.flatten

theorem leads_lt {g : Gr} (R : RightG g) {i j : Nat} (h : Leads g i j) (hi : i < g.length) : j < g.length := by
  induction h with
  | refl => exact hi
  | step e _ ih => exact ih (R _ _ e)

/-- graphs in which the same leads to the same have the same islands in the same order -/
theorem isParts_unique {g g' : Gr} {out out' : List (List Nat)} (R : RightG g) (R' : RightG g') (hl : g.length = g'.length) (hs : ∀ i j, i < g.length → j < g.length → (Leads g i j ↔ Leads g' i j)) (h : IsParts g out) (h' : IsParts g' out') : out = out' := by
  have same : ∀ i j, i < g.length → j < g.length → (Same g i j ↔ Same g' i j) := fun i j hi hj => by
    unfold Same; rw [hs i j hi hj, hs j i hj hi]
  have isl : ∀ i, i < g.length → island g i = island g' i := fun i hi => by
    unfold island
    rw [← hl]
    refine List.filter_congr (fun j hj => ?_)
    simp only [List.mem_range] at hj
    have := same i j hi hj
    by_cases e : Same g i j
    · simp [e, this.1 e]
    · have e' : ¬ Same g' i j := fun h => e (this.2 h)
      simp [e, e']
  have rdy : ∀ d i, Ready g d i ↔ Ready g' d i := fun d i => by
    unfold Ready
    rw [← hl]
    refine and_congr_right fun hi => and_congr_right fun _ => ⟨fun h j hj => ?_, fun h j hj => ?_⟩
    · have hjl : j < g.length := hl ▸ leads_lt R' hj (hl ▸ hi)
      exact (h j ((hs i j hi hjl).2 hj)).imp (same i j hi hjl).1 id
    · have hjl := leads_lt R hj hi
      exact (h j ((hs i j hi hjl).1 hj)).imp (same i j hi hjl).2 id
  have key : ∀ k, k ≤ out.length → k ≤ out'.length → out.take k = out'.take k := by
    intro k
    induction k with
    | zero => intro _ _; simp
    | succ k ih =>
      intro h1 h2
      have e := ih (by omega) (by omega)
      obtain ⟨i, r1, l1, p1⟩ := h.each k (out[k]'(by omega)) (by simp)
      obtain ⟨i', r2, l2, p2⟩ := h'.each k (out'[k]'(by omega)) (by simp)
      rw [e] at r1 l1
      have hi := l1 i' ((rdy _ _).2 r2)
      have hi' := l2 i ((rdy _ _).1 r1)
      have : i = i' := by omega
      subst this
      rw [List.take_succ_eq_append_getElem (by omega), List.take_succ_eq_append_getElem (by omega), e, p1, p2, isl i r1.1]
  rcases Nat.lt_trichotomy out.length out'.length with hlt | heq | hgt
  · exfalso
    have e := key out.length (Nat.le_refl _) (by omega)
    rw [List.take_length] at e
    obtain ⟨i, r, _, _⟩ := h'.each out.length (out'[out.length]) (by simp)
    rw [← e] at r
    exact r.2.1 (h.full i (hl ▸ r.1))
  · have e := key out.length (Nat.le_refl _) (by omega)
    rw [List.take_length, heq, List.take_length] at e
    exact e
  · exfalso
    have e := key out'.length (by omega) (Nat.le_refl _)
    rw [List.take_length] at e
    obtain ⟨i, r, _, _⟩ := h.each out'.length (out[out'.length]) (by simp)
    rw [e] at r
    exact r.2.1 (h'.full i (hl ▸ r.1))

/-- what a set of nodes grows to in so many steps -/
def grow (g : Gr) : Nat → List Nat → List Nat
  | 0, l => l
  | k + 1, l => grow g k ((List.range g.length).filter fun j => l.contains j || l.any fun i => (edges g i).contains j)
def closedB (g : Gr) (l : List Nat) : Bool := l.all fun i => (edges g i).all fun j => l.contains j
theorem grow_leads {g : Gr} {i : Nat} : ∀ (k : Nat) (l : List Nat), (∀ j ∈ l, Leads g i j) → ∀ j ∈ grow g k l, Leads g i j
  | 0, _, h => h
  | k + 1, l, h => by
    refine grow_leads k _ (fun j hj => ?_)
    simp only [List.mem_filter, Bool.or_eq_true, List.contains_iff_mem, List.any_eq_true] at hj
    rcases hj.2 with h1 | ⟨m, h1, h2⟩
    · exact h j h1
    · exact (h m h1).trans (.one h2)
theorem closed_leads {g : Gr} {l : List Nat} (h : closedB g l = true) {i j : Nat} (hl : Leads g i j) (hi : i ∈ l) : j ∈ l := by
  induction hl with
  | refl => exact hi
  | step e _ ih =>
    unfold closedB at h
    simp only [List.all_eq_true, List.contains_iff_mem] at h
    exact ih (h _ hi _ e)
theorem leads_iff {g : Gr} {i k : Nat} (h : closedB g (grow g k [i]) = true) (hi : i ∈ grow g k [i]) (j : Nat) : Leads g i j ↔ j ∈ grow g k [i] :=
  ⟨fun hl => closed_leads h hl hi, fun hj => grow_leads k [i] (by intro m hm; simp at hm; subst hm; exact .refl _) j hj⟩

/-- a list of islands checked by reckoning -/
def checkB (g : Gr) (out : List (List Nat)) : Bool :=
  let n := g.length
  let to := fun i => grow g n [i]
  let same := fun i j => (to i).contains j && (to j).contains i
  let ready := fun (d : List Nat) i => !d.contains i && (to i).all fun j => same i j || d.contains j
  ((List.range n).all fun i => closedB g (to i) && (to i).contains i) &&
  ((List.range out.length).all fun k =>
    let d := (out.take k).flatten
    (List.range n).any fun i => ready d i && ((List.range n).all fun j => !ready d j || decide (i ≤ j)) && decide (out[k]? = some ((List.range n).filter fun j => same i j))) &&
  (List.range n).all fun j => out.flatten.contains j

theorem isParts_check {g : Gr} (R : RightG g) {out : List (List Nat)} (h : checkB g out = true) : IsParts g out := by
  unfold checkB at h
  simp only [Bool.and_eq_true] at h
  obtain ⟨⟨h1, h2⟩, h3⟩ := h
  simp only [List.all_eq_true, List.mem_range, Bool.and_eq_true, List.contains_iff_mem] at h1
  have ld : ∀ i, i < g.length → ∀ j, Leads g i j ↔ j ∈ grow g g.length [i] := fun i hi j => leads_iff (h1 i hi).1 (h1 i hi).2 j
  have sm : ∀ i j, i < g.length → j < g.length → (Same g i j ↔ ((grow g g.length [i]).contains j && (grow g g.length [j]).contains i) = true) := fun i j hi hj => by
    unfold Same
    rw [ld i hi, ld j hj]
    simp
  have rd : ∀ d i, i < g.length → (Ready g d i ↔ (!d.contains i && (grow g g.length [i]).all fun j => ((grow g g.length [i]).contains j && (grow g g.length [j]).contains i) || d.contains j) = true) := fun d i hi => by
    unfold Ready
    simp only [Bool.and_eq_true, List.all_eq_true, Bool.not_eq_true', Bool.or_eq_true]
    constructor
    · rintro ⟨_, k1, k2⟩
      refine ⟨by simpa using k1, fun j hj => ?_⟩
      have hl := (ld i hi j).2 hj
      rcases k2 j hl with k3 | k3
      · exact .inl (by have := (sm i j hi (leads_lt R hl hi)).1 k3; simpa using this)
      · exact .inr (by simpa using k3)
    · rintro ⟨k1, k2⟩
      refine ⟨hi, by simpa using k1, fun j hj => ?_⟩
      rcases k2 j ((ld i hi j).1 hj) with k3 | k3
      · exact .inl ((sm i j hi (leads_lt R hj hi)).2 (by simpa using k3))
      · exact .inr (by simpa using k3)
  refine ⟨fun k l hk => ?_, fun j hj => ?_⟩
  · simp only [List.all_eq_true, List.mem_range, List.any_eq_true, Bool.and_eq_true, decide_eq_true_eq, Bool.or_eq_true] at h2
    have hkl : k < out.length := (List.getElem?_eq_some_iff.1 hk).1
    obtain ⟨i, hi, ⟨k1, k2⟩, k3⟩ := h2 k hkl
    refine ⟨i, (rd _ i hi).2 (by simpa using k1), fun j hj => ?_, ?_⟩
    · rcases k2 j hj.1 with k4 | k4
      · have := (rd _ j hj.1).1 hj
        rw [this] at k4
        cases k4
      · exact k4
    · rw [hk] at k3
      rw [Option.some.inj k3]
      unfold island
      refine List.filter_congr (fun j hj => ?_)
      simp only [List.mem_range] at hj
      have := sm i j hi hj
      by_cases e : Same g i j
      · rw [this.1 e]; simp [e]
      · have e' : ((grow g g.length [i]).contains j && (grow g g.length [j]).contains i) = false := by
          rw [Bool.eq_false_iff]; exact fun h => e (this.2 h)
        rw [e']; simp [e]
  · simp only [List.all_eq_true, List.mem_range, List.contains_iff_mem] at h3
    exact h3 j hj

theorem example1 : IsParts [[1], [2], [1]] [[1, 2], [0]] := isParts_check (by intro i j h; rcases i with _ | _ | _ | i <;> simp [edge, edges] at h <;> simp [h]) (by decide +kernel)
theorem example2 : IsParts [[], [0], []] [[0], [1], [2]] := isParts_check (by intro i j h; rcases i with _ | _ | _ | i <;> simp [edge, edges] at h <;> simp [h]) (by decide +kernel)
theorem example3 : IsParts [[2], [], []] [[1], [2], [0]] := isParts_check (by intro i j h; rcases i with _ | _ | _ | i <;> simp [edge, edges] at h <;> simp [h]) (by decide +kernel)

end Go.Proofs.YtpcjfgihglfdgaaGreatDoor.Isl
