/- The walk's way in memory, beside the walker; what each step leaves of them. -/
import Derived.Test.YtagfgbmaibadjaaIsClose
namespace Go.Proofs.Ytagfgbmaibadjaa
open Go.RowKit Go.Lib

def wayCells (way : Way) : List Value := way.flatMap fun p => [Value.int .i64 (p.1 : Int), Value.int .i64 (p.2 : Int)]
theorem wayCells_length (way : Way) : (wayCells way).length = way.length * 2 := by
  induction way with
  | nil => rfl
  | cons p l ih => unfold wayCells at *; simp only [List.flatMap_cons, List.length_append, ih, List.length_cons, List.length_nil]; omega
theorem wayCells_append (a b : Way) : wayCells (a ++ b) = wayCells a ++ wayCells b := by simp [wayCells]
def castG (g : Gr) : List (List Int) := g.map fun l => l.map fun (x : Nat) => (x : Int)
theorem castG_length (g : Gr) : (castG g).length = g.length := by simp [castG]
theorem castG_get {g : Gr} {i : Nat} (h : i < g.length) : (castG g)[i]? = some ((edges g i).map fun (x : Nat) => (x : Int)) := by
  simp [castG, edges, h]

/-- the walker and the way in memory -/
structure WM (w0 : World) (B wb : Nat) (ev : Value) (n bw bl bo : Nat) (g : Gr) (ov0 ov wv : Value) (s : St) (way : Way) (w : World) : Prop where
  wat : WAt w B wb ev n bw bl bo ov s
  row : w.ownsRow w0.heap.size 65 2 wv way.length (wayCells way)
  chg : WChg wb bw bl bo ov0 ov w0 w
  gr : ∀ y, Below B w y → RowsIn y ev (castG g)

section
variable {w0 w w' : World} {B wb n bw bl bo d t k p : Nat} {ev ov0 ov ov' wv : Value} {g : Gr} {s s' : St} {ws way : Way}

theorem WM.low (M : WM w0 B wb ev n bw bl bo g ov0 ov wv s way w) : B ≤ w.heap.size := by have := M.wat.b0; have := heap_lt M.wat.hd; omega
theorem WAt.blocks (A : WAt w B wb ev n bw bl bo ov s) : ∀ x ∈ wb :: bw :: bl :: bo :: own ov, B ≤ x := by
  intro x hx
  simp only [List.mem_cons] at hx
  rcases hx with rfl | rfl | rfl | rfl | hx
  · exact A.b0
  · exact A.b1
  · exact A.b2
  · exact A.b3
  · simp only [own, Option.mem_toList] at hx
    exact (A.op.lt x hx).1
/-- the way's row is none of the walker's -/
theorem WM.rowfar (M : WM w0 B wb ev n bw bl bo g ov0 ov wv s way w) : ∀ x, wv.ownBlock = some x → x ∉ wb :: bw :: bl :: bo :: own ov := by
  intro x hx
  obtain ⟨cur, hc⟩ := owns_cells M.row hx
  simp only [List.mem_cons, not_or]
  refine ⟨heap_ne hc M.wat.hd (by decide), heap_ne hc M.wat.rw (by decide), heap_ne hc M.wat.rl (by decide), heap_ne hc M.wat.ro (by decide), fun hm => ?_⟩
  simp only [own, Option.mem_toList] at hm
  obtain ⟨cur2, hc2⟩ := owns_cells M.wat.op hm
  rw [hc] at hc2
  simp at hc2
theorem WM.far (M : WM w0 B wb ev n bw bl bo g ov0 ov wv s way w) : ∀ x ∈ wb :: bw :: bl :: bo :: own ov, x ∉ own wv := fun x hx hm => by
  simp only [own, Option.mem_toList] at hm
  exact M.rowfar x hm hx
theorem WM.new (M : WM w0 B wb ev n bw bl bo g ov0 ov wv s way w) : ∀ x ∈ wb :: bw :: bl :: bo :: own ov, x ∈ wb :: bw :: bl :: bo :: own ov0 ∨ w0.heap.size ≤ x := by
  intro x hx
  simp only [List.mem_cons] at hx ⊢
  rcases hx with h | h | h | h | h
  · simp [h]
  · simp [h]
  · simp [h]
  · simp [h]
  · simp only [own, Option.mem_toList] at h ⊢
    rcases M.chg.2 x h with h1 | h1
    · simp [h1]
    · exact .inr h1

/-- a step that writes the walker's blocks alone -/
theorem WM.walker (M : WM w0 B wb ev n bw bl bo g ov0 ov wv s way w) (A : WAt w' B wb ev n bw bl bo ov' s') (h : WChg wb bw bl bo ov ov' w w') : WM w0 B wb ev n bw bl bo g ov0 ov' wv s' way w' := by
  refine ⟨A, h.1.owns M.row M.rowfar, ⟨M.chg.1.trans h.1 M.new, fun x hx => ?_⟩, fun y hy => M.gr y ((h.1.below M.wat.blocks M.low).trans hy)⟩
  rcases h.2 x hx with h1 | h1
  · exact M.chg.2 x h1
  · have := M.chg.1.size; exact .inr (by omega)

/-- a step that writes the way's row alone, or new memory -/
theorem WM.wayrow (M : WM w0 B wb ev n bw bl bo g ov0 ov wv s way w) (h : Chg (own wv) w w') {wv' : Value} {way' : Way} (hr : w'.ownsRow w0.heap.size 65 2 wv' way'.length (wayCells way')) (hB : B ≤ w0.heap.size) : WM w0 B wb ev n bw bl bo g ov0 ov wv' s way' w' := by
  have far := M.far
  have A := M.wat
  refine ⟨⟨h.heap A.hd (far wb (by simp)), A.rw.chg h (far bw (by simp)), A.rl.chg h (far bl (by simp)), A.ro.chg h (far bo (by simp)), h.owns A.op (fun x hx => far x (by simp [own, hx])), A.wl, A.wo, A.lo, A.ow, A.b0, A.b1, A.b2, A.b3⟩, hr, ⟨M.chg.1.trans h (fun x hx => .inr ?_), M.chg.2⟩, fun y hy => M.gr y ((h.below (fun x hx => ?_) M.low).trans hy)⟩
  · simp only [own, Option.mem_toList] at hx
    exact (M.row.lt x hx).1
  · simp only [own, Option.mem_toList] at hx
    have := (M.row.lt x hx).1
    omega

theorem WM.drewN (M : WM w0 B wb ev n bw bl bo g ov0 ov wv s way w) (hB : B ≤ w0.heap.size) (m : Nat) : WM w0 B wb ev n bw bl bo g ov0 ov wv s way (w.drewN m) :=
  M.wayrow ((Chg.refl _ w).drewN m) (((Chg.refl [] w).drewN m).owns M.row (by simp)) hB

theorem WM.top (M : WM w0 B wb ev n bw bl bo g ov0 ov wv s (ws ++ [(d, t)]) w) : ∃ gb c, wv = .slice (some ⟨gb, 0, none⟩) (ws.length + 1) c ∧ ws.length + 1 ≤ c ∧ c ≤ 9223372036854775807 ∧
    w.cell? ⟨gb, ws.length * 2, none⟩ = some (.int .i64 (d : Int)) ∧ w.cell? ⟨gb, ws.length * 2 + 1, none⟩ = some (.int .i64 (t : Int)) ∧ w.frozen? ⟨gb, ws.length * 2 + 1, none⟩ = false := by
  have hl : (ws ++ [(d, t)]).length = ws.length + 1 := by simp
  have hr := M.row
  rw [hl] at hr
  rcases hr.2 with ⟨_, h0⟩ | ⟨gb, c, cur, rfl, _, hg, h1, h2, _⟩
  · omega
  · have e : wayCells (ws ++ [(d, t)]) = wayCells ws ++ [.int .i64 (d : Int), .int .i64 (t : Int)] := by rw [wayCells_append]; rfl
    have hw := wayCells_length ws
    refine ⟨gb, c, rfl, h1, h2, ?_, ?_, free_of hg⟩
    · rw [hr.cellAt _ (by omega), e, List.getElem?_append_right (by omega), hw]; simp
    · rw [hr.cellAt _ (by omega), e, List.getElem?_append_right (by omega), hw]; simp

theorem WM.topc {gb c : Nat} (M : WM w0 B wb ev n bw bl bo g ov0 ov (.slice (some ⟨gb, 0, none⟩) (ws.length + 1) c) s (ws ++ [(d, t)]) w) :
    w.cell? ⟨gb, ws.length * 2, none⟩ = some (.int .i64 (d : Int)) ∧ w.cell? ⟨gb, ws.length * 2 + 1, none⟩ = some (.int .i64 (t : Int)) ∧ w.frozen? ⟨gb, ws.length * 2 + 1, none⟩ = false := by
  obtain ⟨gb', c', he, _, _, h1, h2, h3⟩ := M.top
  injection he with he1 _ he3
  injection he1 with he1
  injection he1 with he1
  subst he1
  exact ⟨h1, h2, h3⟩

theorem WM.nextset {gb c : Nat} (M : WM w0 B wb ev n bw bl bo g ov0 ov (.slice (some ⟨gb, 0, none⟩) (ws.length + 1) c) s (ws ++ [(d, t)]) w) (hB : B ≤ w0.heap.size) :
    WM w0 B wb ev n bw bl bo g ov0 ov (.slice (some ⟨gb, 0, none⟩) (ws.length + 1) c) s (ws ++ [(d, t + 1)]) (w.setCell ⟨gb, ws.length * 2 + 1, none⟩ (.int .i64 ((t : Int) + 1))) := by
  refine M.wayrow ((Chg.refl _ w).setCell (by simp [own, Value.ownBlock]) _) ?_ hB
  have hl : (ws ++ [(d, t)]).length = ws.length + 1 := by simp
  have hl2 : (ws ++ [(d, t + 1)]).length = ws.length + 1 := by simp
  have hr := M.row
  rw [hl] at hr
  rw [hl2]
  have hw := wayCells_length ws
  refine ⟨by rw [wayCells_length, hl2], ?_⟩
  rcases hr.2 with ⟨_, h0⟩ | ⟨gb', c', cur, he, h3, hg, h1, h2, h4, h5⟩
  · omega
  · injection he with he1 _ he3
    injection he1 with he1
    injection he1 with he1
    subst he1 he3
    refine .inr ⟨gb, c, _, rfl, h3, heap_setCell_at hg _, h1, h2, by simpa using h4, ?_⟩
    rw [Array.toList_setIfInBounds, List.take_set, h5, wayCells_append, wayCells_append, List.set_append_right _ _ (by omega), hw]
    congr 1
    simp [wayCells]

theorem WM.pop {a : Option Addr} {c : Nat} (M : WM w0 B wb ev n bw bl bo g ov0 ov (.slice a (ws.length + 1) c) s (ws ++ [(d, t)]) w) (hB : B ≤ w0.heap.size) :
    WM w0 B wb ev n bw bl bo g ov0 ov (.slice a ws.length c) s ws w := by
  have h := M.wayrow (w' := w) (wv' := .slice a ws.length c) (way' := ws) (Chg.refl _ w) ?_ hB
  · exact h
  have hl : (ws ++ [(d, t)]).length = ws.length + 1 := by simp
  have hr := M.row
  rw [hl] at hr
  refine ⟨wayCells_length ws, ?_⟩
  rcases hr.2 with ⟨_, h0⟩ | ⟨gb', c', cur, he, h3, hg, h1, h2, h4, h5⟩
  · omega
  · injection he with he1 _ he3
    subst he1 he3
    refine .inr ⟨gb', c, cur, rfl, h3, hg, by omega, h2, h4, ?_⟩
    have : cur.toList.take (ws.length * 2) = (cur.toList.take ((ws.length + 1) * 2)).take (ws.length * 2) := by rw [List.take_take]; congr 1; omega
    rw [this, h5, wayCells_append, ← wayCells_length ws, List.take_left]

theorem WM.lowset (M : WM w0 B wb ev n bw bl bo g ov0 ov wv s way w) (x : Nat) : WM w0 B wb ev n bw bl bo g ov0 ov wv (lower s d x) way (w.setCell ⟨bl, d, none⟩ (.int .i64 ((min (s.low d) x : Nat) : Int))) := by
  have A := M.wat
  have ch : Chg [bl] w (w.setCell ⟨bl, d, none⟩ (.int .i64 ((min (s.low d) x : Nat) : Int))) := (Chg.refl _ w).setCell (by simp) _
  have nwb : wb ≠ bl := heap_ne A.hd A.rl (by decide)
  refine M.walker (ov' := ov) ⟨ch.heap A.hd (by simpa using nwb), A.rw.chg ch (by simpa using A.wl), ?_, A.ro.chg ch (by simpa using A.lo.symm), ch.owns A.op (fun y hy => by simpa using (A.ow y hy).2.1), A.wl, A.wo, A.lo, A.ow, A.b0, A.b1, A.b2, A.b3⟩ ⟨ch.mono (by simp), fun y hy => .inl hy⟩
  have := A.rl.set (k := d) ((min (s.low d) x : Nat) : Int)
  rw [natI_upd] at this
  exact this

theorem Try.info65 : (Try.prog.info? 65).map (fun i => (i.zero, i.size, i.bytes)) = some (some (.agg #[.int .i64 0, .int .i64 0]), 2, 16) := by kernel_rfl
theorem cell_two_new2 {w : World} {n : Nat} (hn : w.heap.size = n) (x y : Value) (t : TypeId) : ∀ j u, [x, y][j]? = some u → (w.alloc (.cells #[x, y] t)).cell? ((⟨n, 0, none⟩ : Addr).add j) = some u := by
  subst hn
  exact cell_two_new w x y t

theorem WM.push (M : WM w0 B wb ev n bw bl bo g ov0 ov wv s way w) (hB : B ≤ w0.heap.size) (hl : way.length ≤ 1000000) (k : Nat) :
    ∃ a c w2, (Builtin.append_ #[66, 66] 66 #[wv, .slice (some ⟨w.heap.size, 0, none⟩) 1 1]).run Try.prog (w.alloc (.cells #[.int .i64 (k : Int), .int .i64 0] 65)) = .ok (.slice a (way.length + 1) c) w2 ∧
      WM w0 B wb ev n bw bl bo g ov0 ov (.slice a (way.length + 1) c) s (way ++ [(k, 0)]) w2 := by
  obtain ⟨i0, hi, hz0, hz1, hz2⟩ := info_parts Try.info65
  have hs := M.chg.1.size
  obtain ⟨v', w2, h1, h2, h3, _, _⟩ := run_append_own_at (P := Try.prog) (w.alloc (.cells #[.int .i64 (k : Int), .int .i64 0] 65)) w0.heap.size 66 66 65 i0 (.agg #[.int .i64 0, .int .i64 0]) 2 16 Try.underlying66 hi hz0 hz1 hz2 rfl (by decide) wv way.length _ (M.row.alloc _)
    ⟨w.heap.size, 0, none⟩ 1 1 [.int .i64 (k : Int), .int .i64 0] rfl (cell_two_new2 rfl _ _ _) (by intro u hu; simp at hu; rcases hu with rfl | rfl <;> rfl) (by unfold maxLen; omega) (by omega) (by simp; omega)
  obtain ⟨a, c, rfl, _⟩ := ownsRow_view h2
  refine ⟨a, c, w2, h1, M.wayrow (((Chg.refl _ w).alloc _).grown h3 (fun x hx => .inl (by simp [own, hx]))) ?_ hB⟩
  rw [List.length_append, wayCells_append]
  exact h2

theorem WM.edges {eb eo ec : Nat} (M : WM w0 B wb (.slice (some ⟨eb, eo, none⟩) n ec) n bw bl bo g ov0 ov wv s way w) (hn : n = g.length) (hd : d < n) : ∃ lo lc, w.cell? ⟨eb, eo + d, none⟩ = some (.slice lo (edges g d).length lc) ∧ (edges g d).length ≤ 9223372036854775807 ∧
    ∀ (t to : Nat), (edges g d)[t]? = some to → ∃ b2 o2, lo = some ⟨b2, o2, none⟩ ∧ w.cell? ⟨b2, o2 + t, none⟩ = some (.int .i64 (to : Int)) := by
  obtain ⟨ao, c, b, off, h1, _, h3⟩ := M.gr w (Below.refl _ w)
  obtain ⟨h4, lv, h5, lo, lc, b2, o2, h6, h7, h8⟩ := h3 d _ (castG_get (by omega))
  subst h4
  injection h1 with h1 _ _
  injection h1 with h1
  injection h1 with h1 h1'
  subst h1 h1'
  rw [h6, List.length_map] at h5
  rw [List.length_map] at h7
  refine ⟨lo, lc, h5, h7, fun t to ht => ⟨b2, o2, ?_⟩⟩
  have := h8 t (to : Int) (by simp [ht])
  exact ⟨this.1, this.2.1⟩
end

end Go.Proofs.Ytagfgbmaibadjaa
