/- Rows of places, spills and cells that a call makes itself: append, and how they read. No condition. -/
import Derived.Test.YthkjmplcmfabfaaGreatDoorSpMem
import Derived.Maps.AppendAt
namespace Go.Proofs.YthkjmplcmfabfaaGreatDoor
open Go.RowKit Go.Lib

def own (v : Value) : List Nat := v.ownBlock.toList
theorem ownsRow_view {w : World} {base size : Nat} {e : TypeId} {v : Value} {n : Nat} {xs : List Value} (h : w.ownsRow base e size v n xs) : ∃ a c, v = .slice a n c ∧ n ≤ maxLen := by
  rcases h.2 with ⟨rfl, rfl⟩ | ⟨g, cap, cur, rfl, _, _, h1, h2, _⟩
  · exact ⟨_, _, rfl, by simp [maxLen]⟩
  · exact ⟨_, _, rfl, Nat.le_trans h1 h2⟩
theorem ownsRow_low {w : World} {base size : Nat} {e : TypeId} {v : Value} {n : Nat} {xs : List Value} (h : w.ownsRow base e size v n xs) : ∀ g, v.ownBlock = some g → base ≤ g ∧ g < w.heap.size := by
  rcases h.2 with ⟨rfl, rfl⟩ | ⟨g, cap, cur, rfl, hb, hg, _⟩
  · intro g hg; cases hg
  · intro g' hg'; cases hg'; exact ⟨hb, heap_lt hg⟩
theorem ownsRow_lower {w : World} {base base' : Nat} {e : TypeId} {size : Nat} {v : Value} {n : Nat} {xs : List Value} (h : w.ownsRow base e size v n xs) (hb : base' ≤ base) : w.ownsRow base' e size v n xs := by
  refine ⟨h.1, ?_⟩
  rcases h.2 with h0 | ⟨g, cap, cur, rfl, hg, rest⟩
  · exact .inl h0
  · exact .inr ⟨g, cap, cur, rfl, by omega, rest⟩
/-- a slice that may be cut short -/
def Capped (v : Value) : Prop := ∃ a n c, v = .slice a n c ∧ n ≤ c ∧ (a = none → n = 0)
theorem ownsRow_capped {w : World} {base size : Nat} {e : TypeId} {v : Value} {n : Nat} {xs : List Value} (h : w.ownsRow base e size v n xs) : Capped v := by
  rcases h.2 with ⟨rfl, rfl⟩ | ⟨g, cap, cur, rfl, _, _, h1, _⟩
  · exact ⟨_, _, _, rfl, Nat.le_refl _, fun _ => rfl⟩
  · exact ⟨_, _, _, rfl, h1, fun h => by cases h⟩
theorem RowIn.take {w : World} {s m c c' k : Nat} {ao : Option Addr} {L : List (List Value)} (h : RowIn w s (.slice ao m c) L) (hk : k ≤ m) : RowIn w s (.slice ao k c') (L.take k) := by
  obtain ⟨ao', c0, b', o', e, hl, hh⟩ := h
  simp only [Value.slice.injEq] at e
  obtain ⟨rfl, e2, -⟩ := e
  refine ⟨_, c', b', o', by rw [List.length_take, ← e2, Nat.min_eq_left hk], by rw [List.length_take]; omega, fun j cs hj => hh j cs ?_⟩
  by_cases hjk : j < k
  · rwa [List.getElem?_take_of_lt hjk] at hj
  · rw [List.getElem?_take_eq_none (by omega)] at hj
    cases hj
theorem SpsIn.take {w : World} {m c c' k : Nat} {ao : Option Addr} {l : List PSp} (h : SpsIn w (.slice ao m c) l) (hk : k ≤ m) : SpsIn w (.slice ao k c') (l.take k) := by
  unfold SpsIn
  rw [List.map_take]
  exact RowIn.take h hk
theorem AtsIn.takeN {w : World} {m c c' k : Nat} {ao : Option Addr} {l : List PAt} (h : AtsIn w (.slice ao m c) l) (hk : k ≤ m) : AtsIn w (.slice ao k c') (l.take k) := by
  unfold AtsIn
  rw [List.map_take]
  exact RowIn.take h hk
theorem cells_new (w : World) (cs : List Value) (t : TypeId) : ∀ j u, cs[j]? = some u → (w.alloc (.cells cs.toArray t)).cell? ((⟨w.heap.size, 0, none⟩ : Addr).add j) = some u := by
  intro j u hu
  have h := cell_of (b := w.heap.size) (i := 0 + j) (v := u) (heap_alloc_new w (.cells cs.toArray t)) (by simpa using hu)
  rw [Addr.add_lit]
  exact h
theorem flat_get {k : Nat} : ∀ (L : List (List Value)) (_ : ∀ c ∈ L, c.length = k) (j i : Nat) (cs : List Value), L[j]? = some cs → i < k → (L.flatten)[j * k + i]? = cs[i]?
  | [], _, j, i, cs, h, _ => by simp at h
  | c :: L, hL, 0, i, cs, h, hi => by
    simp only [List.getElem?_cons_zero, Option.some.injEq] at h
    subst h
    have := hL c (by simp)
    rw [List.flatten_cons, List.getElem?_append_left (by omega)]
    simp
  | c :: L, hL, j + 1, i, cs, h, hi => by
    have hc := hL c (by simp)
    have e : (j + 1) * k + i = c.length + (j * k + i) := by rw [hc, Nat.add_mul]; omega
    rw [List.flatten_cons, e, List.getElem?_append_right (by omega), Nat.add_sub_cancel_left]
    exact flat_get L (fun c hc => hL c (by simp [hc])) j i cs (by simpa using h) hi
theorem rowIn_of_own {w : World} {B k : Nat} {e : TypeId} {v : Value} {L : List (List Value)} (hL : ∀ c ∈ L, c.length = k) (h : w.ownsRow B e k v L.length L.flatten) : RowIn w k v L := by
  rcases h.2 with ⟨rfl, h0⟩ | ⟨g, cap, cur, rfl, hb, hg, h1, h2, h3, h4⟩
  · have : L = [] := List.length_eq_zero_iff.1 h0
    subst this
    exact rowIn_nil w k none 0
  · refine ⟨_, cap, g, 0, rfl, by unfold maxLen at h2; omega, fun j cs hj => ⟨rfl, fun i u hu => ?_⟩⟩
    have hk := hL cs (List.mem_of_getElem? hj)
    have hi : i < k := hk ▸ (List.getElem?_eq_some_iff.1 hu).1
    have hjn := (List.getElem?_eq_some_iff.1 hj).1
    have h5 := flat_get L hL j i cs hj hi
    rw [← h4, List.getElem?_take_of_lt (by
      have : (j + 1) * k ≤ L.length * k := Nat.mul_le_mul_right k hjn
      rw [Nat.add_mul] at this
      omega), hu] at h5
    exact cell_of hg (by simpa using h5)
/-- append by a run equation, as one step of a plain walk -/
theorem wpList_append_run {P : Program} {w : World} {ops : Array Oper} {rest : List Oper} {o : Oper} {a : Act} {Q : Exit → Act → World → Prop} (hgd : o.guard = none) (s x : Operand) (t : TypeId)
    (ho : o.op = .call { callee := .builtin .append, args := #[s, x], argTypes := #[t, t] }) (v u : Value) (hs : a.eval s = v) (hx : a.eval x = u) {v' : Value} {w' : World}
    (hr : (Builtin.append_ #[t, t] o.type #[v, u]).run P w = .ok v' w') (h : wpList P ops Q rest (a.put o.dst v') w') : wpList P ops Q (o :: rest) a w := by
  refine wpList_plain hgd fun K hK => ?_
  unfold Oper.wp
  simp [execOp, ho, resolve, invoke, builtin, hs, hx, hr, Result.andThen]
  exact hK _ _ h

theorem ats_info : (Tryz.prog.info? 38).map (fun i => (i.zero, i.size, i.bytes)) = some (some (.agg #[.int .i64 0, .int .i64 0, .int .i64 0]), 3, 24) := by kernel_rfl
/-- a row of the call's own that holds such things -/
def AtsOwn (w : World) (B : Nat) (v : Value) (l : List PAt) : Prop := w.ownsRow B 38 3 v l.length (l.flatMap (atC))
theorem AtsOwn.nil (w : World) (B : Nat) : AtsOwn w B (.slice none 0 0) [] := ⟨rfl, .inl ⟨rfl, rfl⟩⟩
theorem AtsOwn.app {w : World} {B : Nat} {v : Value} {l : List PAt} (h : AtsOwn w B v l) (hB : B ≤ w.heap.size) {m g : Nat} (hml : m = l.length) (hgs : w.heap.size = g) (hm : m ≤ 1000000) (p : PAt) :
    ∃ a c w2, (Builtin.append_ #[22, 22] 22 #[v, .slice (some ⟨g, 0, none⟩) 1 1]).run Tryz.prog (w.alloc (.cells ((atC) p).toArray 38)) = .ok (.slice a (m + 1) c) w2 ∧
      AtsOwn w2 B (.slice a (m + 1) c) (l ++ [p]) ∧ Chg (own v) w w2 ∧ ∀ g, (Value.slice a (m + 1) c).ownBlock = some g → v.ownBlock = some g ∨ w.heap.size ≤ g := by
  subst hml hgs
  obtain ⟨i0, hi, hz0, hz1, hz2⟩ := info_parts ats_info
  obtain ⟨v', w2, h1, h2, h3, _, h5⟩ := run_append_own_at (P := Tryz.prog) (w.alloc (.cells ((atC) p).toArray 38)) B 22 22 38 i0 (.agg #[.int .i64 0, .int .i64 0, .int .i64 0]) 3 24 Tryz.underlying22 hi hz0 hz1 hz2 rfl (by decide) v l.length _ (h.alloc _)
    ⟨w.heap.size, 0, none⟩ 1 1 ((atC) p) rfl (cells_new _ _ _) (by intro u hu; simp [atC] at hu; rcases hu with rfl | rfl | rfl <;> rfl) (by unfold maxLen; omega) (by omega) (by simp; omega)
  obtain ⟨a, c, rfl, _⟩ := ownsRow_view h2
  refine ⟨a, c, w2, h1, ?_, ((Chg.refl _ w).alloc _).grown h3 (fun k hk => .inl (by simp [own, hk])), fun g hg => ?_⟩
  · unfold AtsOwn
    rw [List.length_append, List.flatMap_append]
    simpa using h2
  · rcases h5 with h5 | h5
    · exact .inl (h5 ▸ hg)
    · rw [hg] at h5
      simp only [Option.some.injEq, World.size_alloc] at h5
      exact .inr (by omega)
theorem AtsOwn.view {w : World} {B : Nat} {v : Value} {l : List PAt} (h : AtsOwn w B v l) : ∃ a m c, v = .slice a m c ∧ m = l.length := by
  obtain ⟨a, c, e, -⟩ := ownsRow_view h
  exact ⟨a, _, c, e, rfl⟩
theorem AtsOwn.low {w : World} {B : Nat} {v : Value} {l : List PAt} (h : AtsOwn w B v l) : ∀ g, v.ownBlock = some g → B ≤ g ∧ g < w.heap.size := ownsRow_low h
theorem AtsOwn.chg {w w' : World} {B : Nat} {v : Value} {l : List PAt} {F : List Nat} (h : AtsOwn w B v l) (hc : Chg F w w') (hn : ∀ g, v.ownBlock = some g → g ∉ F) : AtsOwn w' B v l := hc.owns h hn
theorem AtsOwn.below {w w' : World} {B : Nat} {v : Value} {l : List PAt} (h : AtsOwn w B v l) (hb : Below w.heap.size w w') : AtsOwn w' B v l := h.chg (F := []) (Chg.of_below hb) (by simp)
theorem AtsOwn.lower {w : World} {B B' : Nat} {v : Value} {l : List PAt} (h : AtsOwn w B v l) (hb : B' ≤ B) : AtsOwn w B' v l := ownsRow_lower h hb
theorem AtsOwn.read {w : World} {B : Nat} {v : Value} {l : List PAt} (h : AtsOwn w B v l) : AtsIn w v l := rowIn_of_own (L := l.map (atC)) (by intro c hc; obtain ⟨q, -, rfl⟩ := List.mem_map.1 hc; rfl) (by simpa [List.flatMap_map, AtsOwn, List.flatMap_def, Function.comp_def] using h)

theorem sps_info : (Tryz.prog.info? 40).map (fun i => (i.zero, i.size, i.bytes)) = some (some (.agg #[.int .i64 0, .int .i64 0, .int .i64 0, .int .i64 0, .int .i64 0]), 5, 40) := by kernel_rfl
/-- a row of the call's own that holds such things -/
def SpsOwn (w : World) (B : Nat) (v : Value) (l : List PSp) : Prop := w.ownsRow B 40 5 v l.length (l.flatMap (spC))
theorem SpsOwn.nil (w : World) (B : Nat) : SpsOwn w B (.slice none 0 0) [] := ⟨rfl, .inl ⟨rfl, rfl⟩⟩
theorem SpsOwn.app {w : World} {B : Nat} {v : Value} {l : List PSp} (h : SpsOwn w B v l) (hB : B ≤ w.heap.size) {m g : Nat} (hml : m = l.length) (hgs : w.heap.size = g) (hm : m ≤ 1000000) (p : PSp) :
    ∃ a c w2, (Builtin.append_ #[32, 32] 32 #[v, .slice (some ⟨g, 0, none⟩) 1 1]).run Tryz.prog (w.alloc (.cells ((spC) p).toArray 40)) = .ok (.slice a (m + 1) c) w2 ∧
      SpsOwn w2 B (.slice a (m + 1) c) (l ++ [p]) ∧ Chg (own v) w w2 ∧ ∀ g, (Value.slice a (m + 1) c).ownBlock = some g → v.ownBlock = some g ∨ w.heap.size ≤ g := by
  subst hml hgs
  obtain ⟨i0, hi, hz0, hz1, hz2⟩ := info_parts sps_info
  obtain ⟨v', w2, h1, h2, h3, _, h5⟩ := run_append_own_at (P := Tryz.prog) (w.alloc (.cells ((spC) p).toArray 40)) B 32 32 40 i0 (.agg #[.int .i64 0, .int .i64 0, .int .i64 0, .int .i64 0, .int .i64 0]) 5 40 Tryz.underlying32 hi hz0 hz1 hz2 rfl (by decide) v l.length _ (h.alloc _)
    ⟨w.heap.size, 0, none⟩ 1 1 ((spC) p) rfl (cells_new _ _ _) (by intro u hu; simp [spC] at hu; rcases hu with rfl | rfl | rfl | rfl | rfl <;> rfl) (by unfold maxLen; omega) (by omega) (by simp; omega)
  obtain ⟨a, c, rfl, _⟩ := ownsRow_view h2
  refine ⟨a, c, w2, h1, ?_, ((Chg.refl _ w).alloc _).grown h3 (fun k hk => .inl (by simp [own, hk])), fun g hg => ?_⟩
  · unfold SpsOwn
    rw [List.length_append, List.flatMap_append]
    simpa using h2
  · rcases h5 with h5 | h5
    · exact .inl (h5 ▸ hg)
    · rw [hg] at h5
      simp only [Option.some.injEq, World.size_alloc] at h5
      exact .inr (by omega)
theorem SpsOwn.view {w : World} {B : Nat} {v : Value} {l : List PSp} (h : SpsOwn w B v l) : ∃ a m c, v = .slice a m c ∧ m = l.length := by
  obtain ⟨a, c, e, -⟩ := ownsRow_view h
  exact ⟨a, _, c, e, rfl⟩
theorem SpsOwn.low {w : World} {B : Nat} {v : Value} {l : List PSp} (h : SpsOwn w B v l) : ∀ g, v.ownBlock = some g → B ≤ g ∧ g < w.heap.size := ownsRow_low h
theorem SpsOwn.chg {w w' : World} {B : Nat} {v : Value} {l : List PSp} {F : List Nat} (h : SpsOwn w B v l) (hc : Chg F w w') (hn : ∀ g, v.ownBlock = some g → g ∉ F) : SpsOwn w' B v l := hc.owns h hn
theorem SpsOwn.below {w w' : World} {B : Nat} {v : Value} {l : List PSp} (h : SpsOwn w B v l) (hb : Below w.heap.size w w') : SpsOwn w' B v l := h.chg (F := []) (Chg.of_below hb) (by simp)
theorem SpsOwn.lower {w : World} {B B' : Nat} {v : Value} {l : List PSp} (h : SpsOwn w B v l) (hb : B' ≤ B) : SpsOwn w B' v l := ownsRow_lower h hb
theorem SpsOwn.read {w : World} {B : Nat} {v : Value} {l : List PSp} (h : SpsOwn w B v l) : SpsIn w v l := rowIn_of_own (L := l.map (spC)) (by intro c hc; obtain ⟨q, -, rfl⟩ := List.mem_map.1 hc; rfl) (by simpa [List.flatMap_map, SpsOwn, List.flatMap_def, Function.comp_def] using h)

theorem cls_info : (Tryz.prog.info? 58).map (fun i => (i.zero, i.size, i.bytes)) = some (some (.agg #[.int .i64 0, .int .i64 0, .string ⟨#[]⟩]), 3, 32) := by kernel_rfl
/-- a row of the call's own that holds such things -/
def ClsOwn (w : World) (B : Nat) (v : Value) (tx : PAt → ByteArray) (l : List PAt) : Prop := w.ownsRow B 58 3 v l.length (l.flatMap (cellC tx))
theorem ClsOwn.nil (tx : PAt → ByteArray) (w : World) (B : Nat) : ClsOwn w B (.slice none 0 0) tx [] := ⟨rfl, .inl ⟨rfl, rfl⟩⟩
theorem ClsOwn.app {w : World} {B : Nat} {v : Value} {tx : PAt → ByteArray} {l : List PAt} (h : ClsOwn w B v tx l) (hB : B ≤ w.heap.size) {m g : Nat} (hml : m = l.length) (hgs : w.heap.size = g) (hm : m ≤ 1000000) (p : PAt) :
    ∃ a c w2, (Builtin.append_ #[53, 53] 53 #[v, .slice (some ⟨g, 0, none⟩) 1 1]).run Tryz.prog (w.alloc (.cells ((cellC tx) p).toArray 58)) = .ok (.slice a (m + 1) c) w2 ∧
      ClsOwn w2 B (.slice a (m + 1) c) tx (l ++ [p]) ∧ Chg (own v) w w2 ∧ ∀ g, (Value.slice a (m + 1) c).ownBlock = some g → v.ownBlock = some g ∨ w.heap.size ≤ g := by
  subst hml hgs
  obtain ⟨i0, hi, hz0, hz1, hz2⟩ := info_parts cls_info
  obtain ⟨v', w2, h1, h2, h3, _, h5⟩ := run_append_own_at (P := Tryz.prog) (w.alloc (.cells ((cellC tx) p).toArray 58)) B 53 53 58 i0 (.agg #[.int .i64 0, .int .i64 0, .string ⟨#[]⟩]) 3 32 Tryz.underlying53 hi hz0 hz1 hz2 rfl (by decide) v l.length _ (h.alloc _)
    ⟨w.heap.size, 0, none⟩ 1 1 ((cellC tx) p) rfl (cells_new _ _ _) (by intro u hu; simp [cellC] at hu; rcases hu with rfl | rfl | rfl <;> rfl) (by unfold maxLen; omega) (by omega) (by simp; omega)
  obtain ⟨a, c, rfl, _⟩ := ownsRow_view h2
  refine ⟨a, c, w2, h1, ?_, ((Chg.refl _ w).alloc _).grown h3 (fun k hk => .inl (by simp [own, hk])), fun g hg => ?_⟩
  · unfold ClsOwn
    rw [List.length_append, List.flatMap_append]
    simpa using h2
  · rcases h5 with h5 | h5
    · exact .inl (h5 ▸ hg)
    · rw [hg] at h5
      simp only [Option.some.injEq, World.size_alloc] at h5
      exact .inr (by omega)
theorem ClsOwn.view {w : World} {B : Nat} {v : Value} {tx : PAt → ByteArray} {l : List PAt} (h : ClsOwn w B v tx l) : ∃ a m c, v = .slice a m c ∧ m = l.length := by
  obtain ⟨a, c, e, -⟩ := ownsRow_view h
  exact ⟨a, _, c, e, rfl⟩
theorem ClsOwn.low {w : World} {B : Nat} {v : Value} {tx : PAt → ByteArray} {l : List PAt} (h : ClsOwn w B v tx l) : ∀ g, v.ownBlock = some g → B ≤ g ∧ g < w.heap.size := ownsRow_low h
theorem ClsOwn.chg {w w' : World} {B : Nat} {v : Value} {tx : PAt → ByteArray} {l : List PAt} {F : List Nat} (h : ClsOwn w B v tx l) (hc : Chg F w w') (hn : ∀ g, v.ownBlock = some g → g ∉ F) : ClsOwn w' B v tx l := hc.owns h hn
theorem ClsOwn.below {w w' : World} {B : Nat} {v : Value} {tx : PAt → ByteArray} {l : List PAt} (h : ClsOwn w B v tx l) (hb : Below w.heap.size w w') : ClsOwn w' B v tx l := h.chg (F := []) (Chg.of_below hb) (by simp)
theorem ClsOwn.lower {w : World} {B B' : Nat} {v : Value} {tx : PAt → ByteArray} {l : List PAt} (h : ClsOwn w B v tx l) (hb : B' ≤ B) : ClsOwn w B' v tx l := ownsRow_lower h hb
theorem ClsOwn.read {w : World} {B : Nat} {v : Value} {tx : PAt → ByteArray} {l : List PAt} (h : ClsOwn w B v tx l) : CellsIn w v tx l := rowIn_of_own (L := l.map (cellC tx)) (by intro c hc; obtain ⟨q, -, rfl⟩ := List.mem_map.1 hc; rfl) (by simpa [List.flatMap_map, ClsOwn, List.flatMap_def, Function.comp_def] using h)
end Go.Proofs.YthkjmplcmfabfaaGreatDoor
