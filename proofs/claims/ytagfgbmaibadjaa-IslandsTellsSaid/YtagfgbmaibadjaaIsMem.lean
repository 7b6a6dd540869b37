/- The walker of islands in memory; contracts of slices.Index, meet, close. -/
import Derived.Test.YtagfgbmaibadjaaIsBase
import Derived.Maps.AppendAt
namespace Go.Proofs.Ytagfgbmaibadjaa
open Go.RowKit Go.Lib

theorem Try.info3 : (Try.prog.info? 3).map (fun i => (i.zero, i.size, i.bytes)) = some (some (.int .i64 0), 1, 8) := by kernel_rfl

def findI (x : Int) (l : List Int) : Int := if x ∈ l then (l.idxOf x : Int) else -1

theorem find_here {x : Int} {l : List Int} {j : Nat} (hx : l[j]? = some x) (h : x ∉ l.take j) : findI x l = (j : Int) := by
  obtain ⟨hj, e⟩ := List.getElem?_eq_some_iff.1 hx
  have hm : x ∈ l := e ▸ List.getElem_mem hj
  unfold findI
  rw [if_pos hm]
  have h1 : l = l.take j ++ l.drop j := (List.take_append_drop j l).symm
  have h2 : l.drop j = x :: l.drop (j + 1) := by rw [List.drop_eq_getElem_cons hj, e]
  have h3 : (l.take j).length = j := by simp; omega
  rw [h1, List.idxOf_append, if_neg h, h2, List.idxOf_cons_self, h3]
  simp

def IndexRel (w : World) (x : Int) (l : List Int) (i : Value) (wr : World) : Prop := ∃ j : Nat, i = .int .i64 (j : Int) ∧ j ≤ l.length ∧ x ∉ l.take j ∧ wr = w
set_option maxHeartbeats 1000000 in
theorem index_any (w : World) (lv : Value) (l : List Int) (h : IntsIn w lv l) (x : Int) (_h1 : -9223372036854775808 ≤ x) (_h2 : x ≤ 9223372036854775807) :
    Calls Try.prog 40 #[lv, .int .i64 x] w fun e w' => e = .returned (.int .i64 (findI x l)) ∧ w = w' := by
  obtain ⟨lo, lc, b, off, rfl, hl, hc⟩ := h
  have HC := hid hc
  clear hc
  go_enter Try.func40, Try.ntmps40
  go_wp2_with fail
  go_loopw [8] (fun i wr => IndexRel w x l i wr) (fun i _ => l.length - (intOf i).toNat)
  case atStart => exact ⟨0, rfl, by omega, by simp, rfl⟩
  case round =>
    obtain ⟨j, rfl, hj, hbad, rfl⟩ := hrel
    have HB := hid hbad
    clear hbad
    by_cases hgo : j < l.length
    · obtain ⟨y, hy⟩ : ∃ y, l[j]? = some y := ⟨l[j], by simp [hgo]⟩
      obtain ⟨rfl, hcx, x1, x2⟩ := HC.out j y hy
      have HY := hid hy
      clear hy
      by_cases hxy : x = y
      · subst hxy
        have HE := hid (find_here HY.out HB.out)
        go_wp2_with fail
        go_ret
        exact ⟨ret_int HE.out.symm, rfl⟩
      · have HE := hid (show x ∉ l.take (j + 1) by
          obtain ⟨hj', e⟩ := List.getElem?_eq_some_iff.1 HY.out
          rw [List.take_succ_eq_append_getElem hj', e]
          simp [HB.out, hxy])
        go_wp2_with fail
        go_roundw
        case rel => exact ⟨j + 1, by simp, by omega, HE.out, rfl⟩
        case measure => simp [intOf]; omega
    · obtain rfl : j = l.length := by omega
      go_wp2_with fail
      go_ret
      have := HB.out
      rw [List.take_length] at this
      exact ⟨ret_int (by simp [findI, this]), rfl⟩

/-- a row of n ints -/
def RowF (w : World) (b n : Nat) (f : Nat → Int) : Prop := w.heap[b]? = some (.cells ((List.range n).map fun i => Value.int .i64 (f i)).toArray 3 (0, 0))
theorem RowF.get {w : World} {b n i : Nat} {f : Nat → Int} (h : RowF w b n f) (hi : i < n) : w.cell? ⟨b, i, none⟩ = some (.int .i64 (f i)) :=
  cell_of h (by simp [hi])
theorem RowF.free {w : World} {b n i : Nat} {f : Nat → Int} (h : RowF w b n f) : w.frozen? ⟨b, i, none⟩ = false := free_of h
theorem RowF.set {w : World} {b n k : Nat} {f : Nat → Int} (h : RowF w b n f) (v : Int) : RowF (w.setCell ⟨b, k, none⟩ (.int .i64 v)) b n (upd f k v) := by
  have := heap_setCell_at (i := k) h (.int .i64 v)
  unfold RowF
  rw [this]
  congr 2
  apply Array.ext'
  rw [Array.toList_setIfInBounds]
  apply List.ext_getElem?
  intro i
  simp only [List.getElem?_set, List.getElem?_map, List.length_map, List.length_range]
  by_cases e : k = i
  · subst e
    by_cases hk : k < n <;> simp [hk, upd]
  · simp only [if_neg e]
    by_cases hi : i < n
    · simp [hi, upd, Ne.symm e]
    · simp [hi]
theorem RowF.chg {w w' : World} {b n : Nat} {f : Nat → Int} {F : List Nat} (h : RowF w b n f) (c : Chg F w w') (hb : b ∉ F) : RowF w' b n f := c.heap h hb
theorem RowF.far {w : World} {b n : Nat} {f : Nat → Int} (h : RowF w b n f) {p : Addr} (hb : b ≠ p.block) (u : Value) : RowF (w.setCell p u) b n f :=
  (Below.heap_setCell w p u b hb).trans h
theorem RowF.lt {w : World} {b n : Nat} {f : Nat → Int} (h : RowF w b n f) : b < w.heap.size := heap_lt h

def natI (f : Nat → Nat) : Nat → Int := fun i => (f i : Int)
def islI (f : Nat → Option Nat) : Nat → Int := fun i => match f i with | none => -1 | some c => (c : Int)
def natCells (l : List Nat) : List Value := l.map fun (x : Nat) => Value.int .i64 (x : Int)
theorem natI_upd (f : Nat → Nat) (k v : Nat) : upd (natI f) k (v : Int) = natI (upd f k v) := by
  funext i; by_cases e : i = k <;> simp [upd, natI, e]

/-- the walker in memory -/
structure WAt (w : World) (B wb : Nat) (ev : Value) (n bw bl bo : Nat) (ov : Value) (s : St) : Prop where
  hd : w.heap[wb]? = some (.cells #[ev, .slice (some ⟨bw, 0, none⟩) n n, .slice (some ⟨bl, 0, none⟩) n n, ov, .slice (some ⟨bo, 0, none⟩) n n, .int .i64 (s.time : Int), .int .i64 (s.many : Int)] 46 (0, 0))
  rw : RowF w bw n (natI s.wn)
  rl : RowF w bl n (natI s.low)
  ro : RowF w bo n (islI s.isl)
  op : w.ownsRow B 3 1 ov s.opn.length (natCells s.opn)
  wl : bw ≠ bl
  wo : bw ≠ bo
  lo : bl ≠ bo
  ow : ∀ g, ov.ownBlock = some g → g ≠ bw ∧ g ≠ bl ∧ g ≠ bo
  b0 : B ≤ wb
  b1 : B ≤ bw
  b2 : B ≤ bl
  b3 : B ≤ bo

def own (v : Value) : List Nat := v.ownBlock.toList
theorem owns_cells {w : World} {base size n g : Nat} {e : TypeId} {v : Value} {xs : List Value} (h : w.ownsRow base e size v n xs) (hg : v.ownBlock = some g) : ∃ cur, w.heap[g]? = some (.cells cur e (0, 0)) := by
  rcases h.2 with ⟨rfl, _⟩ | ⟨g', cap, cur, rfl, _, hgg, _⟩
  · simp [Value.ownBlock] at hg
  · simp only [Value.ownBlock, Option.some.injEq] at hg
    subst hg
    exact ⟨cur, hgg⟩
theorem ownsRow_view {w : World} {base size : Nat} {e : TypeId} {v : Value} {n : Nat} {xs : List Value} (h : w.ownsRow base e size v n xs) : ∃ a c, v = .slice a n c ∧ n ≤ maxLen := by
  rcases h.2 with ⟨rfl, rfl⟩ | ⟨g, cap, cur, rfl, _, _, h1, h2, _⟩
  · exact ⟨_, _, rfl, by simp [maxLen]⟩
  · exact ⟨_, _, rfl, Nat.le_trans h1 h2⟩
theorem ownsRow_lower {w : World} {base base' : Nat} {e : TypeId} {size : Nat} {v : Value} {n : Nat} {xs : List Value} (h : w.ownsRow base e size v n xs) (hb : base' ≤ base) : w.ownsRow base' e size v n xs := by
  refine ⟨h.1, ?_⟩
  rcases h.2 with h0 | ⟨g, cap, cur, rfl, hg, rest⟩
  · exact .inl h0
  · exact .inr ⟨g, cap, cur, rfl, by omega, rest⟩
theorem cell_one_new2 {w : World} {n : Nat} (hn : w.heap.size = n) (x : Value) (t : TypeId) : ∀ j u, [x][j]? = some u → (w.alloc (.cells #[x] t)).cell? ((⟨n, 0, none⟩ : Addr).add j) = some u := by
  subst hn
  exact cell_one_new w x t

/-- what a call of the walker's may have written -/
def WChg (wb bw bl bo : Nat) (ov ov' : Value) (w w' : World) : Prop := Chg (wb :: bw :: bl :: bo :: own ov) w w' ∧ ∀ g, ov'.ownBlock = some g → ov.ownBlock = some g ∨ w.heap.size ≤ g

/-- one int more on a row of the call's own -/
theorem app_int {w : World} {B : Nat} {ov : Value} {m : Nat} {xs : List Value} (h : w.ownsRow B 3 1 ov m xs) (hB : B ≤ w.heap.size) (hm : m ≤ 1000000) (x : Int) :
    ∃ a c w2, (Builtin.append_ #[24, 24] 24 #[ov, .slice (some ⟨w.heap.size, 0, none⟩) 1 1]).run Try.prog (w.alloc (.cells #[.int .i64 x] 3)) = .ok (.slice a (m + 1) c) w2 ∧
      w2.ownsRow B 3 1 (.slice a (m + 1) c) (m + 1) (xs ++ [.int .i64 x]) ∧ Chg (own ov) w w2 ∧ ∀ g, (Value.slice a (m + 1) c).ownBlock = some g → ov.ownBlock = some g ∨ w.heap.size ≤ g := by
  obtain ⟨i0, hi, hz0, hz1, hz2⟩ := info_parts Try.info3
  obtain ⟨v', w2, h1, h2, h3, _, h5⟩ := run_append_own_at (P := Try.prog) (w.alloc (.cells #[.int .i64 x] 3)) B 24 24 3 i0 (.int .i64 0) 1 8 Try.underlying24 hi hz0 hz1 hz2 rfl (by decide) ov m xs (h.alloc _)
    ⟨w.heap.size, 0, none⟩ 1 1 [.int .i64 x] rfl (cell_one_new2 rfl _ _) (by intro u hu; simp at hu; subst hu; rfl) (by unfold maxLen; omega) (by omega) (by simp; omega)
  obtain ⟨a, c, rfl, _⟩ := ownsRow_view h2
  refine ⟨a, c, w2, h1, h2, ((Chg.refl _ w).alloc _).grown h3 (fun k hk => .inl (by simp [own, hk])), fun g hg => ?_⟩
  rcases h5 with h5 | h5
  · exact .inl (h5 ▸ hg)
  · rw [hg] at h5
    simp only [Option.some.injEq, World.size_alloc] at h5
    exact .inr (by omega)

/-- append by a run equation, as one step of a plain walk -/
theorem wpList_append_run {P : Program} {w : World} {ops : Array Oper} {rest : List Oper} {o : Oper} {a : Act} {Q : Exit → Act → World → Prop} (hgd : o.guard = none) (s x : Operand) (t : TypeId)
    (ho : o.op = .call { callee := .builtin .append, args := #[s, x], argTypes := #[t, t] }) (v u : Value) (hs : a.eval s = v) (hx : a.eval x = u) {v' : Value} {w' : World}
    (hr : (Builtin.append_ #[t, t] o.type #[v, u]).run P w = .ok v' w') (h : wpList P ops Q rest (a.put o.dst v') w') : wpList P ops Q (o :: rest) a w := by
  refine wpList_plain hgd fun K hK => ?_
  unfold Oper.wp
  simp [execOp, ho, resolve, invoke, builtin, hs, hx, hr, Result.andThen]
  exact hK _ _ h

end Go.Proofs.Ytagfgbmaibadjaa
