/- The walker of islands in memory; contracts of slices.Index, meet, close. A heap of distinct numbers in an array: order, content, a hole that moves up or down; no program in sight. No condition. The heap in memory; contracts of put and take. -/
import Derived.Test.YtpcjfgihglfdgaaGreatDoorKCjPlain2
import Derived.Maps.AppendAt
import Derived.Test.YtpcjfgihglfdgaaGreatDoorKCjPlain

namespace Go.Proofs.YtpcjfgihglfdgaaGreatDoor.Isl
open Go.RowKit Go.Lib

theorem infoT3 : (Tryz.prog.info? 3).map (fun i => (i.zero, i.size, i.bytes)) = some (some (.int .i64 0), 1, 8) := by kernel_rfl

def findI (x : Int) (l : List Int) : Int := if x ∈ l then (l.idxOf x : Int) else -1

theorem find_here {x : Int} {l : List Int} {j : Nat} (hx : l[j]? = some x) (h : x ∉ l.take j) : findI x l = (j : Int) := by
  obtain ⟨hj, e⟩ := List.getElem?_eq_some_iff.1 hx
  have hm : x ∈ l := e ▸ List.getElem_mem hj
  unfold findI
  rw [if_pos hm]
  have h1 : l = l.take j ++ l.drop j := (List.take_append_drop j l).symm
  have h2 : l.drop j = x :: l.drop (j + 1) := by rw [List.drop_eq_getElem_cons hj, e]
  have h3 : (l.take j).length = j := by simp; omega
  rw [h1, List.idxOf_append, if_neg h, h2, List.idxOf_cons_self, h3]
  simp

def IndexRel (w : World) (x : Int) (l : List Int) (i : Value) (wr : World) : Prop := ∃ j : Nat, i = .int .i64 (j : Int) ∧ j ≤ l.length ∧ x ∉ l.take j ∧ wr = w
set_option maxHeartbeats 1000000 in
theorem index_any (w : World) (lv : Value) (l : List Int) (h : IntsIn w lv l) (x : Int) (_h1 : -9223372036854775808 ≤ x) (_h2 : x ≤ 9223372036854775807) :
    Calls Tryz.prog 79 #[lv, .int .i64 x] w fun e w' => e = .returned (.int .i64 (findI x l)) ∧ w = w' := by
  obtain ⟨lo, lc, b, off, rfl, hl, hc⟩ := h
  have HC := hid hc
  clear hc
  go_enter Tryz.func79, Tryz.ntmps79
  go_wp2_with fail
  go_loopw [8] (fun i wr => IndexRel w x l i wr) (fun i _ => l.length - (intOf i).toNat)
  case atStart => exact ⟨0, rfl, by omega, by simp, rfl⟩
  case round =>
    obtain ⟨j, rfl, hj, hbad, rfl⟩ := hrel
    have HB := hid hbad
    clear hbad
    by_cases hgo : j < l.length
    · obtain ⟨y, hy⟩ : ∃ y, l[j]? = some y := ⟨l[j], by simp [hgo]⟩
      obtain ⟨rfl, hcx, x1, x2⟩ := HC.out j y hy
      have HY := hid hy
      clear hy
      by_cases hxy : x = y
      · subst hxy
        have HE := hid (find_here HY.out HB.out)
        go_wp2_with fail
        go_ret
        exact ⟨ret_int HE.out.symm, rfl⟩
      · have HE := hid (show x ∉ l.take (j + 1) by
          obtain ⟨hj', e⟩ := List.getElem?_eq_some_iff.1 HY.out
          rw [List.take_succ_eq_append_getElem hj', e]
          simp [HB.out, hxy])
        go_wp2_with fail
        go_roundw
        case rel => exact ⟨j + 1, by simp, by omega, HE.out, rfl⟩
        case measure => simp [intOf]; omega
    · obtain rfl : j = l.length := by omega
      go_wp2_with fail
      go_ret
      have := HB.out
      rw [List.take_length] at this
      exact ⟨ret_int (by simp [findI, this]), rfl⟩

/-- a row of n ints -/
def RowF (w : World) (b n : Nat) (f : Nat → Int) : Prop := w.heap[b]? = some (.cells ((List.range n).map fun i => Value.int .i64 (f i)).toArray 3 (0, 0))
theorem RowF.get {w : World} {b n i : Nat} {f : Nat → Int} (h : RowF w b n f) (hi : i < n) : w.cell? ⟨b, i, none⟩ = some (.int .i64 (f i)) :=
  cell_of h (by simp [hi])
theorem RowF.free {w : World} {b n i : Nat} {f : Nat → Int} (h : RowF w b n f) : w.frozen? ⟨b, i, none⟩ = false := free_of h
theorem RowF.set {w : World} {b n k : Nat} {f : Nat → Int} (h : RowF w b n f) (v : Int) : RowF (w.setCell ⟨b, k, none⟩ (.int .i64 v)) b n (upd f k v) := by
  have := heap_setCell_at (i := k) h (.int .i64 v)
  unfold RowF
  rw [this]
  congr 2
  apply Array.ext'
  rw [Array.toList_setIfInBounds]
  apply List.ext_getElem?
  intro i
  simp only [List.getElem?_set, List.getElem?_map, List.length_map, List.length_range]
  by_cases e : k = i
  · subst e
    by_cases hk : k < n <;> simp [hk, upd]
  · simp only [if_neg e]
    by_cases hi : i < n
    · simp [hi, upd, Ne.symm e]
    · simp [hi]
theorem RowF.chg {w w' : World} {b n : Nat} {f : Nat → Int} {F : List Nat} (h : RowF w b n f) (c : Chg F w w') (hb : b ∉ F) : RowF w' b n f := c.heap h hb
theorem RowF.far {w : World} {b n : Nat} {f : Nat → Int} (h : RowF w b n f) {p : Addr} (hb : b ≠ p.block) (u : Value) : RowF (w.setCell p u) b n f :=
  (Below.heap_setCell w p u b hb).trans h
theorem RowF.lt {w : World} {b n : Nat} {f : Nat → Int} (h : RowF w b n f) : b < w.heap.size := heap_lt h

def natI (f : Nat → Nat) : Nat → Int := fun i => (f i : Int)
def islI (f : Nat → Option Nat) : Nat → Int := fun i => match f i with | none => -1 | some c => (c : Int)
def natCells (l : List Nat) : List Value := l.map fun (x : Nat) => Value.int .i64 (x : Int)
theorem natI_upd (f : Nat → Nat) (k v : Nat) : upd (natI f) k (v : Int) = natI (upd f k v) := by
  funext i; by_cases e : i = k <;> simp [upd, natI, e]

/-- the walker in memory -/
structure WAt (w : World) (B wb : Nat) (ev : Value) (n bw bl bo : Nat) (ov : Value) (s : St) : Prop where
  hd : w.heap[wb]? = some (.cells #[ev, .slice (some ⟨bw, 0, none⟩) n n, .slice (some ⟨bl, 0, none⟩) n n, ov, .slice (some ⟨bo, 0, none⟩) n n, .int .i64 (s.time : Int), .int .i64 (s.many : Int)] 87 (0, 0))
  rw : RowF w bw n (natI s.wn)
  rl : RowF w bl n (natI s.low)
  ro : RowF w bo n (islI s.isl)
  op : w.ownsRow B 3 1 ov s.opn.length (natCells s.opn)
  wl : bw ≠ bl
  wo : bw ≠ bo
  lo : bl ≠ bo
  ow : ∀ g, ov.ownBlock = some g → g ≠ bw ∧ g ≠ bl ∧ g ≠ bo
  b0 : B ≤ wb
  b1 : B ≤ bw
  b2 : B ≤ bl
  b3 : B ≤ bo

def own (v : Value) : List Nat := v.ownBlock.toList
theorem owns_cells {w : World} {base size n g : Nat} {e : TypeId} {v : Value} {xs : List Value} (h : w.ownsRow base e size v n xs) (hg : v.ownBlock = some g) : ∃ cur, w.heap[g]? = some (.cells cur e (0, 0)) := by
  rcases h.2 with ⟨rfl, _⟩ | ⟨g', cap, cur, rfl, _, hgg, _⟩
  · simp [Value.ownBlock] at hg
  · simp only [Value.ownBlock, Option.some.injEq] at hg
    subst hg
    exact ⟨cur, hgg⟩
theorem ownsRow_view {w : World} {base size : Nat} {e : TypeId} {v : Value} {n : Nat} {xs : List Value} (h : w.ownsRow base e size v n xs) : ∃ a c, v = .slice a n c ∧ n ≤ maxLen := by
  rcases h.2 with ⟨rfl, rfl⟩ | ⟨g, cap, cur, rfl, _, _, h1, h2, _⟩
  · exact ⟨_, _, rfl, by simp [maxLen]⟩
  · exact ⟨_, _, rfl, Nat.le_trans h1 h2⟩
theorem ownsRow_lower {w : World} {base base' : Nat} {e : TypeId} {size : Nat} {v : Value} {n : Nat} {xs : List Value} (h : w.ownsRow base e size v n xs) (hb : base' ≤ base) : w.ownsRow base' e size v n xs := by
  refine ⟨h.1, ?_⟩
  rcases h.2 with h0 | ⟨g, cap, cur, rfl, hg, rest⟩
  · exact .inl h0
  · exact .inr ⟨g, cap, cur, rfl, by omega, rest⟩
theorem cell_one_new2 {w : World} {n : Nat} (hn : w.heap.size = n) (x : Value) (t : TypeId) : ∀ j u, [x][j]? = some u → (w.alloc (.cells #[x] t)).cell? ((⟨n, 0, none⟩ : Addr).add j) = some u := by
  subst hn
  exact cell_one_new w x t

/-- what a call of the walker's may have written -/
def WChg (wb bw bl bo : Nat) (ov ov' : Value) (w w' : World) : Prop := Chg (wb :: bw :: bl :: bo :: own ov) w w' ∧ ∀ g, ov'.ownBlock = some g → ov.ownBlock = some g ∨ w.heap.size ≤ g

/-- one int more on a row of the call's own -/
theorem app_int {w : World} {B : Nat} {ov : Value} {m : Nat} {xs : List Value} (h : w.ownsRow B 3 1 ov m xs) (hB : B ≤ w.heap.size) (hm : m ≤ 1000000) (x : Int) :
    ∃ a c w2, (Builtin.append_ #[42, 42] 42 #[ov, .slice (some ⟨w.heap.size, 0, none⟩) 1 1]).run Tryz.prog (w.alloc (.cells #[.int .i64 x] 3)) = .ok (.slice a (m + 1) c) w2 ∧
      w2.ownsRow B 3 1 (.slice a (m + 1) c) (m + 1) (xs ++ [.int .i64 x]) ∧ Chg (own ov) w w2 ∧ ∀ g, (Value.slice a (m + 1) c).ownBlock = some g → ov.ownBlock = some g ∨ w.heap.size ≤ g := by
  obtain ⟨i0, hi, hz0, hz1, hz2⟩ := info_parts infoT3
  obtain ⟨v', w2, h1, h2, h3, _, h5⟩ := run_append_own_at (P := Tryz.prog) (w.alloc (.cells #[.int .i64 x] 3)) B 42 42 3 i0 (.int .i64 0) 1 8 Tryz.underlying42 hi hz0 hz1 hz2 rfl (by decide) ov m xs (h.alloc _)
    ⟨w.heap.size, 0, none⟩ 1 1 [.int .i64 x] rfl (cell_one_new2 rfl _ _) (by intro u hu; simp at hu; subst hu; rfl) (by unfold maxLen; omega) (by omega) (by simp; omega)
  obtain ⟨a, c, rfl, _⟩ := ownsRow_view h2
  refine ⟨a, c, w2, h1, h2, ((Chg.refl _ w).alloc _).grown h3 (fun k hk => .inl (by simp [own, hk])), fun g hg => ?_⟩
  rcases h5 with h5 | h5
  · exact .inl (h5 ▸ hg)
  · rw [hg] at h5
    simp only [Option.some.injEq, World.size_alloc] at h5
    exact .inr (by omega)

/-- append by a run equation, as one step of a plain walk -/
theorem wpList_append_run {P : Program} {w : World} {ops : Array Oper} {rest : List Oper} {o : Oper} {a : Act} {Q : Exit → Act → World → Prop} (hgd : o.guard = none) (s x : Operand) (t : TypeId)
    (ho : o.op = .call { callee := .builtin .append, args := #[s, x], argTypes := #[t, t] }) (v u : Value) (hs : a.eval s = v) (hx : a.eval x = u) {v' : Value} {w' : World}
    (hr : (Builtin.append_ #[t, t] o.type #[v, u]).run P w = .ok v' w') (h : wpList P ops Q rest (a.put o.dst v') w') : wpList P ops Q (o :: rest) a w := by
  refine wpList_plain hgd fun K hK => ?_
  unfold Oper.wp
  simp [execOp, ho, resolve, invoke, builtin, hs, hx, hr, Result.andThen]
  exact hK _ _ h

end Go.Proofs.YtpcjfgihglfdgaaGreatDoor.Isl

namespace Go.Proofs.YtpcjfgihglfdgaaGreatDoor.Isl

def parent (j : Nat) : Nat := (j - 1) / 2
/-- two places exchanged -/
def swp (f : Nat → Nat) (a b : Nat) : Nat → Nat := fun i => if i = a then f b else if i = b then f a else f i

/-- the first m numbers are distinct, and are those of S -/
structure Holds (f : Nat → Nat) (m : Nat) (S : Nat → Prop) : Prop where
  inj : ∀ i j, i < m → j < m → f i = f j → i = j
  mem : ∀ v, S v ↔ ∃ i, i < m ∧ f i = v
/-- each number is at least the one above it -/
def Ordered (f : Nat → Nat) (m : Nat) : Prop := ∀ j, 0 < j → j < m → f (parent j) ≤ f j

theorem Holds.swp {f : Nat → Nat} {m a b : Nat} {S : Nat → Prop} (h : Holds f m S) (ha : a < m) (hb : b < m) : Holds (swp f a b) m S := by
  have key : ∀ i, i < m → ∃ j, j < m ∧ Go.Proofs.YtpcjfgihglfdgaaGreatDoor.Isl.swp f a b i = f j ∧ (i = a → j = b) ∧ (i = b → j = a) ∧ (i ≠ a → i ≠ b → j = i) := fun i hi => by
    unfold Go.Proofs.YtpcjfgihglfdgaaGreatDoor.Isl.swp
    by_cases h1 : i = a
    · exact ⟨b, hb, by simp [h1], fun _ => rfl, fun h2 => by omega, fun h2 => absurd h1 h2⟩
    · by_cases h2 : i = b
      · exact ⟨a, ha, by rw [if_neg h1, if_pos h2], fun h => absurd h h1, fun _ => rfl, fun _ h => absurd h2 h⟩
      · exact ⟨i, hi, by simp [h1, h2], fun h => absurd h h1, fun h => absurd h h2, fun _ _ => rfl⟩
  refine ⟨fun i j hi hj e => ?_, fun v => ?_⟩
  · obtain ⟨p, hp, e1, a1, a2, a3⟩ := key i hi
    obtain ⟨q, hq, e2, b1, b2, b3⟩ := key j hj
    rw [e1, e2] at e
    have := h.inj p q hp hq e
    by_cases h1 : i = a
    · by_cases h2 : j = a
      · omega
      · by_cases h3 : j = b
        · have := a1 h1; have := b2 h3; omega
        · have := a1 h1; have := b3 h2 h3; omega
    · by_cases h1' : i = b
      · by_cases h2 : j = a
        · have := a2 h1'; have := b1 h2; omega
        · by_cases h3 : j = b
          · omega
          · have := a2 h1'; have := b3 h2 h3; omega
      · have := a3 h1 h1'
        by_cases h2 : j = a
        · have := b1 h2; omega
        · by_cases h3 : j = b
          · have := b2 h3; omega
          · have := b3 h2 h3; omega
  · rw [h.mem v]
    constructor
    · rintro ⟨i, hi, e⟩
      by_cases h1 : i = a
      · refine ⟨b, hb, ?_⟩
        unfold Go.Proofs.YtpcjfgihglfdgaaGreatDoor.Isl.swp
        rw [h1] at e
        by_cases hab : b = a
        · rw [if_pos hab, hab]; exact e
        · rw [if_neg hab, if_pos rfl]; exact e
      · by_cases h2 : i = b
        · exact ⟨a, ha, by unfold Go.Proofs.YtpcjfgihglfdgaaGreatDoor.Isl.swp; simp; rw [← h2]; exact e⟩
        · exact ⟨i, hi, by unfold Go.Proofs.YtpcjfgihglfdgaaGreatDoor.Isl.swp; simp [h1, h2]; exact e⟩
    · rintro ⟨i, hi, e⟩
      obtain ⟨j, hj, e1, _⟩ := key i hi
      exact ⟨j, hj, by rw [← e1]; exact e⟩

/-- behind put's first step: x stands last, and may have to rise -/
structure Rising (g : Nat → Nat) (m k : Nat) (S : Nat → Prop) : Prop where
  holds : Holds g m S
  lt : k < m
  ord : ∀ j, 0 < j → j < m → j ≠ k → g (parent j) ≤ g j
  kid : ∀ j, 0 < j → j < m → parent j = k → g k ≤ g j
  grand : ∀ j, 0 < j → j < m → parent j = k → 0 < k → g (parent k) ≤ g j

theorem rising_start {f : Nat → Nat} {m x : Nat} {S : Nat → Prop} (h : Holds f m S) (ho : Ordered f m) (hx : ¬ S x) : Rising (upd f m x) (m + 1) m (fun v => v = x ∨ S v) := by
  have e1 : ∀ i, i ≠ m → upd f m x i = f i := fun i hi => upd_far _ _ hi
  have e2 : upd f m x m = x := upd_same _ _ _
  have pl : ∀ j, 0 < j → parent j < j := fun j hj => by unfold parent; omega
  refine ⟨⟨fun i j hi hj e => ?_, fun v => ?_⟩, by omega, fun j h0 hj hne => ?_, fun j h0 hj hp => ?_, fun j h0 hj hp => ?_⟩
  · by_cases hi' : i = m
    · by_cases hj' : j = m
      · omega
      · rw [hi', e2, e1 j hj'] at e
        exact absurd ((h.mem x).2 ⟨j, by omega, e.symm⟩) hx
    · by_cases hj' : j = m
      · rw [hj', e2, e1 i hi'] at e
        exact absurd ((h.mem x).2 ⟨i, by omega, e⟩) hx
      · rw [e1 i hi', e1 j hj'] at e
        exact h.inj i j (by omega) (by omega) e
  · constructor
    · rintro (rfl | hv)
      · exact ⟨m, by omega, e2⟩
      · obtain ⟨i, hi, e⟩ := (h.mem v).1 hv
        exact ⟨i, by omega, by rw [e1 i (by omega)]; exact e⟩
    · rintro ⟨i, hi, e⟩
      by_cases hi' : i = m
      · rw [hi', e2] at e; exact .inl e.symm
      · rw [e1 i hi'] at e; exact .inr ((h.mem v).2 ⟨i, by omega, e⟩)
  · rw [e1 j hne, e1 (parent j) (by have := pl j h0; omega)]
    exact ho j h0 (by omega)
  · have := pl j h0; omega
  · have := pl j h0; omega

theorem Rising.up {g : Nat → Nat} {m k : Nat} {S : Nat → Prop} (h : Rising g m k S) (hk : 0 < k) (hlt : g k < g (parent k)) : Rising (swp g k (parent k)) m (parent k) S := by
  have pl : ∀ j, 0 < j → parent j < j := fun j hj => by unfold parent; omega
  have hp := pl k hk
  have hkm := h.lt
  have e1 : swp g k (parent k) k = g (parent k) := by simp [swp]
  have e2 : swp g k (parent k) (parent k) = g k := by
    unfold swp
    rw [if_neg (by omega), if_pos rfl]
  have e3 : ∀ i, i ≠ k → i ≠ parent k → swp g k (parent k) i = g i := fun i h1 h2 => by simp [swp, h1, h2]
  refine ⟨h.holds.swp h.lt (by omega), by omega, fun j h0 hj hne => ?_, fun j h0 hj hpj => ?_, fun j h0 hj hpj hp0 => ?_⟩
  · have := pl j h0
    by_cases hjk : j = k
    · subst hjk
      rw [e1, e2]; omega
    · rw [e3 j hjk hne]
      by_cases h1 : parent j = k
      · rw [h1, e1]; exact h.grand j h0 hj h1 hk
      · by_cases h2 : parent j = parent k
        · rw [h2, e2]
          have := h.ord j h0 hj hjk
          rw [h2] at this
          omega
        · rw [e3 (parent j) h1 h2]; exact h.ord j h0 hj hjk
  · rw [e2]
    by_cases hjk : j = k
    · subst hjk; rw [e1]; omega
    · rw [e3 j hjk (by have := pl j h0; omega)]
      have := h.ord j h0 hj hjk
      rw [hpj] at this
      omega
  · have hpp := pl (parent k) hp0
    rw [e3 (parent (parent k)) (by omega) (by omega)]
    have ho := h.ord (parent k) hp0 (by omega) (by omega)
    by_cases hjk : j = k
    · subst hjk; rw [e1]; exact ho
    · rw [e3 j hjk (by have := pl j h0; omega)]
      have := h.ord j h0 hj hjk
      rw [hpj] at this
      omega

theorem Rising.rest {g : Nat → Nat} {m k : Nat} {S : Nat → Prop} (h : Rising g m k S) (hk : k = 0 ∨ g (parent k) ≤ g k) : Ordered g m := by
  intro j h0 hj
  by_cases hjk : j = k
  · subst hjk
    rcases hk with hk | hk
    · omega
    · exact hk
  · exact h.ord j h0 hj hjk

theorem ordered_least {f : Nat → Nat} {m : Nat} (h : Ordered f m) : ∀ i, i < m → f 0 ≤ f i := by
  intro i
  induction i using Nat.strongRecOn with
  | _ i ih =>
    intro hi
    by_cases h0 : i = 0
    · subst h0; exact Nat.le_refl _
    · have hp : parent i < i := by unfold parent; omega
      exact Nat.le_trans (ih _ hp (by omega)) (h i (by omega) hi)

/-- behind take's first step: the last one stands at the top, and may have to sink -/
structure Sinking (g : Nat → Nat) (m k : Nat) (S : Nat → Prop) : Prop where
  holds : Holds g m S
  ord : ∀ j, 0 < j → j < m → parent j ≠ k → g (parent j) ≤ g j
  grand : ∀ j, 0 < j → j < m → parent j = k → 0 < k → g (parent k) ≤ g j

theorem sinking_start {f : Nat → Nat} {m : Nat} {S : Nat → Prop} (h : Holds f (m + 1) S) (ho : Ordered f (m + 1)) : Sinking (upd f 0 (f m)) m 0 (fun v => S v ∧ v ≠ f 0) := by
  have e1 : ∀ i, i ≠ 0 → upd f 0 (f m) i = f i := fun i hi => upd_far _ _ hi
  have e2 : upd f 0 (f m) 0 = f m := upd_same _ _ _
  refine ⟨⟨fun i j hi hj e => ?_, fun v => ?_⟩, fun j h0 hj hp => ?_, fun j h0 hj hp h => by omega⟩
  · by_cases hi0 : i = 0
    · by_cases hj0 : j = 0
      · omega
      · rw [hi0, e2, e1 j hj0] at e
        have := h.inj m j (by omega) (by omega) e
        omega
    · by_cases hj0 : j = 0
      · rw [hj0, e2, e1 i hi0] at e
        have := h.inj i m (by omega) (by omega) e
        omega
      · rw [e1 i hi0, e1 j hj0] at e
        exact h.inj i j (by omega) (by omega) e
  · constructor
    · rintro ⟨hv, hne⟩
      obtain ⟨i, hi, e⟩ := (h.mem v).1 hv
      have hi0 : i ≠ 0 := fun h0 => hne (by rw [← e, h0])
      by_cases him : i = m
      · exact ⟨0, by omega, by rw [e2, ← him]; exact e⟩
      · exact ⟨i, by omega, by rw [e1 i hi0]; exact e⟩
    · rintro ⟨i, hi, e⟩
      by_cases hi0 : i = 0
      · rw [hi0, e2] at e
        exact ⟨(h.mem v).2 ⟨m, by omega, e⟩, fun h0 => by
          have := h.inj m 0 (by omega) (by omega) (e.trans h0)
          omega⟩
      · rw [e1 i hi0] at e
        exact ⟨(h.mem v).2 ⟨i, by omega, e⟩, fun h0 => by
          have := h.inj i 0 (by omega) (by omega) (e.trans h0)
          omega⟩
  · rw [e1 j (by omega), e1 (parent j) hp]
    exact ho j h0 (by omega)

theorem Sinking.down {g : Nat → Nat} {m k c : Nat} {S : Nat → Prop} (h : Sinking g m k S) (hc : c < m) (hp : parent c = k) (h0 : 0 < c) (hlt : g c < g k) (hleast : ∀ j, 0 < j → j < m → parent j = k → g c ≤ g j) : Sinking (swp g k c) m c S := by
  have pl : ∀ j, 0 < j → parent j < j := fun j hj => by unfold parent; omega
  have hkc : k < c := hp ▸ pl c h0
  have e1 : swp g k c k = g c := by simp [swp]
  have e2 : swp g k c c = g k := by unfold swp; rw [if_neg (by omega), if_pos rfl]
  have e3 : ∀ i, i ≠ k → i ≠ c → swp g k c i = g i := fun i h1 h2 => by simp [swp, h1, h2]
  refine ⟨h.holds.swp (by omega) hc, fun j hj0 hj hpj => ?_, fun j hj0 hj hpj _ => ?_⟩
  · have := pl j hj0
    by_cases hjc : j = c
    · subst hjc
      rw [hp, e1, e2]; omega
    · by_cases h1 : parent j = k
      · rw [h1, e1, e3 j (by omega) hjc]; exact hleast j hj0 hj h1
      · by_cases hjk : j = k
        · subst hjk
          rw [e1, e3 (parent j) (by omega) (by omega)]
          exact h.grand c h0 hc hp hj0
        · rw [e3 j hjk hjc, e3 (parent j) h1 hpj]; exact h.ord j hj0 hj h1
  · rw [hp, e1, e3 j (by have := pl j hj0; omega) (by have := pl j hj0; omega)]
    have := h.ord j hj0 hj (by omega)
    rw [hpj] at this
    exact this

theorem Sinking.rest {g : Nat → Nat} {m k : Nat} {S : Nat → Prop} (h : Sinking g m k S) (hk : ∀ j, 0 < j → j < m → parent j = k → g k ≤ g j) : Ordered g m := by
  intro j h0 hj
  by_cases hp : parent j = k
  · rw [hp]; exact hk j h0 hj hp
  · exact h.ord j h0 hj hp

end Go.Proofs.YtpcjfgihglfdgaaGreatDoor.Isl

namespace Go.Proofs.YtpcjfgihglfdgaaGreatDoor.Isl
open Go.RowKit Go.Lib

/-- an array of N numbers and a number behind it -/
def HRowN (N : Nat) (w : World) (hb : Nat) (f : Nat → Nat) (m : Nat) : Prop := w.heap[hb]? = some (.cells (((List.range N).map fun i => Value.int .i64 (f i : Int)) ++ [Value.int .i64 (m : Int)]).toArray 91 (0, 0))
section
variable {N : Nat} {w : World} {hb m i : Nat} {f : Nat → Nat}
theorem HRowN.get (h : HRowN N w hb f m) (hi : i < N) : w.cell? ⟨hb, i, none⟩ = some (.int .i64 (f i : Int)) := by
  refine cell_of h ?_
  rw [List.getElem?_toArray, List.getElem?_append_left (by simp; omega)]
  simp [hi]
theorem HRowN.num (h : HRowN N w hb f m) : w.cell? ⟨hb, N, none⟩ = some (.int .i64 (m : Int)) := by
  refine cell_of h ?_
  rw [List.getElem?_toArray, List.getElem?_append_right (by simp)]
  simp
theorem HRowN.free (h : HRowN N w hb f m) : w.frozen? ⟨hb, i, none⟩ = false := free_of h
theorem HRowN.set (h : HRowN N w hb f m) (hi : i < N) (v : Nat) : HRowN N (w.setCell ⟨hb, i, none⟩ (.int .i64 (v : Int))) hb (upd f i v) m := by
  have := heap_setCell_at (i := i) h (.int .i64 (v : Int))
  unfold HRowN
  rw [this]
  congr 2
  apply Array.ext'
  rw [Array.toList_setIfInBounds]
  show (_ ++ _ : List Value).set i _ = _ ++ _
  rw [List.set_append_left _ _ (by simp; omega)]
  congr 1
  apply List.ext_getElem?
  intro j
  simp only [List.getElem?_set, List.getElem?_map, List.length_map, List.length_range]
  by_cases e : i = j
  · subst e; simp [hi, upd]
  · simp only [if_neg e]
    by_cases hj : j < N
    · simp [hj, upd, Ne.symm e]
    · simp [hj]
theorem HRowN.setnum (h : HRowN N w hb f m) (v : Nat) : HRowN N (w.setCell ⟨hb, N, none⟩ (.int .i64 (v : Int))) hb f v := by
  have := heap_setCell_at (i := N) h (.int .i64 (v : Int))
  unfold HRowN
  rw [this]
  congr 2
  apply Array.ext'
  rw [Array.toList_setIfInBounds]
  show (_ ++ _ : List Value).set N _ = _ ++ _
  rw [List.set_append_right _ _ (by simp)]
  simp
end
abbrev HRow (w : World) (hb : Nat) (f : Nat → Nat) (m : Nat) : Prop := HRowN 2000 w hb f m

theorem swp_upd {f : Nat → Nat} {k p x : Nat} (h : p ≠ k) : upd (upd f k (f p)) p x = swp (upd f k x) k p := by
  funext i
  unfold upd swp
  by_cases h1 : i = p
  · subst h1; simp [h]
  · by_cases h2 : i = k
    · subst h2; simp [h1, h]
    · simp [h1, h2]

def HeapAt (w : World) (hb m : Nat) (S : Nat → Prop) : Prop := ∃ f, HRow w hb f m ∧ Holds f m S ∧ Ordered f m

def PutRel (w : World) (hb m x : Nat) (S : Nat → Prop) (kv : Value) (wr : World) : Prop :=
  ∃ (k : Nat) (f : Nat → Nat), kv = .int .i64 (k : Int) ∧ HRow wr hb f (m + 1) ∧ Rising (upd f k x) (m + 1) k (fun v => v = x ∨ S v) ∧ Chg [hb] w wr

set_option maxHeartbeats 1000000 in
theorem put_any {w : World} {hb m x : Nat} {S : Nat → Prop} (H : HeapAt w hb m S) (hx : ¬ S x) (hm : m < 2000) (_hx2 : x ≤ 1000000) (hS : ∀ v, S v → v ≤ 1000000) :
    Calls Tryz.prog 25 #[.pointer (some ⟨hb, 0, none⟩), .int .i64 (x : Int)] w fun e w' => e = .returned (.tuple #[]) ∧ HeapAt w' hb (m + 1) (fun v => v = x ∨ S v) ∧ Chg [hb] w w' := by
  obtain ⟨f, hf, hh, ho⟩ := H
  have c0 := hf.num
  have f0 := hf.free (i := 2000)
  have hf1 := hf.setnum (m + 1)
  have HF1 := hid hf1
  have HR := hid (rising_start hh ho hx)
  have HS := hid hS
  have hcast : ((m + 1 : Nat) : Int) = (m : Int) + 1 := by omega
  have HC := hid hcast
  rw [hcast] at HF1
  clear hf hh ho hf1 hS hcast
  go_enter Tryz.func25, Tryz.ntmps25
  go_wp2_with fail
  go_loopw [4] (fun kv wr => PutRel w hb m x S kv wr) (fun kv _ => (intOf kv).toNat)
  case atStart => exact ⟨m, f, rfl, HF1.out, HR.out, (Chg.refl _ w).setCell (by simp) _⟩
  case round =>
    obtain ⟨k, f, rfl, hf, hr, hch⟩ := hrel
    have hkm := hr.lt
    by_cases hk : 0 < k
    · obtain ⟨p, hp⟩ : ∃ p, p = parent k := ⟨_, rfl⟩
      have hpk : p < k := by rw [hp]; unfold parent; omega
      have hA : ((k : Int) - 1) / 2 = (p : Int) := by rw [hp]; unfold parent; omega
      have g1 := hf.get (i := p) (by omega)
      have g2 := hf.get (i := k) (by omega)
      have fk := hf.free (i := k)
      obtain ⟨y, hy⟩ : ∃ y, y = f p := ⟨_, rfl⟩
      rw [← hy] at g1
      have HP := hid hp
      have HY := hid hy
      have HF := hid hf
      have HRR := hid hr
      have HCH := hid hch
      clear hp hy hf hr hch
      have g3 := hid (HF.out.set (i := k) (by omega) y)
      by_cases hxy : x < y
      · have RR := hid (show PutRel w hb m x S (.int .i64 (p : Int)) (wr.setCell ⟨hb, k, none⟩ (.int .i64 (y : Int))).drew from by
          have h := HRR.out.up hk (by
            rw [← HP.out, upd_same, upd_far _ _ (by omega), ← HY.out]
            exact hxy)
          rw [← HP.out, ← swp_upd (by omega)] at h
          rw [← HY.out] at h
          exact ⟨p, _, rfl, (show HRow _ hb _ _ from ((Chg.refl [] _).drew).heap g3.out (by simp)), h, HCH.out.trans (((Chg.refl [hb] wr).setCell (by simp) _).drew) (by simp)⟩)
        go_wp2_with fail
        go_region
        go_wp2_with fail
        go_roundw
        case rel =>
          rw [hA]
          exact RR.out
        case measure => simp [intOf]; omega
      · have g4 := hid (HF.out.set (i := k) (by omega) x)
        have RR := hid (show HeapAt (wr.setCell ⟨hb, k, none⟩ (.int .i64 (x : Int))) hb (m + 1) (fun v => v = x ∨ S v) from
          ⟨_, g4.out, HRR.out.holds, HRR.out.rest (.inr (by
            rw [← HP.out, upd_same, upd_far _ _ (by omega), ← HY.out]
            omega))⟩)
        go_wp2_with fail
        go_end0
        exact ⟨rfl, RR.out, HCH.out.trans ((Chg.refl [hb] wr).setCell (by simp) _) (by simp)⟩
    · obtain rfl : k = 0 := by omega
      have g2 := hf.get (i := 0) (by omega)
      have fk := hf.free (i := 0)
      have g4 := hid (hf.set (i := 0) (by omega) x)
      have RR := hid (show HeapAt (wr.setCell ⟨hb, 0, none⟩ (.int .i64 (x : Int))) hb (m + 1) (fun v => v = x ∨ S v) from ⟨_, g4.out, hr.holds, hr.rest (.inl rfl)⟩)
      have HCH := hid hch
      clear hf hr hch
      go_wp2_with fail
      go_end0
      exact ⟨rfl, RR.out, HCH.out.trans ((Chg.refl [hb] wr).setCell (by simp) _) (by simp)⟩

end Go.Proofs.YtpcjfgihglfdgaaGreatDoor.Isl
