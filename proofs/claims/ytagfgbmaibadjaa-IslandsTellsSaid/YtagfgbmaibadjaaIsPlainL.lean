/- IslandsPlain answers true. -/
import Derived.Test.YtagfgbmaibadjaaIsTimes
import Derived.Outline
namespace Go.Proofs.Ytagfgbmaibadjaa
open Go.RowKit Go.Lib

/-- two families of rows in one -/
def two (n : Nat) (f g : Nat → List Nat) (p : Nat) : List Nat := if p < n then f p else g (p - n)
theorem two_fst {n i : Nat} {f g : Nat → List Nat} (h : i < n) : two n f g i = f i := by simp [two, h]
theorem two_snd {n i : Nat} {f g : Nat → List Nat} : two n f g (n + i) = g i := by
  unfold two
  rw [if_neg (by omega), Nat.add_sub_cancel_left]
theorem two_upd_fst {n i : Nat} {f g : Nat → List Nat} {x : List Nat} (h : i < n) : upd (two n f g) i x = two n (upd f i x) g := by
  funext p
  unfold upd two
  by_cases hp : p = i
  · subst hp; simp [h]
  · simp [hp]
theorem two_upd_snd {n i : Nat} {f g : Nat → List Nat} {x : List Nat} : upd (two n f g) (n + i) x = two n f (upd g i x) := by
  funext p
  unfold upd two
  by_cases hp : p = n + i
  · subst hp
    have h1 : ¬ n + i < n := by omega
    simp [h1]
  · rw [if_neg hp]
    by_cases h : p < n
    · simp [h]
    · have h2 : ¬ p - n = i := by omega
      simp [h, h2]
theorem upd_shift {n i : Nat} {vs : Nat → Value} {v : Value} : (fun q => upd vs (n + i) v (n + q)) = upd (fun q => vs (n + q)) i v := by
  funext q
  unfold upd
  by_cases h : q = i
  · subst h; simp
  · simp [h]
theorem upd_low {n i : Nat} {vs : Nat → Value} {v : Value} (h : i < n) : (fun q => upd vs i v (n + q)) = fun q => vs (n + q) := by
  funext q
  exact upd_far _ _ (by omega)

/-- a row of its own in another's place -/
theorem Rows3.put {w : World} {B N i : Nat} {vs : Nat → Value} {xs : Nat → List Nat} {u : Value} {l : List Nat} (R : Rows3 w B N vs xs []) (hu : w.ownsRow B 3 1 u l.length (natCells l)) (hf : ∀ b, u.ownBlock = some b → ∀ p, p < N → (vs p).ownBlock ≠ some b) : Rows3 w B N (upd vs i u) (upd xs i l) [] := by
  refine ⟨fun p hp => ?_, fun p hp b hb => by simp, fun p q hp hq hpq b hb hb' => ?_⟩
  · by_cases e : p = i
    · subst e
      rw [upd_same, upd_same]
      exact hu
    · rw [upd_far _ _ e, upd_far _ _ e]
      exact R.row p hp
  · by_cases e : p = i
    · subst e
      rw [upd_same] at hb
      rw [upd_far _ _ (Ne.symm hpq)] at hb'
      exact hf b hb q hq hb'
    · rw [upd_far _ _ e] at hb
      by_cases e2 : q = i
      · subst e2
        rw [upd_same] at hb'
        exact hf b hb' p hp hb
      · rw [upd_far _ _ e2] at hb'
        exact R.sep p q hp hq hpq b hb hb'

/-- one int more, out of a block that stands -/
theorem app_src {w : World} {B sb : Nat} {ov : Value} {m : Nat} {xs : List Value} (h : w.ownsRow B 3 1 ov m xs) (hB : B ≤ w.heap.size) (hm : m ≤ 1000000) (x : Int) (hx : w.cell? ⟨sb, 0, none⟩ = some (.int .i64 x)) :
    ∃ a c w2, (Builtin.append_ #[24, 24] 24 #[ov, .slice (some ⟨sb, 0, none⟩) 1 1]).run Try.prog w = .ok (.slice a (m + 1) c) w2 ∧
      w2.ownsRow B 3 1 (.slice a (m + 1) c) (m + 1) (xs ++ [.int .i64 x]) ∧ Chg (own ov) w w2 := by
  obtain ⟨i0, hi, hz0, hz1, hz2⟩ := info_parts Try.info3
  obtain ⟨v', w2, h1, h2, h3, _, _⟩ := run_append_own_at (P := Try.prog) w B 24 24 3 i0 (.int .i64 0) 1 8 Try.underlying24 hi hz0 hz1 hz2 rfl (by decide) ov m xs h
    ⟨sb, 0, none⟩ 1 1 [.int .i64 x] rfl (fun j u hu => by
      rcases j with _ | j
      · simp at hu; subst hu; exact hx
      · simp at hu) (by intro u hu; simp at hu; subst hu; rfl) (by unfold maxLen; omega) (by omega) hB
  obtain ⟨a, c, rfl, _⟩ := ownsRow_view h2
  exact ⟨a, c, w2, h1, h2, (Chg.refl _ w).grown h3 (fun k hk => .inl (by simp [own, hk]))⟩

theorem rowsT_cell {w : World} {ao : Option Addr} {c n : Nat} {G : List (List Int)} (h : RowsT w (.slice ao n c) G) {i : Nat} {l : List Int} (hl : G[i]? = some l) :
    ∃ b off lo lc, ao = some ⟨b, off, none⟩ ∧ w.cell? ⟨b, off + i, none⟩ = some (.slice lo l.length lc) ∧ IntsT w (.slice lo l.length lc) l := by
  obtain ⟨ao', c', b, off, h1, _, h3⟩ := h
  injection h1 with h1 _ _
  subst h1
  obtain ⟨rfl, lv, h4, h5⟩ := h3 i l hl
  obtain ⟨lo, lc, rfl⟩ := h5.view
  exact ⟨b, off, lo, lc, rfl, h4, h5⟩

/-- a copy of ints and one more, in either order of the one's laying: what is left of memory -/
theorem copy_push {w : World} {v : Value} {l : List Nat} (h : IntsT w v (l.map fun (x : Nat) => (x : Int))) (hs : l.length ≤ 100000) (m : Nat) :
    (∃ v5 w5 a c w6, (Builtin.append_ #[24, 24] 24 #[.slice none 0 0, v]).run Try.prog w = .ok v5 w5 ∧ (Builtin.append_ #[24, 24] 24 #[v5, .slice (some ⟨w5.heap.size, 0, none⟩) 1 1]).run Try.prog (w5.alloc (.cells #[.int .i64 (m : Int)] 3)) = .ok (.slice a (l.length + 1) c) w6 ∧
      w6.ownsRow w.heap.size 3 1 (.slice a (l.length + 1) c) (l ++ [m]).length (natCells (l ++ [m])) ∧ Below w.heap.size w w5 ∧ Below w.heap.size w w6) ∧
    (∃ v5 w5 a c w6, (Builtin.append_ #[24, 24] 24 #[.slice none 0 0, v]).run Try.prog (w.alloc (.cells #[.int .i64 (m : Int)] 3)) = .ok v5 w5 ∧ (Builtin.append_ #[24, 24] 24 #[v5, .slice (some ⟨w.heap.size, 0, none⟩) 1 1]).run Try.prog w5 = .ok (.slice a (l.length + 1) c) w6 ∧
      w6.ownsRow w.heap.size 3 1 (.slice a (l.length + 1) c) (l ++ [m]).length (natCells (l ++ [m])) ∧ Below w.heap.size w w5 ∧ Below w.heap.size w w6) := by
  have hcells : natCells (l ++ [m]) = ((l.map fun (x : Nat) => (x : Int)).map fun x => Value.int .i64 x) ++ [.int .i64 (m : Int)] := by
    simp [natCells]
  have hl1 : (l ++ [m]).length = (l.map fun (x : Nat) => (x : Int)).length + 1 := by simp
  have hl2 : (l.map fun (x : Nat) => (x : Int)).length = l.length := by simp
  constructor
  · obtain ⟨v5, w5, h1, O5, hb5⟩ := copy_ints h (by rw [hl2]; exact hs)
    obtain ⟨a, c, w6, h2, O6, ch6, _⟩ := app_int O5 hb5.size (by omega) (m : Int)
    refine ⟨v5, w5, a, c, w6, h1, by rw [hl2] at h2; exact h2, by rw [hcells, hl1]; rw [hl2] at O6 ⊢; exact O6, hb5, hb5.trans (ch6.below (fun y hy => ?_) hb5.size)⟩
    simp only [own, Option.mem_toList] at hy
    exact (O5.lt y hy).1
  · have ca : Below w.heap.size w (w.alloc (.cells #[.int .i64 (m : Int)] 3)) := (Below.refl _ w).alloc (Nat.le_refl _) _
    obtain ⟨v5, w5, h1, O5, hb5⟩ := copy_ints (h.below ca) (by rw [hl2]; exact hs)
    have hx : w5.cell? ⟨w.heap.size, 0, none⟩ = some (.int .i64 (m : Int)) := by
      have k : (w.alloc (.cells #[.int .i64 (m : Int)] 3)).cell? ⟨w.heap.size, 0, none⟩ = some (.int .i64 (m : Int)) := cell_of (heap_alloc_new w _) rfl
      exact (hb5.cell (World.block_lt_of_cell? _ _ k)).trans k
    have hs5 := hb5.size
    obtain ⟨a, c, w6, h2, O6, ch6⟩ := app_src O5 hs5 (by omega) (m : Int) hx
    have hb5' : Below w.heap.size w w5 := ca.trans (below_low0 hb5 (by simp))
    refine ⟨v5, w5, a, c, w6, h1, by rw [hl2] at h2; exact h2, ownsRow_lower (by rw [hcells, hl1]; rw [hl2] at O6 ⊢; exact O6) (by simp), hb5', hb5'.trans (ch6.below (fun y hy => ?_) hb5'.size)⟩
    simp only [own, Option.mem_toList] at hy
    have := (O5.lt y hy).1
    simp at this
    omega

def lowOf (L : List (List Nat)) (i : Nat) : List Nat := (rowOf L i).filter fun x => decide (x < i)
def ringOf (L : List (List Nat)) (n i : Nat) : List Nat := rowOf L i ++ [(i + 1) % n]

def PlainRel (w : World) (L : List (List Nat)) (n : Nat) (iv : Value) (wr : World) : Prop :=
  ∃ (i : Nat) (vs : Nat → Value), iv = .int .i64 (i : Int) ∧ i ≤ n ∧ RowV wr w.heap.size n vs ∧ RowV wr (w.heap.size + 1) n (fun q => vs (n + q)) ∧ Rows3 wr w.heap.size (2 * n) vs (two n (bld (lowOf L) i []) (bld (ringOf L n) i [])) [] ∧ Below w.heap.size w wr
def PlainIn (w : World) (L : List (List Nat)) (n i : Nat) (kv : Value) (wr : World) : Prop :=
  ∃ (k : Nat) (vs : Nat → Value), kv = .int .i64 (k : Int) ∧ k ≤ (rowOf L i).length ∧ RowV wr w.heap.size n vs ∧ RowV wr (w.heap.size + 1) n (fun q => vs (n + q)) ∧ Rows3 wr w.heap.size (2 * n) vs (two n (bld (lowOf L) i (((rowOf L i).take k).filter fun x => decide (x < i))) (bld (ringOf L n) i [])) [] ∧ Below w.heap.size w wr

theorem low_right {L : List (List Nat)} {n : Nat} : RightG (grOf n (lowOf L)) ∧ ∀ i j, edge (grOf n (lowOf L)) i j → j < i := by
  have h : ∀ i j, edge (grOf n (lowOf L)) i j → i < n ∧ j < i := fun i j h => by
    rw [grOf_edge] at h
    have := (List.mem_filter.1 h.2).2
    exact ⟨h.1, by simpa using this⟩
  exact ⟨fun i j he => by have := h i j he; rw [grOf_length]; omega, fun i j he => (h i j he).2⟩
theorem low_few {L : List (List Nat)} {n : Nat} (hn : n ≤ 60) : Few (castG (grOf n (lowOf L))) := few_cast (M := 8) (fun l hl => by
  unfold grOf at hl
  obtain ⟨i, _, rfl⟩ := List.mem_map.1 hl
  exact Nat.le_trans (List.length_filter_le _ _) (rowOf_length L i)) (by rw [grOf_length]; omega)
theorem ring_right {L : List (List Nat)} {n : Nat} (hn : n = nodesOf L) : RightG (grOf n (ringOf L n)) := fun i j h => by
  rw [grOf_edge] at h
  rw [grOf_length]
  obtain ⟨h1, h2⟩ := h
  unfold ringOf at h2
  rw [List.mem_append, List.mem_singleton] at h2
  rcases h2 with h2 | rfl
  · have := rowOf_lt h2 (by omega)
    omega
  · exact Nat.mod_lt _ (by omega)
theorem ring_few {L : List (List Nat)} {n : Nat} (hn : n ≤ 60) : Few (castG (grOf n (ringOf L n))) := few_cast (M := 9) (fun l hl => by
  unfold grOf at hl
  obtain ⟨i, _, rfl⟩ := List.mem_map.1 hl
  unfold ringOf
  rw [List.length_append]
  have := rowOf_length L i
  simp
  omega) (by rw [grOf_length]; omega)
theorem ring_leads {g : Gr} {n : Nat} (h : ∀ i, i < n → edge g i ((i + 1) % n)) {i j : Nat} (hi : i < n) (hj : j < n) : Leads g i j := by
  have key : ∀ d, Leads g i ((i + d) % n) := by
    intro d
    induction d with
    | zero => rw [Nat.add_zero, Nat.mod_eq_of_lt hi]; exact .refl _
    | succ d ih =>
      have h1 := h ((i + d) % n) (Nat.mod_lt _ (by omega))
      rw [Nat.mod_add_mod] at h1
      exact ih.trans (.one h1)
  have := key (j + (n - i))
  have e : (i + (j + (n - i))) % n = j := by
    have : i + (j + (n - i)) = j + n := by omega
    rw [this, Nat.add_mod_right, Nat.mod_eq_of_lt hj]
  rw [e] at this
  exact this
theorem ring_parts {L : List (List Nat)} {n : Nat} (hn : n = nodesOf L) (h0 : 0 < n) : IsParts (grOf n (ringOf L n)) [List.range n] := by
  have hp := parts_one (g := grOf n (ringOf L n)) (ring_right hn) (by rw [grOf_length]; exact h0) (fun i j hi hj => by
    rw [grOf_length] at hi hj
    exact ring_leads (fun k hk => grOf_edge.2 ⟨hk, by simp [ringOf]⟩) hi hj)
  rw [grOf_length] at hp
  exact hp
theorem low_parts {L : List (List Nat)} {n : Nat} : IsParts (grOf n (lowOf L)) ((List.range n).map fun i => [i]) := by
  have hp := parts_low (g := grOf n (lowOf L)) low_right.2
  rw [grOf_length] at hp
  exact hp

theorem filter_step {r : List Nat} {k x i : Nat} (h : r[k]? = some x) : (r.take (k + 1)).filter (fun y => decide (y < i)) = (r.take k).filter (fun y => decide (y < i)) ++ if x < i then [x] else [] := by
  rw [List.take_add_one, h, List.filter_append]
  congr 1
  by_cases hx : x < i <;> simp [hx]

/-- the ring's row laid -/
theorem ring_put {w wr w6 : World} {L : List (List Nat)} {n i : Nat} {vs : Nat → Value} {a : Option Addr} {c ln : Nat} (hi : i < n) (hr : RowV wr w.heap.size n vs) (hr2 : RowV wr (w.heap.size + 1) n (fun q => vs (n + q)))
    (hv : Rows3 wr w.heap.size (2 * n) vs (two n (bld (lowOf L) (i + 1) []) (bld (ringOf L n) i [])) []) (hb : Below w.heap.size w wr) (ho : w6.ownsRow wr.heap.size 3 1 (.slice a ln c) (ringOf L n i).length (natCells (ringOf L n i))) (hb6 : Below wr.heap.size wr w6) :
    w6.cell? ⟨w.heap.size + 1, i, none⟩ = some (vs (n + i)) ∧ w6.frozen? ⟨w.heap.size + 1, i, none⟩ = false ∧ PlainRel w L n (.int .i64 ((i : Int) + 1)) (w6.setCell ⟨w.heap.size + 1, i, none⟩ (.slice a ln c)) ∧ Below w.heap.size wr (w6.setCell ⟨w.heap.size + 1, i, none⟩ (.slice a ln c)) := by
  have c6 : Chg [] wr w6 := Chg.of_below hb6
  have q1 := hr.chg c6 (by simp)
  have q2 := hr2.chg c6 (by simp)
  have q3 := hv.chg c6 (by simp)
  have hs := hb.size
  have ho' := ownsRow_lower ho hs
  have q4 := q3.put (i := n + i) ho' (fun b hb' p hp e => by
    have h1 := (ho.lt b hb').1
    have h2 := ((hv.row p hp).lt b e).2
    omega)
  have q5 := q4.stores q2 (k := i) (.slice a ln c)
  have q6 := q2.set (k := i) (.slice a ln c)
  have q7 : RowV (w6.setCell ⟨w.heap.size + 1, i, none⟩ (.slice a ln c)) w.heap.size n (upd vs (n + i) (.slice a ln c)) := by
    have h1 := q1.chg ((Chg.refl [w.heap.size + 1] w6).setCell (p := ⟨w.heap.size + 1, i, none⟩) (by simp) (.slice a ln c)) (by simp)
    unfold RowV at h1 ⊢
    rw [h1]
    congr 3
    refine List.map_congr_left (fun p hp => ?_)
    simp only [List.mem_range] at hp
    exact (upd_far _ _ (by omega)).symm
  have hb7 : Below w.heap.size wr (w6.setCell ⟨w.heap.size + 1, i, none⟩ (.slice a ln c)) := (below_low0 hb6 hs).setCell (by show w.heap.size ≤ w.heap.size + 1; omega) _
  refine ⟨q2.get hi, q2.free, ⟨i + 1, _, by simp, by omega, q7, by rw [upd_shift]; exact q6, ?_, hb.trans hb7⟩, hb7⟩
  rw [two_upd_snd, bld_upd, bld_done] at q5
  exact q5

theorem Rows3.sub {w : World} {B N n : Nat} {vs : Nat → Value} {xs : Nat → List Nat} {F : List Nat} (R : Rows3 w B N vs xs F) (h : n ≤ N) : Rows3 w B n vs xs F :=
  ⟨fun p hp => R.row p (by omega), fun p hp => R.far p (by omega), fun p q hp hq => R.sep p q (by omega) (by omega)⟩
theorem Rows3.shift {w : World} {B N n : Nat} {vs : Nat → Value} {xs : Nat → List Nat} {F : List Nat} (R : Rows3 w B N vs xs F) (h : n + n ≤ N) : Rows3 w B n (fun q => vs (n + q)) (fun q => xs (n + q)) F :=
  ⟨fun p hp => R.row (n + p) (by omega), fun p hp => R.far (n + p) (by omega), fun p q hp hq hpq => R.sep (n + p) (n + q) (by omega) (by omega) (by omega)⟩
theorem singles_row {n j : Nat} (h : j < n) : (castG ((List.range n).map fun i => [i]))[j]? = some [(j : Int)] := by
  unfold castG
  simp [h]
theorem singles_len (n : Nat) : (castG ((List.range n).map fun i => [i])).length = n := by rw [castG_length, List.length_map, List.length_range]

def SinglesRel (w : World) (n : Nat) (iv : Value) (wr : World) : Prop := ∃ i : Nat, iv = .int .i64 (i : Int) ∧ i ≤ n ∧ wr = w

set_option maxRecDepth 20000 in
set_option maxHeartbeats 4000000 in
theorem plain_any (w : World) (v0 : Value) (L : List (List Nat)) (h : RawIn w v0 L) : Calls Try.prog 8 #[v0] w (HeadEnd w) := by
  have H := hid h
  clear h
  go_enter Try.func8, Try.ntmps8
  go_wp2_with fail
  refine (examples_any w).mono ?_
  rintro e w1 ⟨rfl, hb1⟩
  go_wp2_with fail
  refine (of_any w1 v0 L (H.out.below hb1)).mono ?_
  rintro e w2 ⟨gb, n, hn, rfl, r2, hb2⟩
  have hn60 : n ≤ 60 := by rw [hn]; unfold nodesOf; omega
  have hmk := make_rows n (by omega)
  have HB12 := hid (hb1.trans (below_low0 hb2 hb1.size))
  have HN := hid hn
  have HR2 := hid r2
  have r0 : RowV ((w2.alloc (.cells (List.replicate n (Value.slice none 0 0)).toArray 24)).alloc (.cells (List.replicate n (Value.slice none 0 0)).toArray 24)) w2.heap.size n (fun _ => .slice none 0 0) := by
    have e := heap_alloc_keep (heap_alloc_new w2 (.cells (List.replicate n (Value.slice none 0 0)).toArray 24)) (.cells (List.replicate n (Value.slice none 0 0)).toArray 24)
    unfold RowV
    rw [e, List.map_const']; simp
  have r1 : RowV ((w2.alloc (.cells (List.replicate n (Value.slice none 0 0)).toArray 24)).alloc (.cells (List.replicate n (Value.slice none 0 0)).toArray 24)) (w2.heap.size + 1) n (fun _ => .slice none 0 0) := by
    have e := heap_alloc_new (w2.alloc (.cells (List.replicate n (Value.slice none 0 0)).toArray 24)) (.cells (List.replicate n (Value.slice none 0 0)).toArray 24)
    rw [World.size_alloc] at e
    unfold RowV
    rw [e, List.map_const']; simp
  have R0 := hid (show PlainRel w2 L n (.int .i64 0) ((w2.alloc (.cells (List.replicate n (Value.slice none 0 0)).toArray 24)).alloc (.cells (List.replicate n (Value.slice none 0 0)).toArray 24)) from
    ⟨0, fun _ => .slice none 0 0, rfl, by omega, r0, r1, by
      have e : two n (bld (lowOf L) 0 []) (bld (ringOf L n) 0 []) = fun _ => [] := by
        rw [bld_none, bld_none]
        funext p
        unfold two
        split <;> rfl
      rw [e]
      exact ⟨fun p _ => by simpa [natCells] using World.ownsRow_nil _ _ _ _, fun p _ b hb => by simp [Value.ownBlock] at hb, fun p q _ _ _ b hb => by simp [Value.ownBlock] at hb⟩, ((Below.refl _ w2).alloc (Nat.le_refl _) _).alloc (by simp) _⟩)
  simp only [List.toArray_replicate] at R0
  clear r0 r1 hn hb1 hb2 r2
  go_wp2_with fail
  clear hmk
  go_loopw [7] (fun iv wr => PlainRel w2 L n iv wr) (fun iv _ => n - (intOf iv).toNat)
  case atStart => exact R0.out
  case round =>
    clear R0
    obtain ⟨i, vs, rfl, hi, hr, hr2, hv, hb⟩ := hrel
    by_cases hgo : i < n
    · obtain ⟨b1, o1, lo, lc, e1, hcl, hil⟩ := rowsT_cell HR2.out (ofG_row (L := L) (i := i) (HN.out ▸ hgo))
      injection e1 with e1
      injection e1 with e1 e1'
      subst e1 e1'
      rw [Nat.zero_add, List.length_map] at hcl
      rw [List.length_map] at hil
      obtain ⟨rn, hrn⟩ : ∃ rn, rn = (rowOf L i).length := ⟨_, rfl⟩
      rw [← hrn] at hcl hil
      have HRN := hid hrn
      have hrn8 : rn ≤ 8 := by rw [hrn]; exact rowOf_length L i
      have HIL := hid hil
      have HCL := hid hcl
      have RI := hid (show PlainIn w2 L n i (.int .i64 0) wr from ⟨0, vs, rfl, Nat.zero_le _, hr, hr2, by simpa using hv, hb⟩)
      clear hr hr2 hv hb hrn hil hcl
      go_wp2_with fail
      go_loopw [8] (fun kv y => PlainIn w2 L n i kv y) (fun kv _ => rn - (intOf kv).toNat)
      case atStart => exact RI.out
      case round =>
        clear RI
        obtain ⟨k, vs, rfl, hk, hr, hr2, hv, hb⟩ := hrel
        rw [← HRN.out] at hk
        have c1 := (hb.cell (World.block_lt_of_cell? _ _ HCL.out)).trans HCL.out
        by_cases hkn : k < rn
        · obtain ⟨x, hx⟩ : ∃ x, (rowOf L i)[k]? = some x := ⟨_, List.getElem?_eq_getElem (by have := HRN.out; omega)⟩
          obtain ⟨b2, o2, rfl, c2w, x1, x2⟩ := ints_cell HIL.out.ints (i := k) (x := (x : Int)) (by rw [List.getElem?_map, hx]; rfl)
          have c2 := (hb.cell (World.block_lt_of_cell? _ _ c2w)).trans c2w
          have hstep := filter_step (i := i) hx
          by_cases hxi : x < i
          · rw [if_pos hxi] at hstep
            obtain ⟨cur, hcur⟩ : ∃ cur, cur = ((rowOf L i).take k).filter fun y => decide (y < i) := ⟨_, rfl⟩
            rw [← hcur] at hv hstep
            have hcl8 : cur.length ≤ 8 := by
              have h1 := List.length_filter_le (fun y => decide (y < i)) ((rowOf L i).take k)
              have h2 := rowOf_length L i
              rw [List.length_take] at h1
              rw [hcur]
              omega
            have hself : two n (bld (lowOf L) i cur) (bld (ringOf L n) i []) i = cur := by rw [two_fst hgo, bld_self]
            have rp0 := hr.get hgo
            have rp1 := ((Chg.refl [] wr).alloc (.cells #[.int .i64 (x : Int)] 3)).cell rp0 (by simp)
            have hs := hb.size
            obtain ⟨a3, c3, w3, happ, hv3, ch3⟩ := (hv.chg ((Chg.refl [] wr).drewN 1) (by simp)).apps (i := i) (by omega) hs (by rw [hself]; omega) (by simp) [x] (by simp) (by simp)
            rw [hself] at happ hv3
            have hrow := (hv.chg ((Chg.refl [] wr).drewN 1) (by simp)).row i (by omega)
            have hr3 := rowv_keep (w := wr.drewN 1) (f := vs) hr hrow ch3
            have hr23 := rowv_keep (w := wr.drewN 1) (f := fun q => vs (n + q)) hr2 hrow ch3
            have hb3 : Below w2.heap.size (wr.drewN 1) w3 := ch3.below (fun y hy => by
              simp only [own, Option.mem_toList] at hy
              exact ((hv.row i (by omega)).lt y hy).1) hs
            have happ1 : (Builtin.append_ #[24, 24] 24 #[vs i, .slice (some ⟨wr.heap.size, 0, none⟩) 1 1]).run Try.prog (wr.alloc (.cells #[.int .i64 (x : Int)] 3)).drew = .ok (.slice a3 (cur.length + 1) c3) w3 := happ
            have kq := hr3.get hgo
            have fq := hr3.free (i := i)
            have hb4 := hb3.setCell (p := ⟨w2.heap.size, i, none⟩) (Nat.le_refl _) (.slice a3 (cur.length + 1) c3)
            have keep3 := And.intro ((hb3.cell (World.block_lt_of_cell? _ _ HCL.out)).trans c1) ((hb3.cell (World.block_lt_of_cell? _ _ c2w)).trans c2)
            have keep4 := And.intro ((hb4.cell (World.block_lt_of_cell? _ _ HCL.out)).trans c1) ((hb4.cell (World.block_lt_of_cell? _ _ c2w)).trans c2)
            have hv4 := hv3.stores hr3 (k := i) (.slice a3 (cur.length + 1) c3)
            have hr4 := hr3.set (k := i) (.slice a3 (cur.length + 1) c3)
            have hr24 : RowV (w3.setCell ⟨w2.heap.size, i, none⟩ (.slice a3 (cur.length + 1) c3)) (w2.heap.size + 1) n (fun q => upd vs i (.slice a3 (cur.length + 1) c3) (n + q)) := by
              rw [upd_low hgo]
              exact hr23.chg ((Chg.refl [w2.heap.size] w3).setCell (p := ⟨w2.heap.size, i, none⟩) (by simp) _) (by simp)
            rw [two_upd_fst hgo, bld_upd, ← hstep] at hv4
            have RR := hid (show PlainIn w2 L n i (.int .i64 ((k : Int) + 1)) (w3.setCell ⟨w2.heap.size, i, none⟩ (.slice a3 (cur.length + 1) c3)) from
              ⟨k + 1, _, by simp, by have := HRN.out; omega, hr4, hr24, hv4, (bdrew hb 1).trans hb4⟩)
            clear hr hr2 hv hb hx c2w hstep hself hs hr3 hr23 hb3 hr4 hr24 hv4 hb4 hv3 ch3 hcur hcl8 happ hrow
            go_wp2_with fail
            refine wp_region_held_drew (S := fun y => y.cell? ⟨gb, i, none⟩ = some (.slice (some ⟨b2, o2, none⟩) rn lc) ∧ y.cell? ⟨b2, o2 + k, none⟩ = some (.int .i64 (x : Int))) (by kernel_rfl) ⟨c1, c2⟩ (fun hS => ?_)
            refine wpAnyH_take (i := 0) (oi := { dst := some 49, op := Op.move (Operand.tmp 5), type := 22, pos := "keeps.go:174", after := #[], guard := none }) (v := ?_) rfl (by kernel_rfl) (by kernel_rfl) (by kernel_rfl) (fun _ _ _ h => h) (Or.inl ⟨by rfl, ?_⟩) hS ?_
            rotate_left 1
            · rintro wx ⟨s0, s1⟩
              (go_simp <;> (try with_reducible rfl))
            try simp only [Act.put, List.setIfInBounds_toArray, List.set_cons_zero, List.set_cons_succ]
            refine wpAnyH_take (i := 1) (oi := { dst := some 50, op := Op.move (Operand.tmp 7), type := 3, pos := "keeps.go:174", after := #[], guard := none }) (v := ?_) rfl (by kernel_rfl) (by kernel_rfl) (by kernel_rfl) (fun _ _ _ h => h) (Or.inl ⟨by rfl, ?_⟩) hS ?_
            rotate_left 1
            · rintro wx ⟨s0, s1⟩
              (go_simp <;> (try with_reducible rfl))
            try simp only [Act.put, List.setIfInBounds_toArray, List.set_cons_zero, List.set_cons_succ]
            refine wpAnyH_take (i := 2) (oi := { dst := some 51, op := Op.move (Operand.tmp 5), type := 22, pos := "keeps.go:174", after := #[], guard := none }) (v := ?_) rfl (by kernel_rfl) (by kernel_rfl) (by kernel_rfl) (fun _ _ _ h => h) (Or.inl ⟨by rfl, ?_⟩) hS ?_
            rotate_left 1
            · rintro wx ⟨s0, s1⟩
              (go_simp <;> (try with_reducible rfl))
            try simp only [Act.put, List.setIfInBounds_toArray, List.set_cons_zero, List.set_cons_succ]
            refine wpAnyH_take (i := 3) (oi := { dst := some 52, op := Op.move (Operand.tmp 7), type := 3, pos := "keeps.go:174", after := #[], guard := none }) (v := ?_) rfl (by kernel_rfl) (by kernel_rfl) (by kernel_rfl) (fun _ _ _ h => h) (Or.inl ⟨by rfl, ?_⟩) hS ?_
            rotate_left 1
            · rintro wx ⟨s0, s1⟩
              (go_simp <;> (try with_reducible rfl))
            try simp only [Act.put, List.setIfInBounds_toArray, List.set_cons_zero, List.set_cons_succ]
            refine wpAnyH_take (i := 4) (oi := { dst := some 53, op := Op.indexAddr 22 (Operand.tmp 51) (Operand.tmp 52), type := 0, pos := "keeps.go:174", after := #[{ on := 2, ground := Ground.data }, { on := 3, ground := Ground.data }], guard := none }) (v := ?_) rfl (by kernel_rfl) (by kernel_rfl) (by kernel_rfl) (fun _ _ _ h => h) (Or.inl ⟨by rfl, ?_⟩) hS ?_
            rotate_left 1
            · rintro wx ⟨s0, s1⟩
              (go_simp <;> (try with_reducible rfl))
            try simp only [Act.put, List.setIfInBounds_toArray, List.set_cons_zero, List.set_cons_succ]
            refine wpAnyH_take (i := 6) (oi := { dst := some 55, op := Op.move (Operand.tmp 4), type := 22, pos := "keeps.go:174", after := #[], guard := none }) (v := ?_) rfl (by kernel_rfl) (by kernel_rfl) (by kernel_rfl) (fun _ _ _ h => h) (Or.inl ⟨by rfl, ?_⟩) hS ?_
            rotate_left 1
            · rintro wx ⟨s0, s1⟩
              (go_simp <;> (try with_reducible rfl))
            try simp only [Act.put, List.setIfInBounds_toArray, List.set_cons_zero, List.set_cons_succ]
            refine wpAnyH_take (i := 7) (oi := { dst := some 56, op := Op.move (Operand.tmp 7), type := 3, pos := "keeps.go:174", after := #[], guard := none }) (v := ?_) rfl (by kernel_rfl) (by kernel_rfl) (by kernel_rfl) (fun _ _ _ h => h) (Or.inl ⟨by rfl, ?_⟩) hS ?_
            rotate_left 1
            · rintro wx ⟨s0, s1⟩
              (go_simp <;> (try with_reducible rfl))
            try simp only [Act.put, List.setIfInBounds_toArray, List.set_cons_zero, List.set_cons_succ]
            refine wpAnyH_take (i := 8) (oi := { dst := some 57, op := Op.indexAddr 22 (Operand.tmp 55) (Operand.tmp 56), type := 0, pos := "keeps.go:174", after := #[{ on := 6, ground := Ground.data }, { on := 7, ground := Ground.data }], guard := none }) (v := ?_) rfl (by kernel_rfl) (by kernel_rfl) (by kernel_rfl) (fun _ _ _ h => h) (Or.inl ⟨by rfl, ?_⟩) hS ?_
            rotate_left 1
            · rintro wx ⟨s0, s1⟩
              (go_simp <;> (try with_reducible rfl))
            try simp only [Act.put, List.setIfInBounds_toArray, List.set_cons_zero, List.set_cons_succ]
            refine wpAnyH_take (i := 9) (oi := { dst := some 58, op := Op.load 24 (Operand.tmp 57), type := 24, pos := "keeps.go:174", after := #[{ on := 8, ground := Ground.data }], guard := none }) (v := ?_) rfl (by kernel_rfl) (by kernel_rfl) (by kernel_rfl) (fun _ _ _ h => h) (Or.inl ⟨by rfl, ?_⟩) hS ?_
            rotate_left 1
            · rintro wx ⟨s0, s1⟩
              (go_simp <;> (try with_reducible rfl))
            try simp only [Act.put, List.setIfInBounds_toArray, List.set_cons_zero, List.set_cons_succ]
            refine wpAnyH_take (i := 10) (oi := { dst := some 59, op := Op.move (Operand.tmp 8), type := 3, pos := "keeps.go:174", after := #[], guard := none }) (v := ?_) rfl (by kernel_rfl) (by kernel_rfl) (by kernel_rfl) (fun _ _ _ h => h) (Or.inl ⟨by rfl, ?_⟩) hS ?_
            rotate_left 1
            · rintro wx ⟨s0, s1⟩
              (go_simp <;> (try with_reducible rfl))
            try simp only [Act.put, List.setIfInBounds_toArray, List.set_cons_zero, List.set_cons_succ]
            refine wpAnyH_take (i := 11) (oi := { dst := some 60, op := Op.indexAddr 24 (Operand.tmp 58) (Operand.tmp 59), type := 0, pos := "keeps.go:174", after := #[{ on := 9, ground := Ground.data }, { on := 10, ground := Ground.data }], guard := none }) (v := ?_) rfl (by kernel_rfl) (by kernel_rfl) (by kernel_rfl) (fun _ _ _ h => h) (Or.inl ⟨by rfl, ?_⟩) hS ?_
            rotate_left 1
            · rintro wx ⟨s0, s1⟩
              (go_simp <;> (try with_reducible rfl))
            try simp only [Act.put, List.setIfInBounds_toArray, List.set_cons_zero, List.set_cons_succ]
            refine wpAnyH_take (i := 12) (oi := { dst := some 61, op := Op.load 3 (Operand.tmp 60), type := 3, pos := "keeps.go:174", after := #[{ on := 11, ground := Ground.data }], guard := none }) (v := ?_) rfl (by kernel_rfl) (by kernel_rfl) (by kernel_rfl) (fun _ _ _ h => h) (Or.inl ⟨by rfl, ?_⟩) hS ?_
            rotate_left 1
            · rintro wx ⟨s0, s1⟩
              (go_simp <;> (try with_reducible rfl))
            try simp only [Act.put, List.setIfInBounds_toArray, List.set_cons_zero, List.set_cons_succ]
            refine wpAnyH_ready (rs := [5, 13]) (by kernel_rfl) (by simp) ?_
            refine AllReadyH.cons (o := { dst := some 54, op := Op.load 24 (Operand.tmp 53), type := 24, pos := "keeps.go:174", after := #[{ on := 4, ground := Ground.data }], guard := none }) rfl (fun K hK => ?_) (AllReadyH.cons (o := { dst := some 62, op := Op.buildSlice 24 1 #[(0, Operand.tmp 61)], type := 24, pos := "keeps.go:174", after := #[{ on := 12, ground := Ground.data }], guard := none }) rfl (fun K hK => ?_) AllReadyH.nil)
            · go_simp
              refine hK.out _ _ ⟨c1, c2⟩ (fun hS => ?_)
              clear hK K
              try simp only [Act.put, List.setIfInBounds_toArray, List.set_cons_zero, List.set_cons_succ]
              refine wpAnyH_ready (rs := [13]) (by kernel_rfl) (by simp) ?_
              refine AllReadyH.cons (o := { dst := some 62, op := Op.buildSlice 24 1 #[(0, Operand.tmp 61)], type := 24, pos := "keeps.go:174", after := #[{ on := 12, ground := Ground.data }], guard := none }) rfl (fun K hK => ?_) AllReadyH.nil
              go_simp
              refine hK.out _ _ ⟨((Chg.refl [] wr).alloc _).cell c1 (by simp), ((Chg.refl [] wr).alloc _).cell c2 (by simp)⟩ (fun hS => ?_)
              clear hK K
              try simp only [Act.put, List.setIfInBounds_toArray, List.set_cons_zero, List.set_cons_succ]
              refine wpAnyH_ready (rs := [14]) (by kernel_rfl) (by simp) ?_
              refine AllReadyH.cons (o := { dst := some 63, op := Op.call { callee := Callee.builtin Builtin.append, args := #[Operand.tmp 54, Operand.tmp 62], argTypes := #[24, 24] }, type := 24, pos := "keeps.go:174", after := #[{ on := 5, ground := Ground.data }, { on := 13, ground := Ground.data }], guard := none }) rfl (fun K hK => ?_) AllReadyH.nil
              refine step_append_run rfl (.tmp 54) (.tmp 62) 24 rfl _ _ (by simp [Act.eval]) (by simp [Act.eval]) happ1 ?_
              refine hK.out _ _ keep3 (fun hS => ?_)
              clear hK K
              try simp only [Act.put, List.setIfInBounds_toArray, List.set_cons_zero, List.set_cons_succ]
              refine wpAnyH_take (i := 15) (oi := { dst := some 64, op := Op.indexAddr 22 (Operand.tmp 49) (Operand.tmp 50), type := 0, pos := "keeps.go:174", after := #[{ on := 0, ground := Ground.data }, { on := 1, ground := Ground.data }, { on := 0, ground := Ground.phase }, { on := 1, ground := Ground.phase }, { on := 2, ground := Ground.phase }, { on := 3, ground := Ground.phase }, { on := 4, ground := Ground.phase }, { on := 5, ground := Ground.phase }, { on := 6, ground := Ground.phase }, { on := 7, ground := Ground.phase }, { on := 8, ground := Ground.phase }, { on := 9, ground := Ground.phase }, { on := 10, ground := Ground.phase }, { on := 11, ground := Ground.phase }, { on := 12, ground := Ground.phase }, { on := 13, ground := Ground.phase }, { on := 14, ground := Ground.phase }], guard := none }) (v := ?_) rfl (by kernel_rfl) (by kernel_rfl) (by kernel_rfl) (fun _ _ _ h => h) (Or.inl ⟨by rfl, ?_⟩) hS ?_
              rotate_left 1
              · rintro wx ⟨s0, s1⟩
                (go_simp <;> (try with_reducible rfl))
              try simp only [Act.put, List.setIfInBounds_toArray, List.set_cons_zero, List.set_cons_succ]
              refine wpAnyH_ready (rs := [16]) (by kernel_rfl) (by simp) ?_
              refine AllReadyH.cons (o := { dst := none, op := Op.store 24 (Operand.tmp 64) (Operand.tmp 63), type := 0, pos := "keeps.go:174", after := #[{ on := 15, ground := Ground.data }, { on := 14, ground := Ground.data }, { on := 14, ground := Ground.chain }, { on := 0, ground := Ground.phase }, { on := 1, ground := Ground.phase }, { on := 2, ground := Ground.phase }, { on := 3, ground := Ground.phase }, { on := 4, ground := Ground.phase }, { on := 5, ground := Ground.phase }, { on := 6, ground := Ground.phase }, { on := 7, ground := Ground.phase }, { on := 8, ground := Ground.phase }, { on := 9, ground := Ground.phase }, { on := 10, ground := Ground.phase }, { on := 11, ground := Ground.phase }, { on := 12, ground := Ground.phase }, { on := 13, ground := Ground.phase }, { on := 14, ground := Ground.phase }], guard := none }) rfl (fun K hK => ?_) AllReadyH.nil
              go_simp
              refine hK.out _ _ keep4 (fun hS => ?_)
              clear hK K
              try simp only [Act.put, List.setIfInBounds_toArray, List.set_cons_zero, List.set_cons_succ]
              refine wpAnyH_done (by kernel_rfl) ?_ _
              go_wp2_with fail
              go_roundw
              case rel => exact RR.out
              case measure => simp [intOf]; omega
            · go_simp
              refine hK.out _ _ ⟨((Chg.refl [] wr).alloc _).cell c1 (by simp), ((Chg.refl [] wr).alloc _).cell c2 (by simp)⟩ (fun hS => ?_)
              clear hK K
              try simp only [Act.put, List.setIfInBounds_toArray, List.set_cons_zero, List.set_cons_succ]
              refine wpAnyH_ready (rs := [5]) (by kernel_rfl) (by simp) ?_
              refine AllReadyH.cons (o := { dst := some 54, op := Op.load 24 (Operand.tmp 53), type := 24, pos := "keeps.go:174", after := #[{ on := 4, ground := Ground.data }], guard := none }) rfl (fun K hK => ?_) AllReadyH.nil
              go_simp
              refine hK.out _ _ ⟨((Chg.refl [] wr).alloc _).cell c1 (by simp), ((Chg.refl [] wr).alloc _).cell c2 (by simp)⟩ (fun hS => ?_)
              clear hK K
              try simp only [Act.put, List.setIfInBounds_toArray, List.set_cons_zero, List.set_cons_succ]
              refine wpAnyH_ready (rs := [14]) (by kernel_rfl) (by simp) ?_
              refine AllReadyH.cons (o := { dst := some 63, op := Op.call { callee := Callee.builtin Builtin.append, args := #[Operand.tmp 54, Operand.tmp 62], argTypes := #[24, 24] }, type := 24, pos := "keeps.go:174", after := #[{ on := 5, ground := Ground.data }, { on := 13, ground := Ground.data }], guard := none }) rfl (fun K hK => ?_) AllReadyH.nil
              refine step_append_run rfl (.tmp 54) (.tmp 62) 24 rfl _ _ (by simp [Act.eval]) (by simp [Act.eval]) happ1 ?_
              refine hK.out _ _ keep3 (fun hS => ?_)
              clear hK K
              try simp only [Act.put, List.setIfInBounds_toArray, List.set_cons_zero, List.set_cons_succ]
              refine wpAnyH_take (i := 15) (oi := { dst := some 64, op := Op.indexAddr 22 (Operand.tmp 49) (Operand.tmp 50), type := 0, pos := "keeps.go:174", after := #[{ on := 0, ground := Ground.data }, { on := 1, ground := Ground.data }, { on := 0, ground := Ground.phase }, { on := 1, ground := Ground.phase }, { on := 2, ground := Ground.phase }, { on := 3, ground := Ground.phase }, { on := 4, ground := Ground.phase }, { on := 5, ground := Ground.phase }, { on := 6, ground := Ground.phase }, { on := 7, ground := Ground.phase }, { on := 8, ground := Ground.phase }, { on := 9, ground := Ground.phase }, { on := 10, ground := Ground.phase }, { on := 11, ground := Ground.phase }, { on := 12, ground := Ground.phase }, { on := 13, ground := Ground.phase }, { on := 14, ground := Ground.phase }], guard := none }) (v := ?_) rfl (by kernel_rfl) (by kernel_rfl) (by kernel_rfl) (fun _ _ _ h => h) (Or.inl ⟨by rfl, ?_⟩) hS ?_
              rotate_left 1
              · rintro wx ⟨s0, s1⟩
                (go_simp <;> (try with_reducible rfl))
              try simp only [Act.put, List.setIfInBounds_toArray, List.set_cons_zero, List.set_cons_succ]
              refine wpAnyH_ready (rs := [16]) (by kernel_rfl) (by simp) ?_
              refine AllReadyH.cons (o := { dst := none, op := Op.store 24 (Operand.tmp 64) (Operand.tmp 63), type := 0, pos := "keeps.go:174", after := #[{ on := 15, ground := Ground.data }, { on := 14, ground := Ground.data }, { on := 14, ground := Ground.chain }, { on := 0, ground := Ground.phase }, { on := 1, ground := Ground.phase }, { on := 2, ground := Ground.phase }, { on := 3, ground := Ground.phase }, { on := 4, ground := Ground.phase }, { on := 5, ground := Ground.phase }, { on := 6, ground := Ground.phase }, { on := 7, ground := Ground.phase }, { on := 8, ground := Ground.phase }, { on := 9, ground := Ground.phase }, { on := 10, ground := Ground.phase }, { on := 11, ground := Ground.phase }, { on := 12, ground := Ground.phase }, { on := 13, ground := Ground.phase }, { on := 14, ground := Ground.phase }], guard := none }) rfl (fun K hK => ?_) AllReadyH.nil
              go_simp
              refine hK.out _ _ keep4 (fun hS => ?_)
              clear hK K
              try simp only [Act.put, List.setIfInBounds_toArray, List.set_cons_zero, List.set_cons_succ]
              refine wpAnyH_done (by kernel_rfl) ?_ _
              go_wp2_with fail
              go_roundw
              case rel => exact RR.out
              case measure => simp [intOf]; omega
          · rw [if_neg hxi, List.append_nil] at hstep
            have RR := hid (show PlainIn w2 L n i (.int .i64 ((k : Int) + 1)) wr from ⟨k + 1, vs, by simp, by have := HRN.out; omega, hr, hr2, by rw [hstep]; exact hv, hb⟩)
            clear hr hr2 hv hb hx c2w hstep
            go_wp2_with fail
            go_roundw
            case rel => exact RR.out
            case measure => simp [intOf]; omega
        · have hke : k = (rowOf L i).length := by have := HRN.out; omega
          rw [hke, List.take_length, show ((rowOf L i).filter fun x => decide (x < i)) = lowOf L i from rfl, bld_done] at hv
          obtain ⟨m, hm⟩ : ∃ m, m = (i + 1) % n := ⟨_, rfl⟩
          have hnz : ¬ n = 0 := by omega
          have hm2 : ((i : Int) + 1) % (n : Int) = (m : Int) := by rw [hm]; simp
          have hm1 : Int.tmod ((i : Int) + 1) (n : Int) = (m : Int) := by rw [Int.tmod_eq_emod_of_nonneg (by omega)]; exact hm2
          have hwr : IntKind.i64.wrap ((i : Int) + 1) = (i : Int) + 1 := IntWalk.i64_in _ (by omega)
          have hring : rowOf L i ++ [m] = ringOf L n i := by rw [hm]; rfl
          obtain ⟨⟨vA, w5A, aA, cA, w6A, hcA, hpA, oA, bA5, bA6⟩, ⟨vB, w5B, aB, cB, w6B, hcB, hpB, oB, bB5, bB6⟩⟩ := copy_push (w := wr.drewN 1) (HIL.out.below (bdrew hb 1)) (by have := rowOf_length L i; omega) m
          rw [hring] at oA oB
          rw [← HRN.out] at hpA hpB oA oB
          obtain ⟨kA1, kA2, kA3, kA4⟩ := ring_put hgo (wr := wr.drewN 1) hr hr2 (hv.chg ((Chg.refl [] wr).drewN 1) (by simp)) (bdrew hb 1) oA bA6
          obtain ⟨kB1, kB2, kB3, kB4⟩ := ring_put hgo (wr := wr.drewN 1) hr hr2 (hv.chg ((Chg.refl [] wr).drewN 1) (by simp)) (bdrew hb 1) oB bB6
          have RRA := hid kA3
          have RRB := hid kB3
          have hcpA : (Builtin.append_ #[24, 24] 24 #[.slice none 0 0, .slice lo rn lc]).run Try.prog wr.drew = .ok vA w5A := hcA
          have happA : (Builtin.append_ #[24, 24] 24 #[vA, .slice (some ⟨w5A.heap.size, 0, none⟩) 1 1]).run Try.prog (w5A.alloc (.cells #[.int .i64 (m : Int)] 3)) = .ok (.slice aA (rn + 1) cA) w6A := hpA
          have hcpB : (Builtin.append_ #[24, 24] 24 #[.slice none 0 0, .slice lo rn lc]).run Try.prog (wr.alloc (.cells #[.int .i64 (m : Int)] 3)).drew = .ok vB w5B := hcB
          have happB : (Builtin.append_ #[24, 24] 24 #[vB, .slice (some ⟨wr.heap.size, 0, none⟩) 1 1]).run Try.prog w5B = .ok (.slice aB (rn + 1) cB) w6B := hpB
          have lt1 := Nat.lt_of_lt_of_le (World.block_lt_of_cell? _ _ HCL.out) hb.size
          have k5A := (bA5.cell (p := ⟨gb, i, none⟩) lt1).trans c1
          have k5B := (bB5.cell (p := ⟨gb, i, none⟩) lt1).trans c1
          have k6A := (bA6.cell (p := ⟨gb, i, none⟩) lt1).trans c1
          have k6B := (bB6.cell (p := ⟨gb, i, none⟩) lt1).trans c1
          have k7A := (kA4.cell (World.block_lt_of_cell? _ _ HCL.out)).trans c1
          have k7B := (kB4.cell (World.block_lt_of_cell? _ _ HCL.out)).trans c1
          clear hr hr2 hv hb hm hring hcA hpA oA bA5 bA6 hcB hpB oB bB5 bB6 kA3 kA4 kB3 kB4 hke hk lt1
          go_wp2_with fail
          refine wp_region_held_drew (S := fun y => y.cell? ⟨gb, i, none⟩ = some (.slice lo rn lc)) (by kernel_rfl) c1 (fun hS => ?_)
          refine wpAnyH_take (i := 0) (oi := { dst := some 65, op := Op.move (Operand.tmp 6), type := 22, pos := "keeps.go:177", after := #[], guard := none }) (v := ?_) rfl (by kernel_rfl) (by kernel_rfl) (by kernel_rfl) (fun _ _ _ h => h) (Or.inl ⟨by rfl, ?_⟩) hS ?_
          rotate_left 1
          · rintro wx s0
            (go_simp <;> (try with_reducible rfl))
          try simp only [Act.put, List.setIfInBounds_toArray, List.set_cons_zero, List.set_cons_succ]
          refine wpAnyH_take (i := 1) (oi := { dst := some 66, op := Op.move (Operand.tmp 7), type := 3, pos := "keeps.go:177", after := #[], guard := none }) (v := ?_) rfl (by kernel_rfl) (by kernel_rfl) (by kernel_rfl) (fun _ _ _ h => h) (Or.inl ⟨by rfl, ?_⟩) hS ?_
          rotate_left 1
          · rintro wx s0
            (go_simp <;> (try with_reducible rfl))
          try simp only [Act.put, List.setIfInBounds_toArray, List.set_cons_zero, List.set_cons_succ]
          refine wpAnyH_take (i := 2) (oi := { dst := some 67, op := Op.move (Operand.tmp 4), type := 22, pos := "keeps.go:177", after := #[], guard := none }) (v := ?_) rfl (by kernel_rfl) (by kernel_rfl) (by kernel_rfl) (fun _ _ _ h => h) (Or.inl ⟨by rfl, ?_⟩) hS ?_
          rotate_left 1
          · rintro wx s0
            (go_simp <;> (try with_reducible rfl))
          try simp only [Act.put, List.setIfInBounds_toArray, List.set_cons_zero, List.set_cons_succ]
          refine wpAnyH_take (i := 3) (oi := { dst := some 68, op := Op.move (Operand.tmp 7), type := 3, pos := "keeps.go:177", after := #[], guard := none }) (v := ?_) rfl (by kernel_rfl) (by kernel_rfl) (by kernel_rfl) (fun _ _ _ h => h) (Or.inl ⟨by rfl, ?_⟩) hS ?_
          rotate_left 1
          · rintro wx s0
            (go_simp <;> (try with_reducible rfl))
          try simp only [Act.put, List.setIfInBounds_toArray, List.set_cons_zero, List.set_cons_succ]
          refine wpAnyH_take (i := 4) (oi := { dst := some 69, op := Op.indexAddr 22 (Operand.tmp 67) (Operand.tmp 68), type := 0, pos := "keeps.go:177", after := #[{ on := 2, ground := Ground.data }, { on := 3, ground := Ground.data }], guard := none }) (v := ?_) rfl (by kernel_rfl) (by kernel_rfl) (by kernel_rfl) (fun _ _ _ h => h) (Or.inl ⟨by rfl, ?_⟩) hS ?_
          rotate_left 1
          · rintro wx s0
            (go_simp <;> (try with_reducible rfl))
          try simp only [Act.put, List.setIfInBounds_toArray, List.set_cons_zero, List.set_cons_succ]
          refine wpAnyH_take (i := 5) (oi := { dst := some 70, op := Op.load 24 (Operand.tmp 69), type := 24, pos := "keeps.go:177", after := #[{ on := 4, ground := Ground.data }], guard := none }) (v := ?_) rfl (by kernel_rfl) (by kernel_rfl) (by kernel_rfl) (fun _ _ _ h => h) (Or.inl ⟨by rfl, ?_⟩) hS ?_
          rotate_left 1
          · rintro wx s0
            (go_simp <;> (try with_reducible rfl))
          try simp only [Act.put, List.setIfInBounds_toArray, List.set_cons_zero, List.set_cons_succ]
          refine wpAnyH_take (i := 7) (oi := { dst := some 72, op := Op.move (Operand.tmp 7), type := 3, pos := "keeps.go:177", after := #[], guard := none }) (v := ?_) rfl (by kernel_rfl) (by kernel_rfl) (by kernel_rfl) (fun _ _ _ h => h) (Or.inl ⟨by rfl, ?_⟩) hS ?_
          rotate_left 1
          · rintro wx s0
            (go_simp <;> (try with_reducible rfl))
          try simp only [Act.put, List.setIfInBounds_toArray, List.set_cons_zero, List.set_cons_succ]
          refine wpAnyH_take (i := 8) (oi := { dst := some 73, op := Op.binOp BinOp.add 3 (Operand.tmp 72) (Operand.const (Value.int IntKind.i64 1)) 3, type := 3, pos := "keeps.go:177", after := #[{ on := 7, ground := Ground.data }], guard := none }) (v := ?_) rfl (by kernel_rfl) (by kernel_rfl) (by kernel_rfl) (fun _ _ _ h => h) (Or.inl ⟨by rfl, ?_⟩) hS ?_
          rotate_left 1
          · rintro wx s0
            (go_simp <;> (try with_reducible rfl))
          try simp only [Act.put, List.setIfInBounds_toArray, List.set_cons_zero, List.set_cons_succ]
          refine wpAnyH_take (i := 9) (oi := { dst := some 74, op := Op.move (Operand.tmp 4), type := 22, pos := "keeps.go:177", after := #[], guard := none }) (v := ?_) rfl (by kernel_rfl) (by kernel_rfl) (by kernel_rfl) (fun _ _ _ h => h) (Or.inl ⟨by rfl, ?_⟩) hS ?_
          rotate_left 1
          · rintro wx s0
            (go_simp <;> (try with_reducible rfl))
          try simp only [Act.put, List.setIfInBounds_toArray, List.set_cons_zero, List.set_cons_succ]
          refine wpAnyH_take (i := 10) (oi := { dst := some 75, op := Op.call { callee := Callee.builtin Builtin.len, args := #[Operand.tmp 74], argTypes := #[22] }, type := 3, pos := "keeps.go:177", after := #[{ on := 9, ground := Ground.data }], guard := none }) (v := ?_) rfl (by kernel_rfl) (by kernel_rfl) (by kernel_rfl) (fun _ _ _ h => h) (Or.inl ⟨by rfl, ?_⟩) hS ?_
          rotate_left 1
          · rintro wx s0
            (go_simp <;> (try with_reducible rfl))
          try simp only [Act.put, List.setIfInBounds_toArray, List.set_cons_zero, List.set_cons_succ]
          refine wpAnyH_take (i := 11) (oi := { dst := some 76, op := Op.binOp BinOp.rem 3 (Operand.tmp 73) (Operand.tmp 75) 3, type := 3, pos := "keeps.go:177", after := #[{ on := 8, ground := Ground.data }, { on := 10, ground := Ground.data }], guard := none }) (v := ?_) rfl (by kernel_rfl) (by kernel_rfl) (by kernel_rfl) (fun _ _ _ h => h) (Or.inl ⟨by rfl, ?_⟩) hS ?_
          rotate_left 1
          · rintro wx s0
            (go_simp <;> (try with_reducible rfl))
          try simp only [Act.put, List.setIfInBounds_toArray, List.set_cons_zero, List.set_cons_succ]
          refine wpAnyH_ready (rs := [6, 12]) (by kernel_rfl) (by simp) ?_
          refine AllReadyH.cons (o := { dst := some 71, op := Op.call { callee := Callee.builtin Builtin.append, args := #[Operand.const (Value.slice none 0 0), Operand.tmp 70], argTypes := #[24, 24] }, type := 24, pos := "keeps.go:177", after := #[{ on := 5, ground := Ground.data }], guard := none }) rfl (fun K hK => ?_) (AllReadyH.cons (o := { dst := some 77, op := Op.buildSlice 24 1 #[(0, Operand.tmp 76)], type := 24, pos := "keeps.go:177", after := #[{ on := 11, ground := Ground.data }], guard := none }) rfl (fun K hK => ?_) AllReadyH.nil)
          · refine step_append_run rfl (.const (.slice none 0 0)) (.tmp 70) 24 rfl _ _ (by simp [Act.eval]) (by simp [Act.eval]) hcpA ?_
            refine hK.out _ _ k5A (fun hS => ?_)
            clear hK K
            try simp only [Act.put, List.setIfInBounds_toArray, List.set_cons_zero, List.set_cons_succ]
            refine wpAnyH_ready (rs := [12]) (by kernel_rfl) (by simp) ?_
            refine AllReadyH.cons (o := { dst := some 77, op := Op.buildSlice 24 1 #[(0, Operand.tmp 76)], type := 24, pos := "keeps.go:177", after := #[{ on := 11, ground := Ground.data }], guard := none }) rfl (fun K hK => ?_) AllReadyH.nil
            go_simp
            refine hK.out _ _ (((Chg.refl [] w5A).alloc _).cell k5A (by simp)) (fun hS => ?_)
            clear hK K
            try simp only [Act.put, List.setIfInBounds_toArray, List.set_cons_zero, List.set_cons_succ]
            refine wpAnyH_ready (rs := [13]) (by kernel_rfl) (by simp) ?_
            refine AllReadyH.cons (o := { dst := some 78, op := Op.call { callee := Callee.builtin Builtin.append, args := #[Operand.tmp 71, Operand.tmp 77], argTypes := #[24, 24] }, type := 24, pos := "keeps.go:177", after := #[{ on := 6, ground := Ground.data }, { on := 12, ground := Ground.data }, { on := 6, ground := Ground.chain }], guard := none }) rfl (fun K hK => ?_) AllReadyH.nil
            refine step_append_run rfl (.tmp 71) (.tmp 77) 24 rfl _ _ (by simp [Act.eval]) (by simp [Act.eval]) happA ?_
            refine hK.out _ _ k6A (fun hS => ?_)
            clear hK K
            try simp only [Act.put, List.setIfInBounds_toArray, List.set_cons_zero, List.set_cons_succ]
            refine wpAnyH_take (i := 14) (oi := { dst := some 79, op := Op.indexAddr 22 (Operand.tmp 65) (Operand.tmp 66), type := 0, pos := "keeps.go:177", after := #[{ on := 0, ground := Ground.data }, { on := 1, ground := Ground.data }, { on := 0, ground := Ground.phase }, { on := 1, ground := Ground.phase }, { on := 2, ground := Ground.phase }, { on := 3, ground := Ground.phase }, { on := 4, ground := Ground.phase }, { on := 5, ground := Ground.phase }, { on := 6, ground := Ground.phase }, { on := 7, ground := Ground.phase }, { on := 8, ground := Ground.phase }, { on := 9, ground := Ground.phase }, { on := 10, ground := Ground.phase }, { on := 11, ground := Ground.phase }, { on := 12, ground := Ground.phase }, { on := 13, ground := Ground.phase }], guard := none }) (v := ?_) rfl (by kernel_rfl) (by kernel_rfl) (by kernel_rfl) (fun _ _ _ h => h) (Or.inl ⟨by rfl, ?_⟩) hS ?_
            rotate_left 1
            · rintro wx s0
              (go_simp <;> (try with_reducible rfl))
            try simp only [Act.put, List.setIfInBounds_toArray, List.set_cons_zero, List.set_cons_succ]
            refine wpAnyH_ready (rs := [15]) (by kernel_rfl) (by simp) ?_
            refine AllReadyH.cons (o := { dst := none, op := Op.store 24 (Operand.tmp 79) (Operand.tmp 78), type := 0, pos := "keeps.go:177", after := #[{ on := 14, ground := Ground.data }, { on := 13, ground := Ground.data }, { on := 13, ground := Ground.chain }, { on := 0, ground := Ground.phase }, { on := 1, ground := Ground.phase }, { on := 2, ground := Ground.phase }, { on := 3, ground := Ground.phase }, { on := 4, ground := Ground.phase }, { on := 5, ground := Ground.phase }, { on := 6, ground := Ground.phase }, { on := 7, ground := Ground.phase }, { on := 8, ground := Ground.phase }, { on := 9, ground := Ground.phase }, { on := 10, ground := Ground.phase }, { on := 11, ground := Ground.phase }, { on := 12, ground := Ground.phase }, { on := 13, ground := Ground.phase }], guard := none }) rfl (fun K hK => ?_) AllReadyH.nil
            go_simp
            refine hK.out _ _ k7A (fun hS => ?_)
            clear hK K
            try simp only [Act.put, List.setIfInBounds_toArray, List.set_cons_zero, List.set_cons_succ]
            refine wpAnyH_done (by kernel_rfl) ?_ _
            go_wp2_with fail
            go_roundw
            case rel => exact RRA.out
            case measure => simp [intOf]; omega
          · go_simp
            refine hK.out _ _ (((Chg.refl [] wr).alloc _).cell c1 (by simp)) (fun hS => ?_)
            clear hK K
            try simp only [Act.put, List.setIfInBounds_toArray, List.set_cons_zero, List.set_cons_succ]
            refine wpAnyH_ready (rs := [6]) (by kernel_rfl) (by simp) ?_
            refine AllReadyH.cons (o := { dst := some 71, op := Op.call { callee := Callee.builtin Builtin.append, args := #[Operand.const (Value.slice none 0 0), Operand.tmp 70], argTypes := #[24, 24] }, type := 24, pos := "keeps.go:177", after := #[{ on := 5, ground := Ground.data }], guard := none }) rfl (fun K hK => ?_) AllReadyH.nil
            refine step_append_run rfl (.const (.slice none 0 0)) (.tmp 70) 24 rfl _ _ (by simp [Act.eval]) (by simp [Act.eval]) hcpB ?_
            refine hK.out _ _ k5B (fun hS => ?_)
            clear hK K
            try simp only [Act.put, List.setIfInBounds_toArray, List.set_cons_zero, List.set_cons_succ]
            refine wpAnyH_ready (rs := [13]) (by kernel_rfl) (by simp) ?_
            refine AllReadyH.cons (o := { dst := some 78, op := Op.call { callee := Callee.builtin Builtin.append, args := #[Operand.tmp 71, Operand.tmp 77], argTypes := #[24, 24] }, type := 24, pos := "keeps.go:177", after := #[{ on := 6, ground := Ground.data }, { on := 12, ground := Ground.data }, { on := 6, ground := Ground.chain }], guard := none }) rfl (fun K hK => ?_) AllReadyH.nil
            refine step_append_run rfl (.tmp 71) (.tmp 77) 24 rfl _ _ (by simp [Act.eval]) (by simp [Act.eval]) happB ?_
            refine hK.out _ _ k6B (fun hS => ?_)
            clear hK K
            try simp only [Act.put, List.setIfInBounds_toArray, List.set_cons_zero, List.set_cons_succ]
            refine wpAnyH_take (i := 14) (oi := { dst := some 79, op := Op.indexAddr 22 (Operand.tmp 65) (Operand.tmp 66), type := 0, pos := "keeps.go:177", after := #[{ on := 0, ground := Ground.data }, { on := 1, ground := Ground.data }, { on := 0, ground := Ground.phase }, { on := 1, ground := Ground.phase }, { on := 2, ground := Ground.phase }, { on := 3, ground := Ground.phase }, { on := 4, ground := Ground.phase }, { on := 5, ground := Ground.phase }, { on := 6, ground := Ground.phase }, { on := 7, ground := Ground.phase }, { on := 8, ground := Ground.phase }, { on := 9, ground := Ground.phase }, { on := 10, ground := Ground.phase }, { on := 11, ground := Ground.phase }, { on := 12, ground := Ground.phase }, { on := 13, ground := Ground.phase }], guard := none }) (v := ?_) rfl (by kernel_rfl) (by kernel_rfl) (by kernel_rfl) (fun _ _ _ h => h) (Or.inl ⟨by rfl, ?_⟩) hS ?_
            rotate_left 1
            · rintro wx s0
              (go_simp <;> (try with_reducible rfl))
            try simp only [Act.put, List.setIfInBounds_toArray, List.set_cons_zero, List.set_cons_succ]
            refine wpAnyH_ready (rs := [15]) (by kernel_rfl) (by simp) ?_
            refine AllReadyH.cons (o := { dst := none, op := Op.store 24 (Operand.tmp 79) (Operand.tmp 78), type := 0, pos := "keeps.go:177", after := #[{ on := 14, ground := Ground.data }, { on := 13, ground := Ground.data }, { on := 13, ground := Ground.chain }, { on := 0, ground := Ground.phase }, { on := 1, ground := Ground.phase }, { on := 2, ground := Ground.phase }, { on := 3, ground := Ground.phase }, { on := 4, ground := Ground.phase }, { on := 5, ground := Ground.phase }, { on := 6, ground := Ground.phase }, { on := 7, ground := Ground.phase }, { on := 8, ground := Ground.phase }, { on := 9, ground := Ground.phase }, { on := 10, ground := Ground.phase }, { on := 11, ground := Ground.phase }, { on := 12, ground := Ground.phase }, { on := 13, ground := Ground.phase }], guard := none }) rfl (fun K hK => ?_) AllReadyH.nil
            go_simp
            refine hK.out _ _ k7B (fun hS => ?_)
            clear hK K
            try simp only [Act.put, List.setIfInBounds_toArray, List.set_cons_zero, List.set_cons_succ]
            refine wpAnyH_done (by kernel_rfl) ?_ _
            go_wp2_with fail
            go_roundw
            case rel => exact RRB.out
            case measure => simp [intOf]; omega
    · obtain rfl : i = n := by omega
      have rTl := rows_of (g := grOf i (lowOf L)) (grOf_length _ _).symm hr (hv.sub (by omega)) (fun p hp => by
        rw [grOf_edges hp, two_fst hp]
        simp [bld, hp]) (by omega) (fun p hp y hy => by
        have := low_right (L := L) (n := i) |>.1 p y hy
        rw [grOf_length] at this
        omega)
      have rTr := rows_of (g := grOf i (ringOf L i)) (grOf_length _ _).symm hr2 (hv.shift (by omega)) (fun p hp => by
        rw [grOf_edges hp, two_snd]
        simp [bld, hp]) (by omega) (fun p hp y hy => by
        have := ring_right HN.out p y hy
        rw [grOf_length] at this
        omega)
      have HTL := hid rTl
      have HTR := hid rTr
      have HB := hid hb
      clear rTl rTr hr hr2 hv hb hi hgo
      by_cases h0 : i = 0
      · subst h0
        go_wp2_with fail
        refine (parts_gr_known HTL.out.rows low_right.1 (by rw [grOf_length]; omega) (low_few hn60) low_parts).mono ?_
        rintro e w5 ⟨v5, rfl, r5, hb5⟩
        have HR5 := hid r5
        clear r5
        go_wp2_with fail
        refine (parts_gr_known (HTR.out.rows.below hb5) (ring_right HN.out) (by rw [grOf_length]; omega) (ring_few hn60) parts_none).mono ?_
        rintro e w6 ⟨v6, rfl, r6, hb6⟩
        have r5 := HR5.out.below hb6
        obtain ⟨a5, c5, rfl, _⟩ := rows_view r5
        rw [singles_len] at r5 ⊢
        obtain ⟨a6, c6, rfl, _⟩ := rows_view r6
        have hl6 : (castG ([] : List (List Nat))).length = 0 := rfl
        rw [hl6]
        clear hl6
        have HR56 := hid r5
        clear r5 r6
        have HEND := hid (show Below w.heap.size w w6 from HB12.out.trans (below_low0 (HB.out.trans (below_low0 (hb5.trans (below_low0 hb6 hb5.size)) HB.out.size)) HB12.out.size))
        clear hb5 hb6
        go_wp2_with fail
        go_loopw [13] (fun iv y => SinglesRel w6 0 iv y) (fun iv _ => 0 - (intOf iv).toNat)
        case atStart => exact ⟨0, rfl, Nat.zero_le _, rfl⟩
        case round =>
          obtain ⟨j, rfl, hj, rfl⟩ := hrel
          obtain rfl : j = 0 := by omega
          go_wp2_with fail
          go_ret
          exact ⟨rfl, HEND.out⟩
      · have hi0 : 0 < i := by omega
        go_wp2_with fail
        refine (parts_gr_known HTL.out.rows low_right.1 (by rw [grOf_length]; omega) (low_few hn60) low_parts).mono ?_
        rintro e w5 ⟨v5, rfl, r5, hb5⟩
        have HR5 := hid r5
        clear r5
        go_wp2_with fail
        refine (parts_gr_known (HTR.out.rows.below hb5) (ring_right HN.out) (by rw [grOf_length]; omega) (ring_few hn60) (ring_parts HN.out hi0)).mono ?_
        rintro e w6 ⟨v6, rfl, r6, hb6⟩
        have r5 := HR5.out.below hb6
        obtain ⟨a5, c5, rfl, _⟩ := rows_view r5
        rw [singles_len] at r5 ⊢
        obtain ⟨a6, c6, rfl, _⟩ := rows_view r6
        obtain ⟨b9, o9, lo9, lc9, rfl, z1, _⟩ := rows_cell (i := 0) r6 (show (castG [List.range i])[0]? = some ((List.range i).map fun (x : Nat) => (x : Int)) from rfl)
        rw [Nat.add_zero, List.length_map, List.length_range] at z1
        have hl6 : (castG [List.range i]).length = 1 := rfl
        rw [hl6]
        clear hl6
        have HR56 := hid r5
        clear r5 r6
        have HEND := hid (show Below w.heap.size w w6 from HB12.out.trans (below_low0 (HB.out.trans (below_low0 (hb5.trans (below_low0 hb6 hb5.size)) HB.out.size)) HB12.out.size))
        clear hb5 hb6
        go_wp2_with fail
        go_loopw [13] (fun iv y => SinglesRel w6 i iv y) (fun iv _ => i - (intOf iv).toNat)
        case atStart => exact ⟨0, rfl, Nat.zero_le _, rfl⟩
        case round =>
          obtain ⟨j, rfl, hj, rfl⟩ := hrel
          by_cases hjn : j < i
          · obtain ⟨b7, o7, lo7, lc7, rfl, q1, q2⟩ := rows_cell HR56.out (singles_row hjn)
            obtain ⟨b8, o8, rfl, q3, q4, q5⟩ := ints_cell q2 (i := 0) rfl
            rw [Nat.add_zero] at q3
            simp only [List.length_cons, List.length_nil, Nat.zero_add] at q1
            clear q2
            go_wp2_with fail
            go_roundw
            case rel => exact ⟨j + 1, by simp, by omega, rfl⟩
            case measure => simp [intOf]; omega
          · obtain rfl : j = i := by omega
            go_wp2_with fail
            go_ret
            exact ⟨rfl, HEND.out⟩

end Go.Proofs.Ytagfgbmaibadjaa
