/- Contract of (*disk.Disk).Crash, at every list of numbers. -/
import Derived.Test.YtknmebknkncmoaaDkKeep
namespace Go.Proofs.Ytknmebknkncmoaa
open Go.RowKit Go.Lib

/-- the piece that a number of keep lays -/
def pieceOf (pend : List (Nat × Bs)) (k : Int) : Nat × Bs :=
  let p := pend[ixOf k]?.getD (0, [])
  if k < 0 then (p.1, p.2.take (p.2.length / 2)) else p

theorem not_keepOk {m i : Nat} {ks : List Int} {used : List Bool} {k : Int} (hu : UsedBy used (ks.take i)) (hm : used.length = m) (hk : ks[i]? = some k) (hbad : m ≤ ixOf k ∨ used[ixOf k]?.getD true = true) : ¬ KeepOk m ks := by
  intro h
  have hmem := List.mem_of_getElem? hk
  have hlt := h.lt k hmem
  rcases hbad with hb | hb
  · omega
  · have h1 := (hu.iff _ (by omega)).1 hb
    have hsplit : ks = ks.take i ++ k :: ks.drop (i + 1) := by
      have hi : i < ks.length := (List.getElem?_eq_some_iff.1 hk).1
      have e : ks[i] = k := (List.getElem?_eq_some_iff.1 hk).2
      rw [← e, ← List.drop_eq_getElem_cons hi, List.take_append_drop]
    have hn := h.nodup
    rw [hsplit, List.map_append, List.nodup_append] at hn
    exact hn.2.2 _ h1 _ (by simp) rfl

theorem usedBy_take {ks : List Int} {i : Nat} {k : Int} {used : List Bool} (h : UsedBy used (ks.take i)) (hk : ks[i]? = some k) (hlt : ixOf k < used.length) (hu : used[ixOf k]?.getD true = false) :
    UsedBy (used.set (ixOf k) true) (ks.take (i + 1)) := by
  have hi : i < ks.length := (List.getElem?_eq_some_iff.1 hk).1
  have e : ks[i] = k := (List.getElem?_eq_some_iff.1 hk).2
  rw [List.take_succ_eq_append_getElem hi, e]
  exact usedBy_snoc h hlt hu

theorem flat_even (l : List (Nat × Bs)) (q : Nat) : (l.flatMap pieceCells)[q * 2]? = l[q]?.map fun p => Value.int .i64 (p.1 : Int) := by
  induction l generalizing q with
  | nil => simp
  | cons a l ih =>
    cases q with
    | zero => simp [pieceCells]
    | succ q =>
      rw [List.flatMap_cons, show (q + 1) * 2 = (pieceCells a).length + q * 2 by simp [pieceCells]; omega, List.getElem?_append_right (by omega), Nat.add_sub_cancel_left, ih q]
      simp
theorem flat_odd (l : List (Nat × Bs)) (q : Nat) : (l.flatMap pieceCells)[q * 2 + 1]? = l[q]?.map fun p => Value.string ⟨p.2.toArray⟩ := by
  induction l generalizing q with
  | nil => simp
  | cons a l ih =>
    cases q with
    | zero => simp [pieceCells]
    | succ q =>
      rw [List.flatMap_cons, show (q + 1) * 2 + 1 = (pieceCells a).length + (q * 2 + 1) by simp [pieceCells]; omega, List.getElem?_append_right (by omega), Nat.add_sub_cancel_left, ih q]
      simp

/-- a slice of pieces: the cells of one of them -/
theorem piece_cells {w : World} {base n : Nat} {pa : Option Addr} {pc : Nat} {l : List (Nat × Bs)} (h : w.ownsRow base 69 2 (.slice pa n pc) n (l.flatMap pieceCells)) {q : Nat} {p : Nat × Bs} (hq : l[q]? = some p) (hn : q < n) :
    ∃ g, pa = some ⟨g, 0, none⟩ ∧ w.cell? ⟨g, q * 2, none⟩ = some (.int .i64 (p.1 : Int)) ∧ w.cell? ⟨g, q * 2 + 1, none⟩ = some (.string ⟨p.2.toArray⟩) := by
  rcases h.2 with ⟨hv, h0⟩ | ⟨g, cap, cur, hv, _⟩
  · omega
  · injection hv with h1 h2 h3
    subst h1 h3
    refine ⟨g, rfl, ?_, ?_⟩
    · rw [h.cellAt _ (by omega), flat_even, hq]; rfl
    · rw [h.cellAt _ (by omega), flat_odd, hq]; rfl

theorem Try.info69 : (Try.prog.info? 69).map (fun i => (i.zero, i.size, i.bytes)) = some (some (.agg #[.int .i64 0, .string ⟨#[]⟩]), 2, 24) := by kernel_rfl

/-- the first loop's head -/
def CrashRel (w : World) (bu : Nat) (pend : List (Nat × Bs)) (ks : List Int) (l i : Value) (wr : World) : Prop :=
  ∃ (j : Nat) (used : List Bool), i = .int .i64 j ∧ j ≤ ks.length ∧ used.length = pend.length ∧ wr.heap[bu]? = some (.cells (boolCells used).toArray 4 (0, 0)) ∧
    wr.ownsRow (bu + 1) 69 2 l j (((ks.map (pieceOf pend)).take j).flatMap pieceCells) ∧ UsedBy used (ks.take j) ∧ Below w.heap.size w wr ∧ bu < wr.heap.size

theorem pieceOf_nn {pend : List (Nat × Bs)} {x : Int} {q at_ : Nat} {p : Nat × Bs} {sv : ByteArray} (hq : ixOf x = q) (hp : pend[q]? = some p) (ha : at_ = p.1) (hs : sv = ⟨p.2.toArray⟩) (h0 : 0 ≤ x) :
    [Value.int .i64 (at_ : Int), .string sv] = pieceCells (pieceOf pend x) := by
  subst ha hs
  simp [pieceOf, hq, hp, pieceCells, show ¬ x < 0 by omega]
theorem extract_half (l : Bs) : (⟨l.toArray⟩ : ByteArray).extract 0 ((⟨l.toArray⟩ : ByteArray).size / 2) = ⟨(l.take (l.length / 2)).toArray⟩ := by
  apply ByteArray.ext
  rw [ByteArray.data_extract]
  apply Array.ext'
  simp [ByteArray.size]
theorem pieceOf_neg {pend : List (Nat × Bs)} {x : Int} {q at_ : Nat} {p : Nat × Bs} {sv : ByteArray} (hq : ixOf x = q) (hp : pend[q]? = some p) (ha : at_ = p.1) (hs : sv = ⟨p.2.toArray⟩) (h0 : x < 0) :
    [Value.int .i64 (at_ : Int), .string (sv.extract 0 (sv.size / 2))] = pieceCells (pieceOf pend x) := by
  subst ha hs
  rw [extract_half]
  simp [pieceOf, hq, hp, pieceCells, h0]

theorem cell_two_new2 {w : World} {n : Nat} (hn : w.heap.size = n) (x y : Value) (t : TypeId) : ∀ j u, [x, y][j]? = some u → (w.alloc (.cells #[x, y] t)).cell? ((⟨n, 0, none⟩ : Addr).add j) = some u := by
  subst hn
  exact cell_two_new w x y t

theorem crash_step {w wr w1 : World} {pend : List (Nat × Bs)} {ks : List Int} {j q : Nat} {x : Int} {used : List Bool} {o v' : Value} {A B : Obj} {nw : List Value} (hx : ks[j]? = some x) (_hj : j ≤ ks.length)
    (hul : used.length = pend.length) (hfree : used[q]?.getD true = false) (hub : UsedBy used (ks.take j)) (hix : ixOf x = q) (hq : q < pend.length)
    (hnw : nw = pieceCells (pieceOf pend x))
    (hs : (wr.setCell ⟨w.heap.size, q, none⟩ (.bool true)).heap[w.heap.size]? = some (.cells (boolCells (used.set q true)).toArray 4 (0, 0)))
    (hown : wr.ownsRow (w.heap.size + 1) 69 2 o j (((ks.map (pieceOf pend)).take j).flatMap pieceCells))
    (hbe : Below w.heap.size w wr) (hbs : w.heap.size < wr.heap.size)
    (hown' : w1.ownsRow (w.heap.size + 1) 69 2 v' (j + 1) (((ks.map (pieceOf pend)).take j).flatMap pieceCells ++ nw))
    (hgrow : (((wr.setCell ⟨w.heap.size, q, none⟩ (.bool true)).alloc A).alloc B).grownBy w1 o.ownBlock) :
    CrashRel w w.heap.size pend ks v' (.int .i64 ((j : Int) + 1)) w1 := by
  have hne : some w.heap.size ≠ o.ownBlock := fun e => by have := hown.lt _ e.symm; omega
  have hsz : (((wr.setCell ⟨w.heap.size, q, none⟩ (.bool true)).alloc A).alloc B).heap.size = wr.heap.size + 2 := by simp
  have hi : j < ks.length := (List.getElem?_eq_some_iff.1 hx).1
  have ex : ks[j] = x := (List.getElem?_eq_some_iff.1 hx).2
  refine ⟨j + 1, used.set q true, by simp, by omega, by simpa using hul, ?_, ?_, ?_, ?_, ?_⟩
  · exact (hgrow.block w.heap.size (by rw [hsz]; omega) hne).trans (heap_alloc_keep (heap_alloc_keep hs _) _)
  · rw [List.take_succ_eq_append_getElem (by simpa using hi), List.flatMap_append]
    simp only [List.getElem_map, ex, List.flatMap_cons, List.flatMap_nil, List.append_nil, ← hnw]
    exact hown'
  · subst hix; exact usedBy_take hub hx (by rw [hul]; exact hq) hfree
  · exact (((hbe.setCell (Nat.le_refl _) _).alloc (by simp; omega) _).alloc (by simp; omega) _).grown hgrow (by rw [hsz]; omega) (fun k e => by have := hown.lt _ e; omega)
  · have := hgrow.size; rw [hsz] at this; omega

def CrashPost (base bd bk bn : Nat) (kept : Bs) (pend : List (Nat × Bs)) (ks : List Int) (w : World) (e : Ending) (w' : World) : Prop :=
  (KeepOk pend.length ks ∧ e = .returned (.int .i64 0) ∧ DiskAt w' base bd bk bn (.slice none 0 0) ((ks.map (pieceOf pend)).foldl lay kept) ((ks.map (pieceOf pend)).foldl lay kept) [] ∧ Chg [bd, bk, bn] w w') ∨
  (¬ KeepOk pend.length ks ∧ e = .returned (.int .i64 261) ∧ Below w.heap.size w w')

theorem pieces_ok {pend : List (Nat × Bs)} {ks : List Int} {n : Nat} (hk : KeepOk pend.length ks) (ho : ∀ p ∈ pend, p.1 + p.2.length ≤ n ∧ p.1 < n) : ∀ p ∈ ks.map (pieceOf pend), p.1 + p.2.length ≤ n ∧ p.1 < n := by
  intro p hp
  obtain ⟨x, hx, rfl⟩ := List.mem_map.1 hp
  have hlt := hk.lt x hx
  have hm : pend[ixOf x] ∈ pend := List.getElem_mem hlt
  have := ho _ hm
  unfold pieceOf
  simp only [List.getElem?_eq_getElem hlt, Option.getD_some]
  split
  · simp; omega
  · exact this

theorem copy_str {w : World} {g at_ : Nat} {K s : Bs} {sv : ByteArray} (hg : w.heap[g]? = some (.cells (byteCells K).toArray 5 (0, 0))) (hs : sv = ⟨s.toArray⟩) (h : at_ + s.length ≤ K.length) (ty : TypeId) :
    (Builtin.copy_ #[35, 9] ty #[.slice (some ⟨g, at_, none⟩) (K.length - at_) (K.length - at_), .string sv]).run Try.prog w = .ok (goInt sv.size) (w.setRow g (byteCells (lay K (at_, s))).toArray) := by
  subst hs
  have hi : (Try.prog.info? 5).map (·.size) = some 1 := by kernel_rfl
  have hsz : (⟨s.toArray⟩ : ByteArray).size = s.length := by simp [ByteArray.size]
  have e := run_copy_row_string (P := Try.prog) w 35 9 ty 5 g at_ (K.length - at_) (K.length - at_) ⟨s.toArray⟩ (byteCells K).toArray 5 Try.underlying35 hi hg (by rw [hsz]; omega) (by rw [hsz]; simp [byteCells_length]; omega)
  rw [e]
  congr 3
  simp only [hsz, lay, splice, byteCells, List.map_append, List.map_take, List.map_drop, List.append_assoc]

/-- the second loop's head -/
def CrashRel2 (w : World) (base bd bk bn : Nat) (pv : Value) (kept now : Bs) (pend L : List (Nat × Bs)) (lb : Nat) (la : Option Addr) (lc n : Nat) (i : Value) (w2 : World) : Prop :=
  ∃ m : Nat, i = .int .i64 m ∧ m ≤ n ∧ DiskAt w2 base bd bk bn pv ((L.take m).foldl lay kept) now pend ∧ w2.ownsRow lb 69 2 (.slice la n lc) n (L.flatMap pieceCells) ∧ Chg [bk] w w2

theorem lay_length {l : Bs} {p : Nat × Bs} (h : p.1 + p.2.length ≤ l.length) : (lay l p).length = l.length := length_splice _ _ _ h
theorem lays_length {l : Bs} : ∀ {L : List (Nat × Bs)}, (∀ p ∈ L, p.1 + p.2.length ≤ l.length) → (L.foldl lay l).length = l.length := by
  intro L
  induction L generalizing l with
  | nil => intro _; rfl
  | cons p L ih =>
    intro h
    have h0 := lay_length (h p (by simp))
    rw [List.foldl_cons, ih (fun q hq => by rw [h0]; exact h q (by simp [hq])), h0]

theorem crash_step2 {w w2 : World} {base bd bk bn : Nat} {pv : Value} {kept now K : Bs} {pend L : List (Nat × Bs)} {lb : Nat} {la : Option Addr} {lc n m at_ : Nat} {sv : ByteArray} {p : Nat × Bs} (hK : K = (L.take m).foldl lay kept)
    (D : DiskAt w2 base bd bk bn pv K now pend) (hown : w2.ownsRow lb 69 2 (.slice la n lc) n (L.flatMap pieceCells)) (hch : Chg [bk] w w2) (hp : L[m]? = some p) (hat : at_ = p.1) (hm : m < n) (hlen : p.1 + p.2.length ≤ K.length) :
    CrashRel2 w base bd bk bn pv kept now pend L lb la lc n (.int .i64 ((m : Int) + 1)) (((w2.alloc (.cells #[.int .i64 (at_ : Int), .string sv] 69)).drew).setRow bk (byteCells (lay K (at_, p.2))).toArray) := by
  have nkd : bd ≠ bk := heap_ne D.hd D.hk (by decide)
  have hmL : m < L.length := (List.getElem?_eq_some_iff.1 hp).1
  have ep : L[m] = p := (List.getElem?_eq_some_iff.1 hp).2
  have e : (L.take (m + 1)).foldl lay kept = lay K (at_, p.2) := by
    rw [List.take_succ_eq_append_getElem hmL, List.foldl_append, ← hK, ep]
    subst hat
    rfl
  have hl : (lay K (at_, p.2)).length = K.length := lay_length (by subst hat; exact hlen)
  have ch1 : Chg [bk] w2 (((w2.alloc (.cells #[.int .i64 (at_ : Int), .string sv] 69)).drew).setRow bk (byteCells (lay K (at_, p.2))).toArray) := (((Chg.refl _ w2).alloc _).drew).setRow (.inl (by simp)) _
  refine ⟨m + 1, by simp, by omega, ?_, ?_, hch.trans ch1 (by simp)⟩
  · rw [e]
    refine ⟨?_, ?_, ?_, ?_, by rw [hl]; exact D.len, D.ne, by rw [hl]; exact D.lo, by rw [hl]; exact D.hi, by rw [hl]; exact D.ok, D.b1, D.b2, D.b3⟩
    · rw [hl]; exact ch1.heap D.hd (by simpa using nkd)
    · exact heap_setRow_at (w := (w2.alloc _).drew) (heap_alloc_keep D.hk _)
    · exact ch1.heap D.hn (by simpa using D.ne.symm)
    · refine ch1.owns D.hp (fun g hg => ?_)
      rcases D.hp.2 with ⟨rfl, _⟩ | ⟨g', cap, cur, rfl, _, hgg, _⟩
      · simp [Value.ownBlock] at hg
      · simp only [Value.ownBlock, Option.some.injEq] at hg; subst hg; simpa using heap_ne hgg D.hk (by decide)
  · refine ch1.owns hown (fun g hg => ?_)
    rcases hown.2 with ⟨hv, _⟩ | ⟨g', cap, cur, hv, _, hgg, _⟩
    · rw [hv] at hg; simp [Value.ownBlock] at hg
    · rw [hv] at hg; simp only [Value.ownBlock, Option.some.injEq] at hg; subst hg; simpa using heap_ne hgg D.hk (by decide)

theorem crash_end {w w2 : World} {base bd bk bn : Nat} {pv : Value} {now K : Bs} {pend : List (Nat × Bs)} (D : DiskAt w2 base bd bk bn pv K now pend) (hch : Chg [bk] w w2) :
    DiskAt ((w2.drew.setRow bn (byteCells K).toArray).setCell ⟨bd, 2, none⟩ (.slice none 0 0)) base bd bk bn (.slice none 0 0) K K [] ∧ Chg [bd, bk, bn] w ((w2.drew.setRow bn (byteCells K).toArray).setCell ⟨bd, 2, none⟩ (.slice none 0 0)) := by
  have nkd : bd ≠ bk := heap_ne D.hd D.hk (by decide)
  have nnd : bd ≠ bn := heap_ne D.hd D.hn (by decide)
  refine ⟨⟨?_, ?_, ?_, World.ownsRow_nil _ _ _ _, rfl, D.ne, D.lo, D.hi, by simp, D.b1, D.b2, D.b3⟩, ?_⟩
  · exact heap_setCell_at (heap_setRow_far (w := w2.drew) D.hd nnd _) _
  · exact heap_setCell_far (heap_setRow_far (w := w2.drew) D.hk D.ne _) nkd.symm _
  · exact heap_setCell_far (heap_setRow_at (w := w2.drew) D.hn) nnd.symm _
  · exact hch.mono (by simp) |>.drew |>.setRow (.inl (by simp)) _ |>.setCell (.inl (by simp)) _
theorem crash_end_cell {w2 : World} {base bd bk bn : Nat} {pv : Value} {now K : Bs} {pend : List (Nat × Bs)} (D : DiskAt w2 base bd bk bn pv K now pend) : (w2.drew.setRow bn (byteCells K).toArray).cell? ⟨bd, 2, none⟩ = some pv :=
  cell_of (heap_setRow_far (w := w2.drew) D.hd (heap_ne D.hd D.hn (by decide)) _) rfl
theorem crash_end_free {w2 : World} {base bd bk bn : Nat} {pv : Value} {now K : Bs} {pend : List (Nat × Bs)} (D : DiskAt w2 base bd bk bn pv K now pend) : (w2.drew.setRow bn (byteCells K).toArray).frozen? ⟨bd, 2, none⟩ = false :=
  free_of (heap_setRow_far (w := w2.drew) D.hd (heap_ne D.hd D.hn (by decide)) _)

theorem nodup_le : ∀ (n : Nat) (l : List Nat), l.Nodup → (∀ x ∈ l, x < n) → l.length ≤ n
  | 0, l, _, h => by
    cases l with
    | nil => simp
    | cons x l => have := h x (by simp); omega
  | n + 1, l, hn, h => by
    by_cases hm : n ∈ l
    · have h1 := nodup_le n (l.erase n) (hn.erase n) (fun x hx => by
        have h2 := (List.Nodup.mem_erase_iff hn).1 hx
        have := h x h2.2
        omega)
      rw [List.length_erase_of_mem hm] at h1
      omega
    · have := nodup_le n l hn (fun x hx => by
        have := h x hx
        have : x ≠ n := fun e => hm (e ▸ hx)
        omega)
      omega
theorem keepOk_len {n : Nat} {ks : List Int} (h : KeepOk n ks) : ks.length ≤ n := by
  have := nodup_le n (ks.map ixOf) h.nodup (fun x hx => by
    obtain ⟨k, hk, rfl⟩ := List.mem_map.1 hx
    exact h.lt k hk)
  simpa using this

set_option maxHeartbeats 2000000 in
theorem crash_core {w : World} {base bd bk bn : Nat} {pv : Value} {kept now : Bs} {pend : List (Nat × Bs)} (D : DiskAt w base bd bk bn pv kept now pend) (b off c : Nat) (ks : List Int)
    (hks : ∀ j x, ks[j]? = some x → w.cell? ⟨b, off + j, none⟩ = some (.int .i64 x)) (hr : ∀ x ∈ ks, -9223372036854775808 ≤ x ∧ x ≤ 9223372036854775807) (hlen : ks.length ≤ 9223372036854775807) (hpl : pend.length ≤ 1000000000) :
    Calls Try.prog 21 #[.pointer (some ⟨bd, 0, none⟩), .slice (some ⟨b, off, none⟩) ks.length c] w (CrashPost base bd bk bn kept pend ks w) := by
  have hmk := make_bools pend.length (by omega)
  obtain ⟨pa, pc, hpv, hpm⟩ := ownsRow_view D.hp
  have hd := D.hd
  rw [hpv] at hd
  have c2 := cell_of (i := 2) hd rfl
  have HD := hid D
  have HPV := hid hpv
  unfold maxLen at hpm
  clear D hpv hd
  obtain ⟨i0, hi, hz0, hz1, hz2⟩ := info_parts Try.info69
  go_enter Try.func21, Try.ntmps21
  go_wp2
  go_loopw [6, 23] (fun l i wr => CrashRel w w.heap.size pend ks l i wr) (fun _ i _ => ks.length - (intOf i).toNat)
  case atStart => exact ⟨0, nones pend.length, rfl, by omega, by simp [nones], heap_alloc_new w _, World.ownsRow_nil _ _ _ _, usedBy_nil _, (Below.refl _ w).alloc (Nat.le_refl _) _, by simp⟩
  case round =>
    obtain ⟨j, used, rfl, hj, hul, hu, hown, hub, hbe, hbs⟩ := hrel
    have hjp : j ≤ pend.length := by
      have := keepOk_len hub.ok
      rw [hul, List.length_take] at this
      omega
    by_cases hgo : j < ks.length
    · obtain ⟨x, hx⟩ : ∃ x, ks[j]? = some x := ⟨ks[j], by simp [hgo]⟩
      obtain ⟨r1, r2⟩ := hr x (List.mem_of_getElem? hx)
      have hcx : wr.cell? ⟨b, off + j, none⟩ = some (.int .i64 x) := (hbe.cell (World.block_lt_of_cell? _ _ (hks j x hx))).trans (hks j x hx)
      have HX := hid hx
      have HU := hid hu
      have HB := hid hub
      have HW := hid hul
      have HO := hid hown
      clear hx hu hub hks hul hown hmk
      by_cases hx0 : x < 0
      · obtain ⟨q, hqx⟩ : ∃ q : Nat, -1 - x = (q : Int) := ⟨(-1 - x).toNat, by omega⟩
        have hq : ixOf x = q := by unfold ixOf; rw [if_pos hx0]; omega
        by_cases hqm : pend.length ≤ q
        · have R := hid (not_keepOk HB.out HW.out HX.out (.inl (by rw [hq]; exact hqm)))
          clear hq
          go_wp2
          go_ret
          exact .inr ⟨R.out, rfl, hbe⟩
        · by_cases huq : used[q]?.getD true = true
          · have R := hid (not_keepOk HB.out HW.out HX.out (.inr (by rw [hq]; exact huq)))
            have hql : q < used.length := by rw [HW.out]; omega
            have hc : wr.cell? ⟨w.heap.size, q, none⟩ = some (.bool true) := cell_of HU.out (by simp [boolCells, List.getElem?_eq_getElem hql] at huq ⊢; exact huq)
            clear hq huq hql
            go_wp2
            go_ret
            exact .inr ⟨R.out, rfl, hbe⟩
          · have hqp : q < pend.length := by omega
            obtain ⟨p, hp⟩ : ∃ p, pend[q]? = some p := ⟨pend[q], by simp [hqp]⟩
            have hown0 := HD.out.hp
            rw [HPV.out] at hown0
            obtain ⟨g, rfl, hp1, hp2⟩ := piece_cells hown0 hp hqp
            have hp1' := (hbe.cell (World.block_lt_of_cell? _ _ hp1)).trans hp1
            have hp2' := (hbe.cell (World.block_lt_of_cell? _ _ hp2)).trans hp2
            have c2' := (hbe.cell (World.block_lt_of_cell? _ _ c2)).trans c2
            have k1 := cell_setCell_far (i := q) hp1' (b := w.heap.size) (Nat.ne_of_lt (World.block_lt_of_cell? _ _ hp1)) (.bool true)
            have k2 := cell_setCell_far (i := q) hp2' (b := w.heap.size) (Nat.ne_of_lt (World.block_lt_of_cell? _ _ hp2)) (.bool true)
            have k3 := cell_setCell_far (i := q) c2' (b := w.heap.size) (Nat.ne_of_lt (World.block_lt_of_cell? _ _ c2)) (.bool true)
            clear hp1' hp2' c2'
            obtain ⟨at_, hat⟩ : ∃ at_, at_ = p.1 := ⟨_, rfl⟩
            obtain ⟨sv, hsv⟩ : ∃ sv : ByteArray, sv = ⟨p.2.toArray⟩ := ⟨_, rfl⟩
            rw [← hat] at k1
            rw [← hsv] at k2
            have huq3 : used[q]?.getD true = false := by simpa using huq
            have hql : q < used.length := by rw [HW.out]; omega
            have hc : wr.cell? ⟨w.heap.size, q, none⟩ = some (.bool false) := cell_of HU.out (by simp [boolCells, List.getElem?_eq_getElem hql] at huq3 ⊢; exact huq3)
            have hf : wr.frozen? ⟨w.heap.size, q, none⟩ = false := free_of HU.out
            have hu2 := heap_setCell_at (i := q) HU.out (.bool true)
            have hset : (boolCells used).toArray.setIfInBounds q (.bool true) = (boolCells (used.set q true)).toArray := by simp [boolCells, List.map_set]
            rw [hset] at hu2
            have hown2 := ownsRow_setCell_below HO.out (a := ⟨w.heap.size, q, none⟩) (by simp) (.bool true)
            have HO2 := hid ((hown2.alloc (.cells #[.int .i64 (at_ : Int), .string (sv.extract 0 (sv.size / 2))] 69)).alloc (.cells #[.int .i64 (at_ : Int), .string (sv.extract 0 (sv.size / 2))] 69))
            have hsz : sv.size ≤ 100000 := by rw [hsv]; have := HD.out.ok p (List.mem_of_getElem? hp); have := HD.out.hi; simp [ByteArray.size]; omega
            have HU2 := hid hu2
            have HF := hid huq3
            have HQ := hid hq
            have HP := hid hp
            have HAT := hid hat
            have HSV := hid hsv
            clear hq huq huq3 hql hp hp1 hp2 hat hsv hset hu2 hown2 hown0
            go_wp2_with (at_builtin; refine wpList_append_own _ rfl _ _ 63 rfl (w.heap.size + 1) 69 i0 (.agg #[.int .i64 0, .string ⟨#[]⟩]) 2 24 Try.underlying63 hi hz0 hz1 hz2 rfl (by decide) _ _ _ rfl HO2.out ⟨wr.heap.size + 1, 0, none⟩ 1 1 [.int .i64 (at_ : Int), .string (sv.extract 0 (sv.size / 2))] rfl rfl ?n1 ?n2 ?n3 ?n4 ?n5 ?_)
            case n1 => exact cell_two_new2 (by simp) _ _ _
            case n2 => intro u hu; simp at hu; rcases hu with rfl | rfl <;> rfl
            case n3 => unfold maxLen; omega
            case n4 => omega
            case n5 => simp; omega
            intro v' w1 hown' hgrow _
            have R := hid (crash_step HX.out hj HW.out HF.out HB.out HQ.out (by omega) (pieceOf_neg HQ.out HP.out HAT.out HSV.out hx0) HU2.out HO.out hbe hbs hown' hgrow)
            clear hown' hgrow
            go_wp2
            go_roundw
            case rel => exact R.out
            case measure => simp [intOf]; omega
      · obtain ⟨q, rfl⟩ := Int.eq_ofNat_of_zero_le (show 0 ≤ x by omega)
        have hq : ixOf (q : Int) = q := by simp [ixOf]; omega
        by_cases hqm : pend.length ≤ q
        · have R := hid (not_keepOk HB.out HW.out HX.out (.inl (by rw [hq]; exact hqm)))
          clear hq
          go_wp2
          go_ret
          exact .inr ⟨R.out, rfl, hbe⟩
        · by_cases huq : used[q]?.getD true = true
          · have R := hid (not_keepOk HB.out HW.out HX.out (.inr (by rw [hq]; exact huq)))
            have hql : q < used.length := by rw [HW.out]; omega
            have hc : wr.cell? ⟨w.heap.size, q, none⟩ = some (.bool true) := cell_of HU.out (by simp [boolCells, List.getElem?_eq_getElem hql] at huq ⊢; exact huq)
            clear hq huq hql
            go_wp2
            go_ret
            exact .inr ⟨R.out, rfl, hbe⟩
          · have hqp : q < pend.length := by omega
            obtain ⟨p, hp⟩ : ∃ p, pend[q]? = some p := ⟨pend[q], by simp [hqp]⟩
            have hown0 := HD.out.hp
            rw [HPV.out] at hown0
            obtain ⟨g, rfl, hp1, hp2⟩ := piece_cells hown0 hp hqp
            have hp1' := (hbe.cell (World.block_lt_of_cell? _ _ hp1)).trans hp1
            have hp2' := (hbe.cell (World.block_lt_of_cell? _ _ hp2)).trans hp2
            have c2' := (hbe.cell (World.block_lt_of_cell? _ _ c2)).trans c2
            have k1 := cell_setCell_far (i := q) hp1' (b := w.heap.size) (Nat.ne_of_lt (World.block_lt_of_cell? _ _ hp1)) (.bool true)
            have k2 := cell_setCell_far (i := q) hp2' (b := w.heap.size) (Nat.ne_of_lt (World.block_lt_of_cell? _ _ hp2)) (.bool true)
            have k3 := cell_setCell_far (i := q) c2' (b := w.heap.size) (Nat.ne_of_lt (World.block_lt_of_cell? _ _ c2)) (.bool true)
            clear hp1' hp2' c2'
            obtain ⟨at_, hat⟩ : ∃ at_, at_ = p.1 := ⟨_, rfl⟩
            obtain ⟨sv, hsv⟩ : ∃ sv : ByteArray, sv = ⟨p.2.toArray⟩ := ⟨_, rfl⟩
            rw [← hat] at k1
            rw [← hsv] at k2
            have huq3 : used[q]?.getD true = false := by simpa using huq
            have hql : q < used.length := by rw [HW.out]; omega
            have hc : wr.cell? ⟨w.heap.size, q, none⟩ = some (.bool false) := cell_of HU.out (by simp [boolCells, List.getElem?_eq_getElem hql] at huq3 ⊢; exact huq3)
            have hf : wr.frozen? ⟨w.heap.size, q, none⟩ = false := free_of HU.out
            have hu2 := heap_setCell_at (i := q) HU.out (.bool true)
            have hset : (boolCells used).toArray.setIfInBounds q (.bool true) = (boolCells (used.set q true)).toArray := by simp [boolCells, List.map_set]
            rw [hset] at hu2
            have hown2 := ownsRow_setCell_below HO.out (a := ⟨w.heap.size, q, none⟩) (by simp) (.bool true)
            have HO2 := hid ((hown2.alloc (.cells #[.int .i64 (at_ : Int), .string sv] 69)).alloc (.cells #[.int .i64 (at_ : Int), .string sv] 69))
            have HU2 := hid hu2
            have HF := hid huq3
            have HQ := hid hq
            have HP := hid hp
            have HAT := hid hat
            have HSV := hid hsv
            clear hq huq huq3 hql hp hp1 hp2 hat hsv hset hu2 hown2 hown0
            go_wp2_with (at_builtin; refine wpList_append_own _ rfl _ _ 63 rfl (w.heap.size + 1) 69 i0 (.agg #[.int .i64 0, .string ⟨#[]⟩]) 2 24 Try.underlying63 hi hz0 hz1 hz2 rfl (by decide) _ _ _ rfl HO2.out ⟨wr.heap.size + 1, 0, none⟩ 1 1 [.int .i64 (at_ : Int), .string sv] rfl rfl ?c1 ?c2 ?c3 ?c4 ?c5 ?_)
            case c2 => exact ⟨rfl, rfl⟩
            case c3 => unfold maxLen; omega
            case c4 => omega
            case c5 => omega
            intro v' w1 hown' hgrow _
            have R := hid (crash_step HX.out hj HW.out HF.out HB.out HQ.out (by omega) (pieceOf_nn HQ.out HP.out HAT.out HSV.out (by omega)) HU2.out HO.out hbe hbs hown' hgrow)
            clear hown' hgrow
            go_wp2
            go_roundw
            case rel => exact R.out
            case measure => simp [intOf]; omega
    · obtain rfl : j = ks.length := by omega
      have HB := hid (show KeepOk pend.length ks by have := hub.ok; rw [hul, List.take_length] at this; exact this)
      have hown1 := hown
      rw [List.take_of_length_le (by simp)] at hown1
      obtain ⟨la, lc, rfl, hlm⟩ := ownsRow_view hown1
      unfold maxLen at hlm
      have hL : ∀ p ∈ ks.map (pieceOf pend), p.1 + p.2.length ≤ kept.length ∧ p.1 < kept.length := pieces_ok HB.out HD.out.ok
      have HO := hid hown1
      have HL := hid hL
      have hll : (ks.map (pieceOf pend)).length = ks.length := by simp
      obtain ⟨L, hLd⟩ : ∃ L, L = ks.map (pieceOf pend) := ⟨_, rfl⟩
      rw [← hLd] at HO HL hll
      have HLL := hid hll
      have HLD := hid hLd
      have HH := hid hbe
      clear hown hown1 hu hub hul hL hll hLd hmk hks hr c2
      go_wp2
      go_loopw [69] (fun i w2 => CrashRel2 w base bd bk bn pv kept now pend L (w.heap.size + 1) la lc ks.length i w2) (fun i _ => ks.length - (intOf i).toNat)
      case atStart => exact ⟨0, rfl, by omega, by simpa using HD.out.keep (F := []) (Chg.of_below HH.out) (by simp) (by simp) (by simp) (by simp), HO.out, Chg.of_below HH.out⟩
      case round =>
        obtain ⟨m, rfl, hm, D2, hown2, hch2⟩ := hrel
        obtain ⟨K, hK⟩ : ∃ K, K = (L.take m).foldl lay kept := ⟨_, rfl⟩
        rw [← hK] at D2
        have c0 := cell_of (i := 0) D2.hd rfl
        have c1 := cell_of (i := 1) D2.hd rfl
        have c2 := cell_of (i := 2) D2.hd rfl
        have nkd : bd ≠ bk := heap_ne D2.hd D2.hk (by decide)
        have nnd : bd ≠ bn := heap_ne D2.hd D2.hn (by decide)
        have hKl : K.length = kept.length := by rw [hK]; exact lays_length (fun p hp => (HL.out p (List.mem_of_mem_take hp)).1)
        have hhi := HD.out.hi
        have hbd := heap_lt D2.hd
        by_cases hmo : m < ks.length
        · obtain ⟨p, hp⟩ : ∃ p, L[m]? = some p := ⟨L[m]'(by rw [HLL.out]; exact hmo), by simp⟩
          obtain ⟨hp1, hp2⟩ := HL.out p (List.mem_of_getElem? hp)
          obtain ⟨g, rfl, q1, q2⟩ := piece_cells hown2 hp hmo
          obtain ⟨at_, hat⟩ : ∃ at_, at_ = p.1 := ⟨_, rfl⟩
          obtain ⟨sv, hsv⟩ : ∃ sv : ByteArray, sv = ⟨p.2.toArray⟩ := ⟨_, rfl⟩
          rw [← hat] at q1 hp1 hp2
          rw [← hsv] at q2
          have a1 : at_ < K.length := by omega
          have a2 : ¬ K.length = at_ := by omega
          have a3 : (at_ : Int) ≤ (K.length : Int) := by omega
          have a4 : K.length ≤ 65536 := by omega
          have hcp := copy_str (w := (wr.alloc (.cells #[.int .i64 (at_ : Int), .string sv] 69)).drew) (heap_alloc_keep D2.hk _) hsv (show at_ + p.2.length ≤ K.length by omega)
          have fin := crash_step2 (at_ := at_) (sv := sv) hK D2 hown2 hch2 hp hat hmo (by omega)
          obtain ⟨w3, hw3⟩ : ∃ w3, w3 = ((wr.alloc (.cells #[.int .i64 (at_ : Int), .string sv] 69)).drew).setRow bk (byteCells (lay K (at_, p.2))).toArray := ⟨_, rfl⟩
          rw [← hw3] at hcp fin
          have FIN := hid fin
          clear hw3 fin hsv hat hp D2 hown2 hch2 hKl hK hp1 hp2
          go_wp2
          go_region
          go_wp2
          go_roundw
          case rel => exact FIN.out
          case measure => simp [intOf]; omega
        · obtain rfl : m = ks.length := by omega
          rw [List.take_of_length_le (by rw [HLL.out]; exact Nat.le_refl _)] at hK
          have hnow : now.length = K.length := D2.len
          have hcp := copy_rows (w := wr.drew) D2.hn D2.hk hnow rfl
          have fin := crash_end D2 hch2
          obtain ⟨w3, hw3⟩ : ∃ w3, w3 = wr.drew.setRow bn (byteCells K).toArray := ⟨_, rfl⟩
          have e3 := crash_end_cell D2
          have f3 := crash_end_free D2
          rw [← hw3] at hcp fin e3 f3
          rw [hK, HLD.out] at fin
          have FIN := hid fin
          clear hw3 fin D2 hown2 hch2 hKl hK hnow
          go_wp2
          go_region
          go_wp2
          go_ret
          exact .inl ⟨HB.out, rfl, FIN.out⟩

end Go.Proofs.Ytknmebknkncmoaa
