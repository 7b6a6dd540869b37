/- Contract of Keep: whatever the raw numbers, what it hands back names pieces, each once at most. -/
import Derived.Test.YtknmebknkncmoaaDkSync
namespace Go.Proofs.Ytknmebknkncmoaa
open Go.RowKit Go.Lib

/-- which piece a number of keep speaks of -/
def ixOf (k : Int) : Nat := (if k < 0 then -1 - k else k).toNat
/-- a list of numbers of pieces, each once at most -/
structure KeepOk (many : Nat) (ks : List Int) : Prop where
  lt : ∀ k ∈ ks, ixOf k < many
  nodup : (ks.map ixOf).Nodup
def boolCells (l : List Bool) : List Value := l.map Value.bool

/-- what has been used is what is in the list -/
structure UsedBy (used : List Bool) (ks : List Int) : Prop where
  ok : KeepOk used.length ks
  iff : ∀ n, n < used.length → (used[n]?.getD true = true ↔ n ∈ ks.map ixOf)

theorem usedBy_nil (m : Nat) : UsedBy (List.replicate m false) [] :=
  ⟨⟨by simp, by simp⟩, fun n hn => by simp at hn; simp [hn]⟩

theorem usedBy_snoc {used : List Bool} {ks : List Int} (h : UsedBy used ks) {k : Int} (hk : ixOf k < used.length) (hu : used[ixOf k]?.getD true = false) : UsedBy (used.set (ixOf k) true) (ks ++ [k]) := by
  have hn : ixOf k ∉ ks.map ixOf := fun hm => by rw [(h.iff _ hk).2 hm] at hu; cases hu
  refine ⟨⟨?_, ?_⟩, ?_⟩
  · intro x hx
    simp only [List.mem_append, List.mem_singleton, List.length_set] at hx ⊢
    rcases hx with hx | rfl
    · exact h.ok.lt x hx
    · exact hk
  · rw [List.map_append, List.nodup_append]
    refine ⟨h.ok.nodup, by simp, ?_⟩
    intro a ha b hb
    simp only [List.map_cons, List.map_nil, List.mem_singleton] at hb
    subst hb
    rintro rfl
    exact hn ha
  · intro n hlt
    rw [List.length_set] at hlt
    rw [List.map_append, List.mem_append, List.map_cons, List.map_nil, List.mem_singleton]
    by_cases e : n = ixOf k
    · subst e; simp [hk]
    · rw [List.getElem?_set_ne (Ne.symm e), h.iff n hlt]
      simp [e]

theorem pick_nat (c n : Int) (w : World) (h1 : -9223372036854775808 ≤ c) (h2 : c ≤ 9223372036854775807) (h3 : 1 ≤ n) (h4 : n ≤ 9223372036854775807) :
    Calls Try.prog 23 #[.int .i64 c, .int .i64 n] w fun e w' => ∃ k : Nat, (k : Int) < n ∧ (k : Int) = pk c n ∧ e = .returned (.int .i64 k) ∧ w = w' :=
  (pick_any c n w h1 h2 h3 h4).mono fun e w' ⟨he, hw⟩ => by
    have hr := pk_range c n (by omega)
    exact ⟨(pk c n).toNat, by omega, by omega, by rw [he, Int.toNat_of_nonneg hr.1], hw⟩

theorem Try.info4 : (Try.prog.info? 4).map (fun i => (i.zero, i.size, i.bytes)) = some (some (.bool false), 1, 1) := by kernel_rfl
theorem Try.info3 : (Try.prog.info? 3).map (fun i => (i.zero, i.size, i.bytes)) = some (some (.int .i64 0), 1, 8) := by kernel_rfl
def nones (n : Nat) : List Bool := List.replicate n false
theorem made_nones (n : Nat) : madeCells #[Value.bool false] n = (boolCells (nones n)).toArray := by
  apply Array.ext'
  rw [toList_madeCells_one]
  simp [boolCells, nones]
theorem make_bools (n : Nat) (h : n ≤ 281474976710656) (u : World) : (Instr.makeSlice 67 (.int .i64 (n : Int)) (.int .i64 (n : Int))).run Try.prog u =
    .ok (.slice (some ⟨u.heap.size, 0, none⟩) n n) (u.alloc (.cells (boolCells (nones n)).toArray 4)) := by
  obtain ⟨i0, hi, hz0, hz1, hz2⟩ := info_parts Try.info4
  have h := run_make (P := Try.prog) u 67 4 i0 (.bool false) Try.underlying67 hi hz0 .i64 .i64 (n : Int) (n : Int) (by omega) (Int.le_refl _) (by rw [hz2]; omega) (by omega)
  simpa [hz1, Value.cells, made_nones] using h

/-- a slice of ints in memory: empty, or its cells lie there -/
def IntsAt (w : World) (v : Value) (xs : List Int) : Prop :=
  (xs = [] ∧ ∃ ao c, v = .slice ao 0 c) ∨ ∃ b off c, v = .slice (some ⟨b, off, none⟩) xs.length c ∧ ∀ j x, xs[j]? = some x → w.cell? ⟨b, off + j, none⟩ = some (.int .i64 x)

def KeepPost (many : Nat) (w : World) (e : Ending) (w' : World) : Prop :=
  ∃ (v : Value) (ks : List Int), e = .returned v ∧ w'.ownsRow w.heap.size 3 1 v ks.length (ks.map (Value.int .i64)) ∧ KeepOk many ks ∧ ks.length ≤ 20 ∧ Below w.heap.size w w'

def KeepRel (w : World) (bu many : Nat) (n : Nat) (o i : Value) (wr : World) : Prop :=
  ∃ (j : Nat) (used : List Bool) (out : List Int), i = .int .i64 j ∧ j ≤ n ∧ j ≤ 20 ∧ used.length = many ∧ wr.heap[bu]? = some (.cells (boolCells used).toArray 4 (0, 0)) ∧
    wr.ownsRow (bu + 1) 3 1 o out.length (out.map (Value.int .i64)) ∧ UsedBy used out ∧ out.length ≤ j ∧ Below w.heap.size w wr ∧ bu < wr.heap.size

theorem cell_one_new2 {w : World} {n : Nat} (hn : w.heap.size = n) (x : Value) (t : TypeId) : ∀ j u, [x][j]? = some u → (w.alloc (.cells #[x] t)).cell? ((⟨n, 0, none⟩ : Addr).add j) = some u := by
  subst hn
  exact cell_one_new w x t
theorem ownsRow_lower {w : World} {base base' : Nat} {e : TypeId} {size : Nat} {v : Value} {n : Nat} {xs : List Value} (h : w.ownsRow base e size v n xs) (hb : base' ≤ base) : w.ownsRow base' e size v n xs := by
  refine ⟨h.1, ?_⟩
  rcases h.2 with h0 | ⟨g, cap, cur, rfl, hg, rest⟩
  · exact .inl h0
  · exact .inr ⟨g, cap, cur, rfl, by omega, rest⟩
theorem keep_step {w wr w1 : World} {many n j : Nat} {used : List Bool} {out : List Int} {o v' : Value} {x : Int} {q : Nat} (hj : j < n) (hj20 : j < 20) (hul : used.length = many) (hq : q < many)
    (hfree : used[q]?.getD true = false) (hub : UsedBy used out) (hol : out.length ≤ j) (hix : ixOf x = q)
    (hs : (wr.setCell ⟨w.heap.size, q, none⟩ (.bool true)).heap[w.heap.size]? = some (.cells (boolCells (used.set q true)).toArray 4 (0, 0)))
    (hown : wr.ownsRow (w.heap.size + 1) 3 1 o out.length (out.map (Value.int .i64)))
    (hbe2 : Below w.heap.size w (wr.setCell ⟨w.heap.size, q, none⟩ (.bool true))) (hbs : w.heap.size < wr.heap.size)
    (hown' : w1.ownsRow (w.heap.size + 1) 3 1 v' (out.length + 1) (out.map (Value.int .i64) ++ [.int .i64 x]))
    (hgrow : ((wr.setCell ⟨w.heap.size, q, none⟩ (.bool true)).alloc (.cells #[.int .i64 x] 3)).grownBy w1 o.ownBlock) :
    KeepRel w w.heap.size many n v' (.int .i64 ((j : Int) + 1)) w1 := by
  have hne : some w.heap.size ≠ o.ownBlock := fun e => by have := hown.lt _ e.symm; omega
  have hsz : ((wr.setCell ⟨w.heap.size, q, none⟩ (.bool true)).alloc (.cells #[.int .i64 x] 3)).heap.size = wr.heap.size + 1 := by simp
  refine ⟨j + 1, used.set q true, out ++ [x], by simp, by omega, by omega, by simpa using hul, ?_, by simpa using hown', ?_, by simp; omega, ?_, ?_⟩
  · exact (hgrow.block w.heap.size (by rw [hsz]; omega) hne).trans (heap_alloc_keep hs _)
  · subst hix; exact usedBy_snoc hub (by rw [hul]; exact hq) hfree
  · exact (hbe2.alloc (by simp; omega) _).grown hgrow (by rw [hsz]; omega) (fun k e => by have := hown.lt _ e; omega)
  · have := hgrow.size; rw [hsz] at this; omega

set_option maxHeartbeats 1000000 in
theorem keep_core (w : World) (b off c : Nat) (ls : List Int) (many : Nat) (hls : ∀ j x, ls[j]? = some x → w.cell? ⟨b, off + j, none⟩ = some (.int .i64 x))
    (hr : ∀ x ∈ ls, -9223372036854775808 ≤ x ∧ x ≤ 9223372036854775807) (hlen : ls.length ≤ 9223372036854775807) (hm : many ≤ 1000000) :
    Calls Try.prog 22 #[.slice (some ⟨b, off, none⟩) ls.length c, .int .i64 many] w (KeepPost many w) := by
  have hmk := make_bools many (by omega)
  obtain ⟨i0, hi, hz0, hz1, hz2⟩ := info_parts Try.info3
  go_enter Try.func22, Try.ntmps22
  go_wp2
  go_loopw [5, 7] (fun o i wr => KeepRel w w.heap.size many ls.length o i wr) (fun _ i _ => ls.length - (intOf i).toNat)
  case atStart => exact ⟨0, nones many, [], rfl, by omega, by omega, by simp [nones], heap_alloc_new w _, World.ownsRow_nil _ _ _ _, usedBy_nil many, by simp, (Below.refl _ w).alloc (Nat.le_refl _) _, by simp⟩
  case round =>
    obtain ⟨j, used, out, rfl, hj, hj20, hul, hu, hown, hub, hol, hbe, hbs⟩ := hrel
    by_cases hgo : j < ls.length ∧ j < 20 ∧ 0 < many
    · obtain ⟨g1, g2, g3⟩ := hgo
      obtain ⟨x, hx⟩ : ∃ x, ls[j]? = some x := ⟨ls[j], by simp [g1]⟩
      obtain ⟨r1, r2⟩ := hr x (List.mem_of_getElem? hx)
      have hcx : wr.cell? ⟨b, off + j, none⟩ = some (.int .i64 x) := (hbe.cell (World.block_lt_of_cell? _ _ (hls j x hx))).trans (hls j x hx)
      have HX := hid hx
      have HU := hid hu
      have HB := hid hub
      have HW := hid hul
      have HO := hid hown
      clear hx hu hub hls hul hown
      go_wp2_with fail
      refine (pick_nat x _ _ r1 r2 (by omega) (by omega)).mono ?_
      rintro e w' ⟨k, hk, hkp, rfl, rfl⟩
      have hk2 : k / 2 < many := by omega
      clear hkp
      have hU := HU.out
      have hlen2 : k / 2 < used.length := by rw [HW.out]; exact hk2
      by_cases hub2 : used[k / 2]?.getD true = true
      · have hc : wr.cell? ⟨w.heap.size, k / 2, none⟩ = some (.bool true) := cell_of hU (by simp [boolCells, List.getElem?_eq_getElem hlen2] at hub2 ⊢; exact hub2)
        clear hU hlen2
        go_wp2
        go_roundw
        case rel => exact ⟨j + 1, used, out, by go_num, by omega, by omega, HW.out, HU.out, HO.out, HB.out, by omega, hbe, hbs⟩
        case measure => simp [intOf]; omega
      · have hub3 : used[k / 2]?.getD true = false := by simpa using hub2
        have hc : wr.cell? ⟨w.heap.size, k / 2, none⟩ = some (.bool false) := cell_of hU (by simp [boolCells, List.getElem?_eq_getElem hlen2] at hub3 ⊢; exact hub3)
        have hf : wr.frozen? ⟨w.heap.size, k / 2, none⟩ = false := free_of hU
        have hown2 := ownsRow_setCell_below HO.out (a := ⟨w.heap.size, k / 2, none⟩) (by simp) (.bool true)
        have hu2 := heap_setCell_at (i := k / 2) hU (.bool true)
        have hbe2 := hbe.setCell (p := ⟨w.heap.size, k / 2, none⟩) (Nat.le_refl _) (.bool true)
        have hset : (boolCells used).toArray.setIfInBounds (k / 2) (.bool true) = (boolCells (used.set (k / 2) true)).toArray := by simp [boolCells, List.map_set]
        rw [hset] at hu2
        have HS := hid hu2
        have HB3 := hid hub3
        have HO2 := hid (hown2.alloc (.cells #[.int .i64 (-1 - (k : Int) / 2)] 3))
        have HO3 := hid (hown2.alloc (.cells #[.int .i64 ((k : Int) / 2)] 3))
        have HX1 := hid (show ixOf (-1 - (k : Int) / 2) = k / 2 by unfold ixOf; rw [if_pos (by omega)]; omega)
        have HX2 := hid (show ixOf ((k : Int) / 2) = k / 2 by unfold ixOf; rw [if_neg (by omega)]; omega)
        clear hub2 hub3 hU hlen2 hset hown2 hu2
        by_cases hk3 : k % 2 = 1
        · have he : ((k : Int) % 2 == 1) = true := by rw [beq_iff_eq]; omega
          have HK := hid hk3
          clear hk3
          go_wp2_with (at_builtin; refine wpList_append_own _ rfl _ _ 29 rfl (w.heap.size + 1) 3 i0 (.int .i64 0) 1 8 Try.underlying29 hi hz0 hz1 hz2 rfl (by decide) _ _ _ rfl HO2.out ⟨wr.heap.size, 0, none⟩ 1 1 [.int .i64 (-1 - (k : Int) / 2)] rfl rfl ?c1 ?c2 ?c3 ?c4 ?c5 ?_)
          case c1 => exact cell_one_new2 (by simp) _ _
          case c2 => intro u hu; simp at hu; subst hu; rfl
          case c3 => unfold maxLen; omega
          case c4 => omega
          case c5 => simp; omega
          intro v' w1 hown' hgrow _
          have R := hid (keep_step g1 g2 HW.out hk2 HB3.out HB.out hol HX1.out HS.out HO.out hbe2 hbs hown' hgrow)
          clear hown' hgrow
          go_wp2
          go_roundw
          case rel => exact R.out
          case measure => simp [intOf]; omega
        · have he : ((k : Int) % 2 == 1) = false := by rw [beq_eq_false_iff_ne]; omega
          have HK := hid hk3
          clear hk3
          go_wp2_with (at_builtin; refine wpList_append_own _ rfl _ _ 29 rfl (w.heap.size + 1) 3 i0 (.int .i64 0) 1 8 Try.underlying29 hi hz0 hz1 hz2 rfl (by decide) _ _ _ rfl HO3.out ⟨wr.heap.size, 0, none⟩ 1 1 [.int .i64 ((k : Int) / 2)] rfl rfl ?d1 ?d2 ?d3 ?d4 ?d5 ?_)
          case d1 => exact cell_one_new2 (by simp) _ _
          case d2 => intro u hu; simp at hu; subst hu; rfl
          case d3 => unfold maxLen; omega
          case d4 => omega
          case d5 => simp; omega
          intro v' w1 hown' hgrow _
          have R := hid (keep_step g1 g2 HW.out hk2 HB3.out HB.out hol HX2.out HS.out HO.out hbe2 hbs hown' hgrow)
          clear hown' hgrow
          go_wp2
          go_roundw
          case rel => exact R.out
          case measure => simp [intOf]; omega
    · have HU := hid hu
      have HB := hid hub
      have HW := hid hul
      have HO := hid hown
      clear hu hub hls hul hown
      go_wp2
      all_goals go_ret
      all_goals exact ⟨_, out, rfl, ownsRow_lower HO.out (by omega), by have := HB.out.ok; rw [HW.out] at this; exact this, by omega, hbe⟩

set_option maxHeartbeats 1000000 in
theorem keep_empty (w : World) (ao : Option Addr) (c : Nat) (many : Nat) (hm : many ≤ 1000000) :
    Calls Try.prog 22 #[.slice ao 0 c, .int .i64 many] w fun e w' => e = .returned (.slice none 0 0) ∧ Below w.heap.size w w' := by
  have hmk := make_bools many (by omega)
  go_enter Try.func22, Try.ntmps22
  go_wp2
  go_loopw [5, 7] (fun o i wr => o = .slice none 0 0 ∧ i = .int .i64 0 ∧ Below w.heap.size w wr) (fun _ i _ => 0)
  case atStart => exact ⟨rfl, rfl, (Below.refl _ w).alloc (Nat.le_refl _) _⟩
  case round =>
    obtain ⟨rfl, rfl, hbe⟩ := hrel
    go_wp2
    go_ret
    exact ⟨rfl, hbe⟩

/-- Keep, whatever the raw numbers. -/
theorem keep_any (w : World) (v : Value) (ls : List Int) (many : Nat) (hls : IntsAt w v ls) (hr : ∀ x ∈ ls, -9223372036854775808 ≤ x ∧ x ≤ 9223372036854775807) (hlen : ls.length ≤ 9223372036854775807) (hm : many ≤ 1000000) :
    Calls Try.prog 22 #[v, .int .i64 many] w (KeepPost many w) := by
  rcases hls with ⟨rfl, ao, c, rfl⟩ | ⟨b, off, c, rfl, h⟩
  · exact (keep_empty w ao c many hm).mono fun e w' ⟨he, hb⟩ => ⟨_, [], he, World.ownsRow_nil _ _ _ _, ⟨by simp, by simp⟩, by simp, hb⟩
  · exact keep_core w b off c ls many h hr hlen hm

end Go.Proofs.Ytknmebknkncmoaa
