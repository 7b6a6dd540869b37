/- Contract of the law's own IslandsOf: a right graph out of raw lists of bytes. -/
import Derived.Test.YtagfgbmaibadjaaIsFam
import Derived.Test.YtagfgbmaibadjaaIsTab
import Derived.Test.YtagfgbmaibadjaaIsMake
import Derived.Outline
import Derived.Test.YtagfgbmaibadjaaIsRows
namespace Go.Proofs.Ytagfgbmaibadjaa
open Go.RowKit Go.Lib

/-- a slice of bytes in memory; a slice of such -/
def BytesIn (w : World) (v : Value) (xs : List Nat) : Prop :=
  ∃ ao c b off, v = .slice ao xs.length c ∧ xs.length ≤ 9223372036854775807 ∧ ∀ (j x : Nat), xs[j]? = some x → ao = some ⟨b, off, none⟩ ∧ w.cell? ⟨b, off + j, none⟩ = some (.int .u8 (x : Int)) ∧ x ≤ 255
def RawIn (w : World) (v : Value) (L : List (List Nat)) : Prop :=
  ∃ ao c b off, v = .slice ao L.length c ∧ L.length ≤ 9223372036854775807 ∧ ∀ i l, L[i]? = some l → ao = some ⟨b, off, none⟩ ∧ ∃ lv, w.cell? ⟨b, off + i, none⟩ = some lv ∧ BytesIn w lv l

def nodesOf (L : List (List Nat)) : Nat := min L.length 60
def rowOf (L : List (List Nat)) (i : Nat) : List Nat := (((L[i]?).getD []).take 8).map (· % nodesOf L)
def ofG (L : List (List Nat)) : Gr := (List.range (nodesOf L)).map (rowOf L)
theorem ofG_length (L : List (List Nat)) : (ofG L).length = nodesOf L := by simp [ofG]
theorem ofG_edges (L : List (List Nat)) (i : Nat) : edges (ofG L) i = if i < nodesOf L then rowOf L i else [] := by
  unfold edges ofG
  by_cases h : i < nodesOf L <;> simp [h]
theorem rowOf_length (L : List (List Nat)) (i : Nat) : (rowOf L i).length ≤ 8 := by
  unfold rowOf
  rw [List.length_map, List.length_take]
  omega
theorem rowOf_lt {L : List (List Nat)} {i j : Nat} (h : j ∈ rowOf L i) (hn : 0 < nodesOf L) : j < nodesOf L := by
  unfold rowOf at h
  obtain ⟨x, _, rfl⟩ := List.mem_map.1 h
  exact Nat.mod_lt _ hn
theorem rowOf_step {L : List (List Nat)} {i k x : Nat} {l : List Nat} (hl : L[i]? = some l) (hk : l[k]? = some x) (h8 : k < 8) : (rowOf L i).take (k + 1) = (rowOf L i).take k ++ [x % nodesOf L] := by
  have e : (rowOf L i)[k]? = some (x % nodesOf L) := by
    unfold rowOf
    rw [hl, Option.getD_some, List.getElem?_map, List.getElem?_take, if_pos h8, hk]
    rfl
  rw [List.take_add_one, e]
  rfl
theorem rowOf_all {L : List (List Nat)} {i k : Nat} {l : List Nat} (hl : L[i]? = some l) (hk : l.length ≤ k ∨ 8 ≤ k) : (rowOf L i).take k = rowOf L i := by
  refine List.take_of_length_le ?_
  unfold rowOf
  rw [hl, Option.getD_some, List.length_map, List.length_take]
  omega

theorem raw_cell {w : World} {ao : Option Addr} {c n : Nat} {L : List (List Nat)} (h : RawIn w (.slice ao n c) L) {i : Nat} {l : List Nat} (hl : L[i]? = some l) :
    ∃ b off lo lc, ao = some ⟨b, off, none⟩ ∧ w.cell? ⟨b, off + i, none⟩ = some (.slice lo l.length lc) ∧ l.length ≤ 9223372036854775807 ∧
      ∀ (j x : Nat), l[j]? = some x → ∃ b2 o2, lo = some ⟨b2, o2, none⟩ ∧ w.cell? ⟨b2, o2 + j, none⟩ = some (.int .u8 (x : Int)) ∧ x ≤ 255 := by
  obtain ⟨ao', c', b, off, h1, _, h3⟩ := h
  injection h1 with h1 _ _
  subst h1
  obtain ⟨rfl, lv, h4, lo, lc, b2, o2, rfl, h6, h7⟩ := h3 i l hl
  exact ⟨b, off, lo, lc, rfl, h4, h6, fun j x hx => ⟨b2, o2, h7 j x hx⟩⟩
theorem RawIn.below {w w' : World} {v : Value} {L : List (List Nat)} (h : RawIn w v L) (hb : Below w.heap.size w w') : RawIn w' v L := by
  obtain ⟨ao, c, b, off, h1, h2, h3⟩ := h
  refine ⟨ao, c, b, off, h1, h2, fun i l hl => ⟨(h3 i l hl).1, ?_⟩⟩
  obtain ⟨lv, h4, ao2, c2, b2, o2, e1, e2, e3⟩ := (h3 i l hl).2
  exact ⟨lv, (hb.cell (World.block_lt_of_cell? _ _ h4)).trans h4, ao2, c2, b2, o2, e1, e2, fun j x hx => ⟨(e3 j x hx).1, (hb.cell (World.block_lt_of_cell? _ _ (e3 j x hx).2.1)).trans (e3 j x hx).2.1, (e3 j x hx).2.2⟩⟩
theorem raw_view {w : World} {v : Value} {L : List (List Nat)} (h : RawIn w v L) : ∃ ao c, v = .slice ao L.length c ∧ L.length ≤ 9223372036854775807 := by
  obtain ⟨ao, c, _, _, h1, h2, _⟩ := h
  exact ⟨ao, c, h1, h2⟩

/-- a row of rows, each its own: read as a graph -/
theorem rows_of {w : World} {b B n : Nat} {vs : Nat → Value} {g : Gr} {F : List Nat} {xs : Nat → List Nat} (hn : n = g.length) (hr : RowV w b n vs) (hv : Rows3 w B n vs xs F) (he : ∀ i, i < n → xs i = edges g i) (hn2 : n ≤ 1000000) (hs : ∀ i, i < n → ∀ x ∈ edges g i, x ≤ 1000000) : RowsT w (.slice (some ⟨b, 0, none⟩) n n) (castG g) := by
  subst hn
  refine ⟨_, g.length, b, 0, by rw [castG_length], by rw [castG_length]; omega, fun i l hl => ⟨rfl, ?_⟩⟩
  have hil := (List.getElem?_eq_some_iff.1 hl).1
  rw [castG_length] at hil
  rw [castG_get hil] at hl
  have hl := Option.some.inj hl
  subst hl
  refine ⟨vs i, by rw [Nat.zero_add]; exact hr.get hil, ?_⟩
  have h2 := hv.row i hil
  rw [he i hil] at h2
  refine owns_intsT (B := B) ?_ (fun x hx => ?_)
  · rw [List.length_map, List.map_map]
    exact h2
  · obtain ⟨y, hy, rfl⟩ := List.mem_map.1 hx
    have := hs i hil y hy
    omega

/-- one row longer by one: the row of rows is written behind it -/
theorem rows_app {w : World} {b B n i : Nat} {vs : Nat → Value} {xs : Nat → List Nat} (hr : RowV w b n vs) (hv : Rows3 w B n vs xs []) (hi : i < n) (hB : B ≤ w.heap.size) (hb : B ≤ b) (hl : (xs i).length ≤ 1000000) (x : Nat) :
    ∃ a c w2, (Builtin.append_ #[24, 24] 24 #[vs i, .slice (some ⟨w.heap.size, 0, none⟩) 1 1]).run Try.prog (w.alloc (.cells #[.int .i64 (x : Int)] 3)) = .ok (.slice a ((xs i).length + 1) c) w2 ∧
      RowV w2 b n vs ∧ Below B w w2 ∧ RowV (w2.setCell ⟨b, i, none⟩ (.slice a ((xs i).length + 1) c)) b n (upd vs i (.slice a ((xs i).length + 1) c)) ∧
      Rows3 (w2.setCell ⟨b, i, none⟩ (.slice a ((xs i).length + 1) c)) B n (upd vs i (.slice a ((xs i).length + 1) c)) (upd xs i (xs i ++ [x])) [] ∧ Below B w (w2.setCell ⟨b, i, none⟩ (.slice a ((xs i).length + 1) c)) := by
  obtain ⟨a, c, w2, h1, h2, h3⟩ := hv.app hi hB hl (by simp) x
  have far : ∀ y ∈ own (vs i), y ≠ b := by
    intro y hy
    simp only [own, Option.mem_toList] at hy
    obtain ⟨cur, hc⟩ := owns_cells (hv.row i hi) hy
    exact heap_ne hc hr (by decide)
  have hr2 := hr.chg h3 (fun hm => far b hm rfl)
  have hbl : Below B w w2 := h3.below (fun y hy => by
    simp only [own, Option.mem_toList] at hy
    exact ((hv.row i hi).lt y hy).1) hB
  have ch : Chg [b] w2 (w2.setCell ⟨b, i, none⟩ (.slice a ((xs i).length + 1) c)) := (Chg.refl _ w2).setCell (by simp) _
  refine ⟨a, c, w2, h1, hr2, hbl, hr2.set _, h2.chg ch (fun y hy => .inr (fun p hp e => ?_)), hbl.setCell hb _⟩
  simp only [List.mem_singleton] at hy
  subst hy
  obtain ⟨cur, hc⟩ := owns_cells (h2.row p hp) e
  exact heap_ne hc hr2 (by decide) rfl

def partRows (L : List (List Nat)) (i k p : Nat) : List Nat := if p < i then rowOf L p else if p = i then (rowOf L i).take k else []
theorem part_step {L : List (List Nat)} {i k m : Nat} (h : (rowOf L i).take (k + 1) = (rowOf L i).take k ++ [m]) : upd (partRows L i k) i (partRows L i k i ++ [m]) = partRows L i (k + 1) := by
  funext p
  unfold upd
  by_cases hp : p = i
  · subst hp
    simp [partRows, h]
  · simp [partRows, hp]
theorem part_done {L : List (List Nat)} {i k : Nat} (h : (rowOf L i).take k = rowOf L i) : partRows L i k = partRows L (i + 1) 0 := by
  funext p
  unfold partRows
  by_cases h1 : p < i
  · rw [if_pos h1, if_pos (by omega)]
  · by_cases h2 : p = i
    · subst h2
      rw [if_neg h1, if_pos rfl, if_pos (by omega), h]
    · rw [if_neg h1, if_neg h2, if_neg (by omega)]
      split <;> simp
def OfRel (w : World) (L : List (List Nat)) (n : Nat) (iv : Value) (wr : World) : Prop :=
  ∃ (i : Nat) (vs : Nat → Value), iv = .int .i64 (i : Int) ∧ i ≤ n ∧ RowV wr w.heap.size n vs ∧ Rows3 wr w.heap.size n vs (partRows L i 0) [] ∧ Below w.heap.size w wr
def OfIn (w : World) (L : List (List Nat)) (n i : Nat) (_iw kv : Value) (wr : World) : Prop :=
  ∃ (k : Nat) (vs : Nat → Value), kv = .int .i64 (k : Int) ∧ k ≤ ((L[i]?).getD []).length ∧ k ≤ 8 ∧ RowV wr w.heap.size n vs ∧ Rows3 wr w.heap.size n vs (partRows L i k) [] ∧ Below w.heap.size w wr
def OfEnd (w : World) (L : List (List Nat)) (e : Ending) (w' : World) : Prop := ∃ b n, n = nodesOf L ∧ e = .returned (.slice (some ⟨b, 0, none⟩) n n) ∧ RowsT w' (.slice (some ⟨b, 0, none⟩) n n) (castG (ofG L)) ∧ Below w.heap.size w w'

noncomputable def rest12 : Code := sndSeq (sndSeq (Try.f12.body.getD .skip))

set_option maxHeartbeats 1000000 in
theorem of_head {w : World} {ao : Option Addr} {ll c n : Nat} {cd : Code} {Q : Exit → Act → World → Prop} (v1 v2 v3 v4 v5 v6 v7 v8 v9 v10 v11 v12 v13 v14 v15 v16 v17 v18 v19 v20 v21 v22 v23 v24 v25 v26 v27 v28 v29 v30 v31 v32 v33 v34 v35 v36 v37 v38 v39 v40 v41 v42 v43 v44 v45 v46 v47 v48 v49 : Value) (hn : n = min ll 60) (hll : ll ≤ 9223372036854775807)
    (hend : ∀ v1 v4 v5 v6 v7 v8 v9 v10 v11 v12 v13 v14 v15 v16 v17 v18 v19 v20 v21 v22 v23 v24 v25 v26 v27 v28 v29 v30 v31 v32 v33 v34 v35 v36 v37 v38 v39 v40 v41 v42 v43 v44 v45 v46 v47 v48 v49 : Value, Code.wp Try.prog cd Q { tmps := #[.slice ao ll c, v1, .slice none 0 0, .int .i64 (n : Int), v4, v5, v6, v7, v8, v9, v10, v11, v12, v13, v14, v15, v16, v17, v18, v19, v20, v21, v22, v23, v24, v25, v26, v27, v28, v29, v30, v31, v32, v33, v34, v35, v36, v37, v38, v39, v40, v41, v42, v43, v44, v45, v46, v47, v48, v49], defers := [] } w) : Code.wp Try.prog (.seq (fstSeq (Try.f12.body.getD .skip)) (.seq (fstSeq (sndSeq (Try.f12.body.getD .skip))) cd)) Q { tmps := #[.slice ao ll c, v1, v2, v3, v4, v5, v6, v7, v8, v9, v10, v11, v12, v13, v14, v15, v16, v17, v18, v19, v20, v21, v22, v23, v24, v25, v26, v27, v28, v29, v30, v31, v32, v33, v34, v35, v36, v37, v38, v39, v40, v41, v42, v43, v44, v45, v46, v47, v48, v49], defers := [] } w := by
  have HE := hid hend
  have HN := hid hn
  clear hend hn
  simp only [fstSeq, sndSeq, Try.f12, Option.getD_some]
  go_wp2_with fail
  all_goals (
    have h1 := HN.out
    first
      | (obtain rfl : n = ll := by omega
         refine HE.out _ _ _ _ _ _ _ _ _ _ _ _ _ _ _ _ _ _ _ _ _ _ _ _ _ _ _ _ _ _ _ _ _ _ _ _ _ _ _ _ _ _ _ _ _ _ _)
      | (obtain rfl : n = 60 := by omega
         refine HE.out _ _ _ _ _ _ _ _ _ _ _ _ _ _ _ _ _ _ _ _ _ _ _ _ _ _ _ _ _ _ _ _ _ _ _ _ _ _ _ _ _ _ _ _ _ _ _))

set_option maxRecDepth 20000 in
set_option maxHeartbeats 4000000 in
theorem of_rest {w : World} {ao : Option Addr} {ll c n : Nat} (v1 v4 v5 v6 v7 v8 v9 v10 v11 v12 v13 v14 v15 v16 v17 v18 v19 v20 v21 v22 v23 v24 v25 v26 v27 v28 v29 v30 v31 v32 v33 v34 v35 v36 v37 v38 v39 v40 v41 v42 v43 v44 v45 v46 v47 v48 v49 : Value) (L : List (List Nat)) (hlL : ll = L.length) (h : RawIn w (.slice ao ll c) L) (hn : n = min ll 60) (hll : ll ≤ 9223372036854775807) :
    Code.wp Try.prog rest12 (bodyPost Try.prog Try.f12 (OfEnd w L)) { tmps := #[.slice ao ll c, v1, .slice none 0 0, .int .i64 (n : Int), v4, v5, v6, v7, v8, v9, v10, v11, v12, v13, v14, v15, v16, v17, v18, v19, v20, v21, v22, v23, v24, v25, v26, v27, v28, v29, v30, v31, v32, v33, v34, v35, v36, v37, v38, v39, v40, v41, v42, v43, v44, v45, v46, v47, v48, v49], defers := [] } w := by
  have hn60 : n ≤ 60 := by omega
  have HNN := hid (show n = nodesOf L by rw [hn, hlL]; rfl)
  have HLL := hid hlL
  have hnl : n ≤ ll := by omega
  have hmk := make_rows n (by omega)
  have H := hid h
  clear h hlL hn
  simp only [rest12, sndSeq, Try.f12, Option.getD_some]
  go_wp2_with fail
  have r0 : RowV (w.alloc (.cells (List.replicate n (Value.slice none 0 0)).toArray 24)) w.heap.size n (fun _ => .slice none 0 0) := by
    have e := heap_alloc_new w (.cells (List.replicate n (Value.slice none 0 0)).toArray 24)
    unfold RowV
    rw [e, List.map_const']; simp
  have R0 := hid (show OfRel w L n (.int .i64 0) (w.alloc (.cells (List.replicate n (Value.slice none 0 0)).toArray 24)) from
    ⟨0, _, rfl, by omega, r0, ⟨fun p _ => by simpa [partRows, natCells] using World.ownsRow_nil _ _ _ _, fun p _ b hb => by simp [Value.ownBlock] at hb, fun p q _ _ _ b hb => by simp [Value.ownBlock] at hb⟩, (Below.refl _ w).alloc (Nat.le_refl _) _⟩)
  simp only [List.toArray_replicate] at R0
  clear r0 hmk
  go_loopw [5] (fun iv wr => OfRel w L n iv wr) (fun iv _ => n - (intOf iv).toNat)
  case atStart => exact R0.out
  case round =>
    clear R0
    obtain ⟨i, vs, rfl, hi, hr, hv, hb⟩ := hrel
    by_cases hgo : i < n
    · obtain ⟨l, hl⟩ : ∃ l, L[i]? = some l := ⟨_, List.getElem?_eq_getElem (by have := HLL.out; omega)⟩
      obtain ⟨lb, loff, lo, lc, rfl, hcl, hln, hby⟩ := raw_cell H.out hl
      obtain ⟨ln, hlen⟩ : ∃ ln, ln = l.length := ⟨_, rfl⟩
      rw [← hlen] at hcl hln
      have HLEN := hid hlen
      have HL := hid hl
      have HBY := hid hby
      have HCL := hid hcl
      have RI := hid (show OfIn w L n i (.int .i64 (i : Int)) (.int .i64 0) wr from ⟨0, vs, rfl, Nat.zero_le _, by omega, hr, hv, hb⟩)
      clear hr hv hb hlen hl hby
      have hcl' := HCL.out
      clear hcl
      go_wp2_with fail
      go_loopw [6] (fun kv y => OfIn w L n i (.int .i64 (i : Int)) kv y) (fun kv _ => 8 - (intOf kv).toNat)
      case atStart => exact RI.out
      case round =>
        clear RI hcl'
        obtain ⟨k, vs, rfl, hk, hk8, hr, hv, hb⟩ := hrel
        rw [HL.out, Option.getD_some, ← HLEN.out] at hk
        have c1 := (hb.cell (World.block_lt_of_cell? _ _ HCL.out)).trans HCL.out
        by_cases hkl : k < ln
        · by_cases hk7 : k < 8
          · obtain ⟨x, hx⟩ : ∃ x, l[k]? = some x := ⟨_, List.getElem?_eq_getElem (HLEN.out ▸ hkl)⟩
            obtain ⟨b2, o2, rfl, c2w, hx255⟩ := HBY.out k x hx
            have c2 := (hb.cell (World.block_lt_of_cell? _ _ c2w)).trans c2w
            obtain ⟨m, hm⟩ : ∃ m, m = x % n := ⟨_, rfl⟩
            have hn0 : 0 < n := by omega
            have hm2 : (x : Int) % (n : Int) = (m : Int) := by rw [hm]; simp
            have hm1 : Int.tmod (x : Int) (n : Int) = (m : Int) := by rw [Int.tmod_eq_emod_of_nonneg (by omega)]; exact hm2
            have hil : i < ll := by omega
            have hnz : ¬ n = 0 := by omega
            have hwr : IntKind.i64.wrap (x : Int) = (x : Int) := IntWalk.i64_in _ (by omega)
            have hmn : m < n := by rw [hm]; exact Nat.mod_lt _ hn0
            have hstep := rowOf_step HL.out hx hk7
            rw [← HNN.out, ← hm] at hstep
            have hself : partRows L i k i = (rowOf L i).take k := by simp [partRows]
            have hlr : (partRows L i k i).length ≤ 1000000 := by
              rw [hself, List.length_take]
              have := rowOf_length L i
              omega
            have rp0 := hr.get hgo
            have rp1 := ((Chg.refl [] wr).alloc (.cells #[.int .i64 (m : Int)] 3)).cell rp0 (by simp)
            have hs := hb.size
            obtain ⟨a3, c3, w3, happ, hr2, hbl, hr3, hv3, hb3⟩ := rows_app (w := wr.drewN 1) hr (hv.chg ((Chg.refl [] wr).drewN 1) (by simp)) hgo hs (Nat.le_refl _) hlr m
            have happ1 : (Builtin.append_ #[24, 24] 24 #[vs i, .slice (some ⟨wr.heap.size, 0, none⟩) 1 1]).run Try.prog (wr.alloc (.cells #[.int .i64 (m : Int)] 3)).drew = .ok (.slice a3 ((partRows L i k i).length + 1) c3) w3 := happ
            clear happ
            have kq := hr2.get hgo
            have fq := hr2.free (i := i)
            have keep3 := And.intro ((hbl.cell (World.block_lt_of_cell? _ _ HCL.out)).trans c1) ((hbl.cell (World.block_lt_of_cell? _ _ c2w)).trans c2)
            have keep4 := And.intro ((hb3.cell (World.block_lt_of_cell? _ _ HCL.out)).trans c1) ((hb3.cell (World.block_lt_of_cell? _ _ c2w)).trans c2)
            rw [part_step hstep] at hv3
            have RR := hid (show OfIn w L n i (.int .i64 (i : Int)) (.int .i64 ((k : Int) + 1)) (w3.setCell ⟨w.heap.size, i, none⟩ (.slice a3 ((partRows L i k i).length + 1) c3)) from
              ⟨k + 1, _, by simp, by rw [HL.out, Option.getD_some, ← HLEN.out]; omega, by omega, hr3, hv3, (bdrew hb 1).trans hb3⟩)
            clear hr hv hb hx c2w hm hstep hself hlr hs hr2 hbl hr3 hv3 hb3
            go_wp2_with fail
            refine wp_region_held_drew (S := fun y => y.cell? ⟨lb, loff + i, none⟩ = some (.slice (some ⟨b2, o2, none⟩) ln lc) ∧ y.cell? ⟨b2, o2 + k, none⟩ = some (.int .u8 (x : Int))) (by kernel_rfl) ⟨c1, c2⟩ (fun hS => ?_)
            refine wpAnyH_take (i := 0) (oi := { dst := some 30, op := Op.move (Operand.tmp 4), type := 22, pos := "law.go:24", after := #[], guard := none }) (v := ?_) rfl (by kernel_rfl) (by kernel_rfl) (by kernel_rfl) (fun _ _ _ h => h) (Or.inl ⟨by rfl, ?_⟩) hS ?_
            rotate_left 1
            · rintro wx ⟨s0, s1⟩
              (go_simp <;> (try with_reducible rfl))
            try simp only [Act.put, List.setIfInBounds_toArray, List.set_cons_zero, List.set_cons_succ]
            refine wpAnyH_take (i := 1) (oi := { dst := some 31, op := Op.move (Operand.tmp 5), type := 3, pos := "law.go:24", after := #[], guard := none }) (v := ?_) rfl (by kernel_rfl) (by kernel_rfl) (by kernel_rfl) (fun _ _ _ h => h) (Or.inl ⟨by rfl, ?_⟩) hS ?_
            rotate_left 1
            · rintro wx ⟨s0, s1⟩
              (go_simp <;> (try with_reducible rfl))
            try simp only [Act.put, List.setIfInBounds_toArray, List.set_cons_zero, List.set_cons_succ]
            refine wpAnyH_take (i := 2) (oi := { dst := some 32, op := Op.move (Operand.tmp 4), type := 22, pos := "law.go:24", after := #[], guard := none }) (v := ?_) rfl (by kernel_rfl) (by kernel_rfl) (by kernel_rfl) (fun _ _ _ h => h) (Or.inl ⟨by rfl, ?_⟩) hS ?_
            rotate_left 1
            · rintro wx ⟨s0, s1⟩
              (go_simp <;> (try with_reducible rfl))
            try simp only [Act.put, List.setIfInBounds_toArray, List.set_cons_zero, List.set_cons_succ]
            refine wpAnyH_take (i := 3) (oi := { dst := some 33, op := Op.move (Operand.tmp 5), type := 3, pos := "law.go:24", after := #[], guard := none }) (v := ?_) rfl (by kernel_rfl) (by kernel_rfl) (by kernel_rfl) (fun _ _ _ h => h) (Or.inl ⟨by rfl, ?_⟩) hS ?_
            rotate_left 1
            · rintro wx ⟨s0, s1⟩
              (go_simp <;> (try with_reducible rfl))
            try simp only [Act.put, List.setIfInBounds_toArray, List.set_cons_zero, List.set_cons_succ]
            refine wpAnyH_take (i := 4) (oi := { dst := some 34, op := Op.indexAddr 22 (Operand.tmp 32) (Operand.tmp 33), type := 0, pos := "law.go:24", after := #[{ on := 2, ground := Ground.data }, { on := 3, ground := Ground.data }], guard := none }) (v := ?_) rfl (by kernel_rfl) (by kernel_rfl) (by kernel_rfl) (fun _ _ _ h => h) (Or.inl ⟨by rfl, ?_⟩) hS ?_
            rotate_left 1
            · rintro wx ⟨s0, s1⟩
              (go_simp <;> (try with_reducible rfl))
            try simp only [Act.put, List.setIfInBounds_toArray, List.set_cons_zero, List.set_cons_succ]
            refine wpAnyH_take (i := 6) (oi := { dst := some 36, op := Op.move (Operand.tmp 0), type := 23, pos := "law.go:24", after := #[], guard := none }) (v := ?_) rfl (by kernel_rfl) (by kernel_rfl) (by kernel_rfl) (fun _ _ _ h => h) (Or.inl ⟨by rfl, ?_⟩) hS ?_
            rotate_left 1
            · rintro wx ⟨s0, s1⟩
              (go_simp <;> (try with_reducible rfl))
            try simp only [Act.put, List.setIfInBounds_toArray, List.set_cons_zero, List.set_cons_succ]
            refine wpAnyH_take (i := 7) (oi := { dst := some 37, op := Op.move (Operand.tmp 5), type := 3, pos := "law.go:24", after := #[], guard := none }) (v := ?_) rfl (by kernel_rfl) (by kernel_rfl) (by kernel_rfl) (fun _ _ _ h => h) (Or.inl ⟨by rfl, ?_⟩) hS ?_
            rotate_left 1
            · rintro wx ⟨s0, s1⟩
              (go_simp <;> (try with_reducible rfl))
            try simp only [Act.put, List.setIfInBounds_toArray, List.set_cons_zero, List.set_cons_succ]
            refine wpAnyH_take (i := 8) (oi := { dst := some 38, op := Op.indexAddr 23 (Operand.tmp 36) (Operand.tmp 37), type := 0, pos := "law.go:24", after := #[{ on := 6, ground := Ground.data }, { on := 7, ground := Ground.data }], guard := none }) (v := ?_) rfl (by kernel_rfl) (by kernel_rfl) (by kernel_rfl) (fun _ _ _ h => h) (Or.inl ⟨by rfl, ?_⟩) hS ?_
            rotate_left 1
            · rintro wx ⟨s0, s1⟩
              (go_simp <;> (try with_reducible rfl))
            try simp only [Act.put, List.setIfInBounds_toArray, List.set_cons_zero, List.set_cons_succ]
            refine wpAnyH_take (i := 9) (oi := { dst := some 39, op := Op.load 42 (Operand.tmp 38), type := 42, pos := "law.go:24", after := #[{ on := 8, ground := Ground.data }], guard := none }) (v := ?_) rfl (by kernel_rfl) (by kernel_rfl) (by kernel_rfl) (fun _ _ _ h => h) (Or.inl ⟨by rfl, ?_⟩) hS ?_
            rotate_left 1
            · rintro wx ⟨s0, s1⟩
              (go_simp <;> (try with_reducible rfl))
            try simp only [Act.put, List.setIfInBounds_toArray, List.set_cons_zero, List.set_cons_succ]
            refine wpAnyH_take (i := 10) (oi := { dst := some 40, op := Op.move (Operand.tmp 6), type := 3, pos := "law.go:24", after := #[], guard := none }) (v := ?_) rfl (by kernel_rfl) (by kernel_rfl) (by kernel_rfl) (fun _ _ _ h => h) (Or.inl ⟨by rfl, ?_⟩) hS ?_
            rotate_left 1
            · rintro wx ⟨s0, s1⟩
              (go_simp <;> (try with_reducible rfl))
            try simp only [Act.put, List.setIfInBounds_toArray, List.set_cons_zero, List.set_cons_succ]
            refine wpAnyH_take (i := 11) (oi := { dst := some 41, op := Op.indexAddr 42 (Operand.tmp 39) (Operand.tmp 40), type := 0, pos := "law.go:24", after := #[{ on := 9, ground := Ground.data }, { on := 10, ground := Ground.data }], guard := none }) (v := ?_) rfl (by kernel_rfl) (by kernel_rfl) (by kernel_rfl) (fun _ _ _ h => h) (Or.inl ⟨by rfl, ?_⟩) hS ?_
            rotate_left 1
            · rintro wx ⟨s0, s1⟩
              (go_simp <;> (try with_reducible rfl))
            try simp only [Act.put, List.setIfInBounds_toArray, List.set_cons_zero, List.set_cons_succ]
            refine wpAnyH_take (i := 12) (oi := { dst := some 42, op := Op.load 5 (Operand.tmp 41), type := 5, pos := "law.go:24", after := #[{ on := 11, ground := Ground.data }], guard := none }) (v := ?_) rfl (by kernel_rfl) (by kernel_rfl) (by kernel_rfl) (fun _ _ _ h => h) (Or.inl ⟨by rfl, ?_⟩) hS ?_
            rotate_left 1
            · rintro wx ⟨s0, s1⟩
              (go_simp <;> (try with_reducible rfl))
            try simp only [Act.put, List.setIfInBounds_toArray, List.set_cons_zero, List.set_cons_succ]
            refine wpAnyH_take (i := 13) (oi := { dst := some 43, op := Op.convert 5 3 (Operand.tmp 42), type := 3, pos := "law.go:24", after := #[{ on := 12, ground := Ground.data }], guard := none }) (v := ?_) rfl (by kernel_rfl) (by kernel_rfl) (by kernel_rfl) (fun _ _ _ h => h) (Or.inl ⟨by rfl, ?_⟩) hS ?_
            rotate_left 1
            · rintro wx ⟨s0, s1⟩
              (go_simp <;> (try with_reducible rfl))
            try simp only [Act.put, List.setIfInBounds_toArray, List.set_cons_zero, List.set_cons_succ]
            refine wpAnyH_take (i := 14) (oi := { dst := some 44, op := Op.move (Operand.tmp 3), type := 3, pos := "law.go:24", after := #[], guard := none }) (v := ?_) rfl (by kernel_rfl) (by kernel_rfl) (by kernel_rfl) (fun _ _ _ h => h) (Or.inl ⟨by rfl, ?_⟩) hS ?_
            rotate_left 1
            · rintro wx ⟨s0, s1⟩
              (go_simp <;> (try with_reducible rfl))
            try simp only [Act.put, List.setIfInBounds_toArray, List.set_cons_zero, List.set_cons_succ]
            refine wpAnyH_take (i := 15) (oi := { dst := some 45, op := Op.binOp BinOp.rem 3 (Operand.tmp 43) (Operand.tmp 44) 3, type := 3, pos := "law.go:24", after := #[{ on := 13, ground := Ground.data }, { on := 14, ground := Ground.data }], guard := none }) (v := ?_) rfl (by kernel_rfl) (by kernel_rfl) (by kernel_rfl) (fun _ _ _ h => h) (Or.inl ⟨by rfl, ?_⟩) hS ?_
            rotate_left 1
            · rintro wx ⟨s0, s1⟩
              (go_simp <;> (try with_reducible rfl))
            try simp only [Act.put, List.setIfInBounds_toArray, List.set_cons_zero, List.set_cons_succ]
            refine wpAnyH_ready (rs := [5, 16]) (by kernel_rfl) (by simp) ?_
            refine AllReadyH.cons (o := { dst := some 35, op := Op.load 24 (Operand.tmp 34), type := 24, pos := "law.go:24", after := #[{ on := 4, ground := Ground.data }], guard := none }) rfl (fun K hK => ?_) (AllReadyH.cons (o := { dst := some 46, op := Op.buildSlice 24 1 #[(0, Operand.tmp 45)], type := 24, pos := "law.go:24", after := #[{ on := 15, ground := Ground.data }], guard := none }) rfl (fun K hK => ?_) AllReadyH.nil)
            · go_simp
              refine hK.out _ _ ⟨c1, c2⟩ (fun hS => ?_)
              clear hK K
              try simp only [Act.put, List.setIfInBounds_toArray, List.set_cons_zero, List.set_cons_succ]
              refine wpAnyH_ready (rs := [16]) (by kernel_rfl) (by simp) ?_
              refine AllReadyH.cons (o := { dst := some 46, op := Op.buildSlice 24 1 #[(0, Operand.tmp 45)], type := 24, pos := "law.go:24", after := #[{ on := 15, ground := Ground.data }], guard := none }) rfl (fun K hK => ?_) AllReadyH.nil
              go_simp
              refine hK.out _ _ ⟨((Chg.refl [] wr).alloc _).cell c1 (by simp), ((Chg.refl [] wr).alloc _).cell c2 (by simp)⟩ (fun hS => ?_)
              clear hK K
              try simp only [Act.put, List.setIfInBounds_toArray, List.set_cons_zero, List.set_cons_succ]
              refine wpAnyH_ready (rs := [17]) (by kernel_rfl) (by simp) ?_
              refine AllReadyH.cons (o := { dst := some 47, op := Op.call { callee := Callee.builtin Builtin.append, args := #[Operand.tmp 35, Operand.tmp 46], argTypes := #[24, 24] }, type := 24, pos := "law.go:24", after := #[{ on := 5, ground := Ground.data }, { on := 16, ground := Ground.data }], guard := none }) rfl (fun K hK => ?_) AllReadyH.nil
              refine step_append_run rfl (.tmp 35) (.tmp 46) 24 rfl _ _ (by simp [Act.eval]) (by simp [Act.eval]) happ1 ?_
              refine hK.out _ _ keep3 (fun hS => ?_)
              clear hK K
              try simp only [Act.put, List.setIfInBounds_toArray, List.set_cons_zero, List.set_cons_succ]
              refine wpAnyH_take (i := 18) (oi := { dst := some 48, op := Op.indexAddr 22 (Operand.tmp 30) (Operand.tmp 31), type := 0, pos := "law.go:24", after := #[{ on := 0, ground := Ground.data }, { on := 1, ground := Ground.data }, { on := 0, ground := Ground.phase }, { on := 1, ground := Ground.phase }, { on := 2, ground := Ground.phase }, { on := 3, ground := Ground.phase }, { on := 4, ground := Ground.phase }, { on := 5, ground := Ground.phase }, { on := 6, ground := Ground.phase }, { on := 7, ground := Ground.phase }, { on := 8, ground := Ground.phase }, { on := 9, ground := Ground.phase }, { on := 10, ground := Ground.phase }, { on := 11, ground := Ground.phase }, { on := 12, ground := Ground.phase }, { on := 13, ground := Ground.phase }, { on := 14, ground := Ground.phase }, { on := 15, ground := Ground.phase }, { on := 16, ground := Ground.phase }, { on := 17, ground := Ground.phase }], guard := none }) (v := ?_) rfl (by kernel_rfl) (by kernel_rfl) (by kernel_rfl) (fun _ _ _ h => h) (Or.inl ⟨by rfl, ?_⟩) hS ?_
              rotate_left 1
              · rintro wx ⟨s0, s1⟩
                (go_simp <;> (try with_reducible rfl))
              try simp only [Act.put, List.setIfInBounds_toArray, List.set_cons_zero, List.set_cons_succ]
              refine wpAnyH_ready (rs := [19]) (by kernel_rfl) (by simp) ?_
              refine AllReadyH.cons (o := { dst := none, op := Op.store 24 (Operand.tmp 48) (Operand.tmp 47), type := 0, pos := "law.go:24", after := #[{ on := 18, ground := Ground.data }, { on := 17, ground := Ground.data }, { on := 17, ground := Ground.chain }, { on := 0, ground := Ground.phase }, { on := 1, ground := Ground.phase }, { on := 2, ground := Ground.phase }, { on := 3, ground := Ground.phase }, { on := 4, ground := Ground.phase }, { on := 5, ground := Ground.phase }, { on := 6, ground := Ground.phase }, { on := 7, ground := Ground.phase }, { on := 8, ground := Ground.phase }, { on := 9, ground := Ground.phase }, { on := 10, ground := Ground.phase }, { on := 11, ground := Ground.phase }, { on := 12, ground := Ground.phase }, { on := 13, ground := Ground.phase }, { on := 14, ground := Ground.phase }, { on := 15, ground := Ground.phase }, { on := 16, ground := Ground.phase }, { on := 17, ground := Ground.phase }], guard := none }) rfl (fun K hK => ?_) AllReadyH.nil
              go_simp
              refine hK.out _ _ keep4 (fun hS => ?_)
              clear hK K
              try simp only [Act.put, List.setIfInBounds_toArray, List.set_cons_zero, List.set_cons_succ]
              refine wpAnyH_done (by kernel_rfl) ?_ _
              go_wp2_with fail
              go_roundw
              case rel => exact RR.out
              case measure => simp [intOf]; omega
            · go_simp
              refine hK.out _ _ ⟨((Chg.refl [] wr).alloc _).cell c1 (by simp), ((Chg.refl [] wr).alloc _).cell c2 (by simp)⟩ (fun hS => ?_)
              clear hK K
              try simp only [Act.put, List.setIfInBounds_toArray, List.set_cons_zero, List.set_cons_succ]
              refine wpAnyH_ready (rs := [5]) (by kernel_rfl) (by simp) ?_
              refine AllReadyH.cons (o := { dst := some 35, op := Op.load 24 (Operand.tmp 34), type := 24, pos := "law.go:24", after := #[{ on := 4, ground := Ground.data }], guard := none }) rfl (fun K hK => ?_) AllReadyH.nil
              go_simp
              refine hK.out _ _ ⟨((Chg.refl [] wr).alloc _).cell c1 (by simp), ((Chg.refl [] wr).alloc _).cell c2 (by simp)⟩ (fun hS => ?_)
              clear hK K
              try simp only [Act.put, List.setIfInBounds_toArray, List.set_cons_zero, List.set_cons_succ]
              refine wpAnyH_ready (rs := [17]) (by kernel_rfl) (by simp) ?_
              refine AllReadyH.cons (o := { dst := some 47, op := Op.call { callee := Callee.builtin Builtin.append, args := #[Operand.tmp 35, Operand.tmp 46], argTypes := #[24, 24] }, type := 24, pos := "law.go:24", after := #[{ on := 5, ground := Ground.data }, { on := 16, ground := Ground.data }], guard := none }) rfl (fun K hK => ?_) AllReadyH.nil
              refine step_append_run rfl (.tmp 35) (.tmp 46) 24 rfl _ _ (by simp [Act.eval]) (by simp [Act.eval]) happ1 ?_
              refine hK.out _ _ keep3 (fun hS => ?_)
              clear hK K
              try simp only [Act.put, List.setIfInBounds_toArray, List.set_cons_zero, List.set_cons_succ]
              refine wpAnyH_take (i := 18) (oi := { dst := some 48, op := Op.indexAddr 22 (Operand.tmp 30) (Operand.tmp 31), type := 0, pos := "law.go:24", after := #[{ on := 0, ground := Ground.data }, { on := 1, ground := Ground.data }, { on := 0, ground := Ground.phase }, { on := 1, ground := Ground.phase }, { on := 2, ground := Ground.phase }, { on := 3, ground := Ground.phase }, { on := 4, ground := Ground.phase }, { on := 5, ground := Ground.phase }, { on := 6, ground := Ground.phase }, { on := 7, ground := Ground.phase }, { on := 8, ground := Ground.phase }, { on := 9, ground := Ground.phase }, { on := 10, ground := Ground.phase }, { on := 11, ground := Ground.phase }, { on := 12, ground := Ground.phase }, { on := 13, ground := Ground.phase }, { on := 14, ground := Ground.phase }, { on := 15, ground := Ground.phase }, { on := 16, ground := Ground.phase }, { on := 17, ground := Ground.phase }], guard := none }) (v := ?_) rfl (by kernel_rfl) (by kernel_rfl) (by kernel_rfl) (fun _ _ _ h => h) (Or.inl ⟨by rfl, ?_⟩) hS ?_
              rotate_left 1
              · rintro wx ⟨s0, s1⟩
                (go_simp <;> (try with_reducible rfl))
              try simp only [Act.put, List.setIfInBounds_toArray, List.set_cons_zero, List.set_cons_succ]
              refine wpAnyH_ready (rs := [19]) (by kernel_rfl) (by simp) ?_
              refine AllReadyH.cons (o := { dst := none, op := Op.store 24 (Operand.tmp 48) (Operand.tmp 47), type := 0, pos := "law.go:24", after := #[{ on := 18, ground := Ground.data }, { on := 17, ground := Ground.data }, { on := 17, ground := Ground.chain }, { on := 0, ground := Ground.phase }, { on := 1, ground := Ground.phase }, { on := 2, ground := Ground.phase }, { on := 3, ground := Ground.phase }, { on := 4, ground := Ground.phase }, { on := 5, ground := Ground.phase }, { on := 6, ground := Ground.phase }, { on := 7, ground := Ground.phase }, { on := 8, ground := Ground.phase }, { on := 9, ground := Ground.phase }, { on := 10, ground := Ground.phase }, { on := 11, ground := Ground.phase }, { on := 12, ground := Ground.phase }, { on := 13, ground := Ground.phase }, { on := 14, ground := Ground.phase }, { on := 15, ground := Ground.phase }, { on := 16, ground := Ground.phase }, { on := 17, ground := Ground.phase }], guard := none }) rfl (fun K hK => ?_) AllReadyH.nil
              go_simp
              refine hK.out _ _ keep4 (fun hS => ?_)
              clear hK K
              try simp only [Act.put, List.setIfInBounds_toArray, List.set_cons_zero, List.set_cons_succ]
              refine wpAnyH_done (by kernel_rfl) ?_ _
              go_wp2_with fail
              go_roundw
              case rel => exact RR.out
              case measure => simp [intOf]; omega
          · have RR := hid (show OfRel w L n (.int .i64 ((i : Int) + 1)) wr from ⟨i + 1, vs, by simp, by omega, hr, by
              rw [← part_done (rowOf_all (k := k) HL.out (.inr (by omega)))]
              exact hv, hb⟩)
            clear hr hv hb
            go_wp2_with fail
            go_roundw
            case rel => exact RR.out
            case measure => simp [intOf]; omega
        · have RR := hid (show OfRel w L n (.int .i64 ((i : Int) + 1)) wr from ⟨i + 1, vs, by simp, by omega, hr, by
            rw [← part_done (rowOf_all (k := k) HL.out (.inl (by have := HLEN.out; omega)))]
            exact hv, hb⟩)
          clear hr hv hb
          go_wp2_with fail
          go_roundw
          case rel => exact RR.out
          case measure => simp [intOf]; omega
    · obtain rfl : i = n := by omega
      have RR := hid (show OfEnd w L (.returned (.slice (some ⟨w.heap.size, 0, none⟩) i i)) wr from
        ⟨w.heap.size, i, HNN.out, rfl, rows_of (g := ofG L) (by rw [ofG_length]; exact HNN.out) hr hv (fun p hp => by
          rw [ofG_edges, if_pos (by rw [← HNN.out]; exact hp)]
          simp [partRows, hp]) (by omega) (fun p hp y hy => by
          rw [ofG_edges, if_pos (by rw [← HNN.out]; exact hp)] at hy
          have := rowOf_lt hy (by rw [← HNN.out]; omega)
          have := HNN.out
          omega), hb⟩)
      clear hr hv hb
      go_wp2_with fail
      go_ret
      exact RR.out

theorem of_any (w : World) (v : Value) (L : List (List Nat)) (h : RawIn w v L) : Calls Try.prog 12 #[v] w (OfEnd w L) := by
  obtain ⟨ao, c, rfl, hll⟩ := raw_view h
  obtain ⟨ll, hl0⟩ : ∃ ll, ll = L.length := ⟨_, rfl⟩
  rw [← hl0] at h hll ⊢
  obtain ⟨n, hn⟩ : ∃ n, n = min ll 60 := ⟨_, rfl⟩
  have HP := @of_head w ao ll c n rest12 (bodyPost Try.prog Try.f12 (OfEnd w L))
  simp only [fstSeq, sndSeq, rest12, Try.f12, Option.getD_some] at HP
  go_enter Try.func12, Try.ntmps12
  refine HP _ _ _ _ _ _ _ _ _ _ _ _ _ _ _ _ _ _ _ _ _ _ _ _ _ _ _ _ _ _ _ _ _ _ _ _ _ _ _ _ _ _ _ _ _ _ _ _ _ hn hll ?_
  intro v1 v4 v5 v6 v7 v8 v9 v10 v11 v12 v13 v14 v15 v16 v17 v18 v19 v20 v21 v22 v23 v24 v25 v26 v27 v28 v29 v30 v31 v32 v33 v34 v35 v36 v37 v38 v39 v40 v41 v42 v43 v44 v45 v46 v47 v48 v49
  exact of_rest _ _ _ _ _ _ _ _ _ _ _ _ _ _ _ _ _ _ _ _ _ _ _ _ _ _ _ _ _ _ _ _ _ _ _ _ _ _ _ _ _ _ _ _ _ _ _ L hl0 h hn hll

end Go.Proofs.Ytagfgbmaibadjaa
