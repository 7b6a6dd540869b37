/- IslandsTimes answers true. -/
import Derived.Test.YtagfgbmaibadjaaIsBuild
import Derived.Outline
namespace Go.Proofs.Ytagfgbmaibadjaa
open Go.RowKit Go.Lib

def turn (r : List Nat) : List Nat := r.reverse.flatMap fun x => [x, x]
theorem turn_step {r : List Nat} {k x : Nat} (h : r[k]? = some x) : turn (r.drop k) = turn (r.drop (k + 1)) ++ [x, x] := by
  obtain ⟨hk, e⟩ := List.getElem?_eq_some_iff.1 h
  unfold turn
  rw [← List.getElem_cons_drop hk, e, List.reverse_cons, List.flatMap_append]
  simp
theorem mem_turn {r : List Nat} {x : Nat} : x ∈ turn r ↔ x ∈ r := by
  unfold turn
  simp
theorem turn_length (r : List Nat) : (turn r).length = 2 * r.length := by
  unfold turn
  rw [List.length_flatMap]
  simp [List.map_const']
  omega
def turnOf (L : List (List Nat)) (i : Nat) : List Nat := turn (rowOf L i)

def TimesRel (w : World) (L : List (List Nat)) (n : Nat) (iv : Value) (wr : World) : Prop :=
  ∃ (i : Nat) (vs : Nat → Value), iv = .int .i64 (i : Int) ∧ i ≤ n ∧ RowV wr w.heap.size n vs ∧ Rows3 wr w.heap.size n vs (bld (turnOf L) i []) [] ∧ Below w.heap.size w wr
def TimesIn (w : World) (L : List (List Nat)) (n i : Nat) (kv : Value) (wr : World) : Prop :=
  ∃ (e : Nat) (z : Int) (vs : Nat → Value), kv = .int .i64 z ∧ z = (e : Int) - 1 ∧ e ≤ (rowOf L i).length ∧ RowV wr w.heap.size n vs ∧ Rows3 wr w.heap.size n vs (bld (turnOf L) i (turn ((rowOf L i).drop e))) [] ∧ Below w.heap.size w wr

theorem times_same {L : List (List Nat)} {n : Nat} (hn : n = nodesOf L) (i j : Nat) : edge (ofG L) i j ↔ edge (grOf n (turnOf L)) i j := by
  rw [ofG_grOf, grOf_edge, grOf_edge, hn]
  unfold turnOf
  rw [mem_turn]
theorem times_right {L : List (List Nat)} {n : Nat} (hn : n = nodesOf L) : RightG (grOf n (turnOf L)) := fun i j h => by
  have := ofG_rightG L i j ((times_same hn i j).2 h)
  rw [ofG_length] at this
  rw [grOf_length, hn]
  exact this
theorem times_few {L : List (List Nat)} {n : Nat} (hn : n ≤ 60) : Few (castG (grOf n (turnOf L))) := few_cast (M := 16) (fun l hl => by
  unfold grOf at hl
  obtain ⟨i, _, rfl⟩ := List.mem_map.1 hl
  unfold turnOf
  rw [turn_length]
  have := rowOf_length L i
  omega) (by rw [grOf_length]; omega)

theorem same_out {w : World} {av bv : Value} {G : List (List Int)} (hG : RowsIn w av G) (hH : RowsIn w bv G) : Calls Try.prog 17 #[av, bv] w (SameEnd w true) := same_true hG hH (by simp)
theorem ofG_row {L : List (List Nat)} {i : Nat} (h : i < nodesOf L) : (castG (ofG L))[i]? = some ((rowOf L i).map fun (x : Nat) => (x : Int)) := by
  have h1 := castG_get (g := ofG L) (i := i) (by rw [ofG_length]; exact h)
  rw [h1, ofG_edges, if_pos h]

set_option maxRecDepth 20000 in
set_option maxHeartbeats 4000000 in
theorem times_any (w : World) (v0 : Value) (L : List (List Nat)) (h : RawIn w v0 L) : Calls Try.prog 6 #[v0] w (HeadEnd w) := by
  have H := hid h
  clear h
  go_enter Try.func6, Try.ntmps6
  go_wp2_with fail
  refine (examples_any w).mono ?_
  rintro e w1 ⟨rfl, hb1⟩
  go_wp2_with fail
  refine (of_any w1 v0 L (H.out.below hb1)).mono ?_
  rintro e w2 ⟨gb, n, hn, rfl, r2, hb2⟩
  have hn60 : n ≤ 60 := by rw [hn]; unfold nodesOf; omega
  have hmk := make_rows n (by omega)
  have HB12 := hid (hb1.trans (below_low0 hb2 hb1.size))
  have HN := hid hn
  have HR2 := hid r2
  have r0 : RowV (w2.alloc (.cells (List.replicate n (Value.slice none 0 0)).toArray 24)) w2.heap.size n (fun _ => .slice none 0 0) := by
    have e := heap_alloc_new w2 (.cells (List.replicate n (Value.slice none 0 0)).toArray 24)
    unfold RowV
    rw [e, List.map_const']; simp
  have R0 := hid (show TimesRel w2 L n (.int .i64 0) (w2.alloc (.cells (List.replicate n (Value.slice none 0 0)).toArray 24)) from
    ⟨0, _, rfl, by omega, r0, by
      rw [bld_none]
      exact ⟨fun p _ => by simpa [natCells] using World.ownsRow_nil _ _ _ _, fun p _ b hb => by simp [Value.ownBlock] at hb, fun p q _ _ _ b hb => by simp [Value.ownBlock] at hb⟩, (Below.refl _ w2).alloc (Nat.le_refl _) _⟩)
  simp only [List.toArray_replicate] at R0
  clear r0 hn hb1 hb2 r2
  go_wp2_with fail
  clear hmk
  go_loopw [6] (fun iv wr => TimesRel w2 L n iv wr) (fun iv _ => n - (intOf iv).toNat)
  case atStart => exact R0.out
  case round =>
    clear R0
    obtain ⟨i, vs, rfl, hi, hr, hv, hb⟩ := hrel
    by_cases hgo : i < n
    · obtain ⟨b1, o1, lo, lc, e1, hcl, hil⟩ := rows_cell HR2.out.rows (ofG_row (L := L) (i := i) (HN.out ▸ hgo))
      injection e1 with e1
      injection e1 with e1 e1'
      subst e1 e1'
      rw [Nat.zero_add, List.length_map] at hcl
      rw [List.length_map] at hil
      obtain ⟨rn, hrn⟩ : ∃ rn, rn = (rowOf L i).length := ⟨_, rfl⟩
      rw [← hrn] at hcl hil
      have HRN := hid hrn
      have hrn8 : rn ≤ 8 := by rw [hrn]; exact rowOf_length L i
      have HIL := hid hil
      have HCL := hid hcl
      have c1 := (hb.cell (World.block_lt_of_cell? _ _ hcl)).trans hcl
      have RI := hid (show TimesIn w2 L n i (.int .i64 ((rn : Int) - 1)) wr from ⟨rn, _, vs, rfl, rfl, by omega, hr, by
        rw [hrn, List.drop_length]
        exact hv, hb⟩)
      clear hr hv hb hrn hil hcl
      go_wp2_with fail
      clear c1
      go_loopw [7] (fun kv y => TimesIn w2 L n i kv y) (fun kv _ => (intOf kv + 1).toNat)
      case atStart => exact RI.out
      case round =>
        clear RI
        obtain ⟨e, z, vs, rfl, hz, he, hr, hv, hb⟩ := hrel
        rw [← HRN.out] at he
        by_cases he0 : e = 0
        · have hzm : z = -1 := by omega
          subst hzm
          have RR := hid (show TimesRel w2 L n (.int .i64 ((i : Int) + 1)) wr from ⟨i + 1, vs, by simp, by omega, hr, by
            rw [← bld_done]
            rw [he0, List.drop_zero] at hv
            exact hv, hb⟩)
          clear hr hv hb hz
          go_wp2_with fail
          go_roundw
          case rel => exact RR.out
          case measure => simp [intOf]; omega
        · obtain ⟨k, rfl⟩ : ∃ k, e = k + 1 := ⟨e - 1, by omega⟩
          obtain rfl : z = (k : Int) := by omega
          obtain ⟨x, hx⟩ : ∃ x, (rowOf L i)[k]? = some x := ⟨_, List.getElem?_eq_getElem (by have := HRN.out; omega)⟩
          obtain ⟨b2, o2, rfl, c2w, x1, x2⟩ := ints_cell HIL.out (i := k) (x := (x : Int)) (by rw [List.getElem?_map, hx]; rfl)
          have c1 := (hb.cell (World.block_lt_of_cell? _ _ HCL.out)).trans HCL.out
          have c2 := (hb.cell (World.block_lt_of_cell? _ _ c2w)).trans c2w
          have hkn : k < rn := by omega
          have hstep := turn_step hx
          have hlr : (bld (turnOf L) i (turn ((rowOf L i).drop (k + 1))) i).length ≤ 1000000 := by
            rw [bld_self, turn_length, List.length_drop]
            have := rowOf_length L i
            omega
          have rp0 := hr.get hgo
          have rp1 := ((Chg.refl [] wr).alloc (.cells #[.int .i64 (x : Int), .int .i64 (x : Int)] 3)).cell rp0 (by simp)
          have hs := hb.size
          obtain ⟨a3, c3, w3, happ, hv3, ch3⟩ := (hv.chg ((Chg.refl [] wr).drewN 1) (by simp)).apps (i := i) hgo hs hlr (by simp) [x, x] (by simp) (by simp)
          have hr3 := rowv_keep (w := wr.drewN 1) (f := vs) hr (((hv.chg ((Chg.refl [] wr).drewN 1) (by simp)).row i hgo)) ch3
          have hb3 : Below w2.heap.size (wr.drewN 1) w3 := ch3.below (fun y hy => by
            simp only [own, Option.mem_toList] at hy
            exact ((hv.row i hgo).lt y hy).1) hs
          have happ1 : (Builtin.append_ #[24, 24] 24 #[vs i, .slice (some ⟨wr.heap.size, 0, none⟩) 2 2]).run Try.prog (wr.alloc (.cells #[.int .i64 (x : Int), .int .i64 (x : Int)] 3)).drew = .ok (.slice a3 ((bld (turnOf L) i (turn ((rowOf L i).drop (k + 1))) i).length + 2) c3) w3 := happ
          clear happ
          have kq := hr3.get hgo
          have fq := hr3.free (i := i)
          have hb4 := hb3.setCell (p := ⟨w2.heap.size, i, none⟩) (Nat.le_refl _) (.slice a3 ((bld (turnOf L) i (turn ((rowOf L i).drop (k + 1))) i).length + 2) c3)
          have keep3 := And.intro ((hb3.cell (World.block_lt_of_cell? _ _ HCL.out)).trans c1) ((hb3.cell (World.block_lt_of_cell? _ _ c2w)).trans c2)
          have keep4 := And.intro ((hb4.cell (World.block_lt_of_cell? _ _ HCL.out)).trans c1) ((hb4.cell (World.block_lt_of_cell? _ _ c2w)).trans c2)
          have hv4 := hv3.stores hr3 (k := i) (.slice a3 ((bld (turnOf L) i (turn ((rowOf L i).drop (k + 1))) i).length + 2) c3)
          have hr4 := hr3.set (k := i) (.slice a3 ((bld (turnOf L) i (turn ((rowOf L i).drop (k + 1))) i).length + 2) c3)
          rw [bld_upd, bld_self, ← hstep] at hv4
          rw [bld_self] at hr4 hb4 happ1 keep4
          have RR := hid (show TimesIn w2 L n i (.int .i64 ((k : Int) - 1)) (w3.setCell ⟨w2.heap.size, i, none⟩ (.slice a3 ((turn ((rowOf L i).drop (k + 1))).length + 2) c3)) from
            ⟨k, _, _, rfl, rfl, by have := HRN.out; omega, hr4, hv4, (bdrew hb 1).trans hb4⟩)
          clear hr hv hb hx c2w hstep hlr hs hr3 hb3 hr4 hv4 hb4 hv3 ch3 hz
          go_wp2_with fail
          refine wp_region_held_drew (S := fun y => y.cell? ⟨gb, i, none⟩ = some (.slice (some ⟨b2, o2, none⟩) rn lc) ∧ y.cell? ⟨b2, o2 + k, none⟩ = some (.int .i64 (x : Int))) (by kernel_rfl) ⟨c1, c2⟩ (fun hS => ?_)
          refine wpAnyH_take (i := 0) (oi := { dst := some 36, op := Op.move (Operand.tmp 5), type := 22, pos := "keeps.go:118", after := #[], guard := none }) (v := ?_) rfl (by kernel_rfl) (by kernel_rfl) (by kernel_rfl) (fun _ _ _ h => h) (Or.inl ⟨by rfl, ?_⟩) hS ?_
          rotate_left 1
          · rintro wx ⟨s0, s1⟩
            (go_simp <;> (try with_reducible rfl))
          try simp only [Act.put, List.setIfInBounds_toArray, List.set_cons_zero, List.set_cons_succ]
          refine wpAnyH_take (i := 1) (oi := { dst := some 37, op := Op.move (Operand.tmp 6), type := 3, pos := "keeps.go:118", after := #[], guard := none }) (v := ?_) rfl (by kernel_rfl) (by kernel_rfl) (by kernel_rfl) (fun _ _ _ h => h) (Or.inl ⟨by rfl, ?_⟩) hS ?_
          rotate_left 1
          · rintro wx ⟨s0, s1⟩
            (go_simp <;> (try with_reducible rfl))
          try simp only [Act.put, List.setIfInBounds_toArray, List.set_cons_zero, List.set_cons_succ]
          refine wpAnyH_take (i := 2) (oi := { dst := some 38, op := Op.move (Operand.tmp 5), type := 22, pos := "keeps.go:118", after := #[], guard := none }) (v := ?_) rfl (by kernel_rfl) (by kernel_rfl) (by kernel_rfl) (fun _ _ _ h => h) (Or.inl ⟨by rfl, ?_⟩) hS ?_
          rotate_left 1
          · rintro wx ⟨s0, s1⟩
            (go_simp <;> (try with_reducible rfl))
          try simp only [Act.put, List.setIfInBounds_toArray, List.set_cons_zero, List.set_cons_succ]
          refine wpAnyH_take (i := 3) (oi := { dst := some 39, op := Op.move (Operand.tmp 6), type := 3, pos := "keeps.go:118", after := #[], guard := none }) (v := ?_) rfl (by kernel_rfl) (by kernel_rfl) (by kernel_rfl) (fun _ _ _ h => h) (Or.inl ⟨by rfl, ?_⟩) hS ?_
          rotate_left 1
          · rintro wx ⟨s0, s1⟩
            (go_simp <;> (try with_reducible rfl))
          try simp only [Act.put, List.setIfInBounds_toArray, List.set_cons_zero, List.set_cons_succ]
          refine wpAnyH_take (i := 4) (oi := { dst := some 40, op := Op.indexAddr 22 (Operand.tmp 38) (Operand.tmp 39), type := 0, pos := "keeps.go:118", after := #[{ on := 2, ground := Ground.data }, { on := 3, ground := Ground.data }], guard := none }) (v := ?_) rfl (by kernel_rfl) (by kernel_rfl) (by kernel_rfl) (fun _ _ _ h => h) (Or.inl ⟨by rfl, ?_⟩) hS ?_
          rotate_left 1
          · rintro wx ⟨s0, s1⟩
            (go_simp <;> (try with_reducible rfl))
          try simp only [Act.put, List.setIfInBounds_toArray, List.set_cons_zero, List.set_cons_succ]
          refine wpAnyH_take (i := 6) (oi := { dst := some 42, op := Op.move (Operand.tmp 4), type := 22, pos := "keeps.go:118", after := #[], guard := none }) (v := ?_) rfl (by kernel_rfl) (by kernel_rfl) (by kernel_rfl) (fun _ _ _ h => h) (Or.inl ⟨by rfl, ?_⟩) hS ?_
          rotate_left 1
          · rintro wx ⟨s0, s1⟩
            (go_simp <;> (try with_reducible rfl))
          try simp only [Act.put, List.setIfInBounds_toArray, List.set_cons_zero, List.set_cons_succ]
          refine wpAnyH_take (i := 7) (oi := { dst := some 43, op := Op.move (Operand.tmp 6), type := 3, pos := "keeps.go:118", after := #[], guard := none }) (v := ?_) rfl (by kernel_rfl) (by kernel_rfl) (by kernel_rfl) (fun _ _ _ h => h) (Or.inl ⟨by rfl, ?_⟩) hS ?_
          rotate_left 1
          · rintro wx ⟨s0, s1⟩
            (go_simp <;> (try with_reducible rfl))
          try simp only [Act.put, List.setIfInBounds_toArray, List.set_cons_zero, List.set_cons_succ]
          refine wpAnyH_take (i := 8) (oi := { dst := some 44, op := Op.indexAddr 22 (Operand.tmp 42) (Operand.tmp 43), type := 0, pos := "keeps.go:118", after := #[{ on := 6, ground := Ground.data }, { on := 7, ground := Ground.data }], guard := none }) (v := ?_) rfl (by kernel_rfl) (by kernel_rfl) (by kernel_rfl) (fun _ _ _ h => h) (Or.inl ⟨by rfl, ?_⟩) hS ?_
          rotate_left 1
          · rintro wx ⟨s0, s1⟩
            (go_simp <;> (try with_reducible rfl))
          try simp only [Act.put, List.setIfInBounds_toArray, List.set_cons_zero, List.set_cons_succ]
          refine wpAnyH_take (i := 9) (oi := { dst := some 45, op := Op.load 24 (Operand.tmp 44), type := 24, pos := "keeps.go:118", after := #[{ on := 8, ground := Ground.data }], guard := none }) (v := ?_) rfl (by kernel_rfl) (by kernel_rfl) (by kernel_rfl) (fun _ _ _ h => h) (Or.inl ⟨by rfl, ?_⟩) hS ?_
          rotate_left 1
          · rintro wx ⟨s0, s1⟩
            (go_simp <;> (try with_reducible rfl))
          try simp only [Act.put, List.setIfInBounds_toArray, List.set_cons_zero, List.set_cons_succ]
          refine wpAnyH_take (i := 10) (oi := { dst := some 46, op := Op.move (Operand.tmp 7), type := 3, pos := "keeps.go:118", after := #[], guard := none }) (v := ?_) rfl (by kernel_rfl) (by kernel_rfl) (by kernel_rfl) (fun _ _ _ h => h) (Or.inl ⟨by rfl, ?_⟩) hS ?_
          rotate_left 1
          · rintro wx ⟨s0, s1⟩
            (go_simp <;> (try with_reducible rfl))
          try simp only [Act.put, List.setIfInBounds_toArray, List.set_cons_zero, List.set_cons_succ]
          refine wpAnyH_take (i := 11) (oi := { dst := some 47, op := Op.indexAddr 24 (Operand.tmp 45) (Operand.tmp 46), type := 0, pos := "keeps.go:118", after := #[{ on := 9, ground := Ground.data }, { on := 10, ground := Ground.data }], guard := none }) (v := ?_) rfl (by kernel_rfl) (by kernel_rfl) (by kernel_rfl) (fun _ _ _ h => h) (Or.inl ⟨by rfl, ?_⟩) hS ?_
          rotate_left 1
          · rintro wx ⟨s0, s1⟩
            (go_simp <;> (try with_reducible rfl))
          try simp only [Act.put, List.setIfInBounds_toArray, List.set_cons_zero, List.set_cons_succ]
          refine wpAnyH_take (i := 12) (oi := { dst := some 48, op := Op.load 3 (Operand.tmp 47), type := 3, pos := "keeps.go:118", after := #[{ on := 11, ground := Ground.data }], guard := none }) (v := ?_) rfl (by kernel_rfl) (by kernel_rfl) (by kernel_rfl) (fun _ _ _ h => h) (Or.inl ⟨by rfl, ?_⟩) hS ?_
          rotate_left 1
          · rintro wx ⟨s0, s1⟩
            (go_simp <;> (try with_reducible rfl))
          try simp only [Act.put, List.setIfInBounds_toArray, List.set_cons_zero, List.set_cons_succ]
          refine wpAnyH_take (i := 13) (oi := { dst := some 49, op := Op.move (Operand.tmp 4), type := 22, pos := "keeps.go:118", after := #[], guard := none }) (v := ?_) rfl (by kernel_rfl) (by kernel_rfl) (by kernel_rfl) (fun _ _ _ h => h) (Or.inl ⟨by rfl, ?_⟩) hS ?_
          rotate_left 1
          · rintro wx ⟨s0, s1⟩
            (go_simp <;> (try with_reducible rfl))
          try simp only [Act.put, List.setIfInBounds_toArray, List.set_cons_zero, List.set_cons_succ]
          refine wpAnyH_take (i := 14) (oi := { dst := some 50, op := Op.move (Operand.tmp 6), type := 3, pos := "keeps.go:118", after := #[], guard := none }) (v := ?_) rfl (by kernel_rfl) (by kernel_rfl) (by kernel_rfl) (fun _ _ _ h => h) (Or.inl ⟨by rfl, ?_⟩) hS ?_
          rotate_left 1
          · rintro wx ⟨s0, s1⟩
            (go_simp <;> (try with_reducible rfl))
          try simp only [Act.put, List.setIfInBounds_toArray, List.set_cons_zero, List.set_cons_succ]
          refine wpAnyH_take (i := 15) (oi := { dst := some 51, op := Op.indexAddr 22 (Operand.tmp 49) (Operand.tmp 50), type := 0, pos := "keeps.go:118", after := #[{ on := 13, ground := Ground.data }, { on := 14, ground := Ground.data }], guard := none }) (v := ?_) rfl (by kernel_rfl) (by kernel_rfl) (by kernel_rfl) (fun _ _ _ h => h) (Or.inl ⟨by rfl, ?_⟩) hS ?_
          rotate_left 1
          · rintro wx ⟨s0, s1⟩
            (go_simp <;> (try with_reducible rfl))
          try simp only [Act.put, List.setIfInBounds_toArray, List.set_cons_zero, List.set_cons_succ]
          refine wpAnyH_take (i := 16) (oi := { dst := some 52, op := Op.load 24 (Operand.tmp 51), type := 24, pos := "keeps.go:118", after := #[{ on := 15, ground := Ground.data }], guard := none }) (v := ?_) rfl (by kernel_rfl) (by kernel_rfl) (by kernel_rfl) (fun _ _ _ h => h) (Or.inl ⟨by rfl, ?_⟩) hS ?_
          rotate_left 1
          · rintro wx ⟨s0, s1⟩
            (go_simp <;> (try with_reducible rfl))
          try simp only [Act.put, List.setIfInBounds_toArray, List.set_cons_zero, List.set_cons_succ]
          refine wpAnyH_take (i := 17) (oi := { dst := some 53, op := Op.move (Operand.tmp 7), type := 3, pos := "keeps.go:118", after := #[], guard := none }) (v := ?_) rfl (by kernel_rfl) (by kernel_rfl) (by kernel_rfl) (fun _ _ _ h => h) (Or.inl ⟨by rfl, ?_⟩) hS ?_
          rotate_left 1
          · rintro wx ⟨s0, s1⟩
            (go_simp <;> (try with_reducible rfl))
          try simp only [Act.put, List.setIfInBounds_toArray, List.set_cons_zero, List.set_cons_succ]
          refine wpAnyH_take (i := 18) (oi := { dst := some 54, op := Op.indexAddr 24 (Operand.tmp 52) (Operand.tmp 53), type := 0, pos := "keeps.go:118", after := #[{ on := 16, ground := Ground.data }, { on := 17, ground := Ground.data }], guard := none }) (v := ?_) rfl (by kernel_rfl) (by kernel_rfl) (by kernel_rfl) (fun _ _ _ h => h) (Or.inl ⟨by rfl, ?_⟩) hS ?_
          rotate_left 1
          · rintro wx ⟨s0, s1⟩
            (go_simp <;> (try with_reducible rfl))
          try simp only [Act.put, List.setIfInBounds_toArray, List.set_cons_zero, List.set_cons_succ]
          refine wpAnyH_take (i := 19) (oi := { dst := some 55, op := Op.load 3 (Operand.tmp 54), type := 3, pos := "keeps.go:118", after := #[{ on := 18, ground := Ground.data }], guard := none }) (v := ?_) rfl (by kernel_rfl) (by kernel_rfl) (by kernel_rfl) (fun _ _ _ h => h) (Or.inl ⟨by rfl, ?_⟩) hS ?_
          rotate_left 1
          · rintro wx ⟨s0, s1⟩
            (go_simp <;> (try with_reducible rfl))
          try simp only [Act.put, List.setIfInBounds_toArray, List.set_cons_zero, List.set_cons_succ]
          refine wpAnyH_ready (rs := [5, 20]) (by kernel_rfl) (by simp) ?_
          refine AllReadyH.cons (o := { dst := some 41, op := Op.load 24 (Operand.tmp 40), type := 24, pos := "keeps.go:118", after := #[{ on := 4, ground := Ground.data }], guard := none }) rfl (fun K hK => ?_) (AllReadyH.cons (o := { dst := some 56, op := Op.buildSlice 24 2 #[(0, Operand.tmp 48), (1, Operand.tmp 55)], type := 24, pos := "keeps.go:118", after := #[{ on := 12, ground := Ground.data }, { on := 19, ground := Ground.data }], guard := none }) rfl (fun K hK => ?_) AllReadyH.nil)
          · go_simp
            refine hK.out _ _ ⟨c1, c2⟩ (fun hS => ?_)
            clear hK K
            try simp only [Act.put, List.setIfInBounds_toArray, List.set_cons_zero, List.set_cons_succ]
            refine wpAnyH_ready (rs := [20]) (by kernel_rfl) (by simp) ?_
            refine AllReadyH.cons (o := { dst := some 56, op := Op.buildSlice 24 2 #[(0, Operand.tmp 48), (1, Operand.tmp 55)], type := 24, pos := "keeps.go:118", after := #[{ on := 12, ground := Ground.data }, { on := 19, ground := Ground.data }], guard := none }) rfl (fun K hK => ?_) AllReadyH.nil
            go_simp
            refine hK.out _ _ ⟨((Chg.refl [] wr).alloc _).cell c1 (by simp), ((Chg.refl [] wr).alloc _).cell c2 (by simp)⟩ (fun hS => ?_)
            clear hK K
            try simp only [Act.put, List.setIfInBounds_toArray, List.set_cons_zero, List.set_cons_succ]
            refine wpAnyH_ready (rs := [21]) (by kernel_rfl) (by simp) ?_
            refine AllReadyH.cons (o := { dst := some 57, op := Op.call { callee := Callee.builtin Builtin.append, args := #[Operand.tmp 41, Operand.tmp 56], argTypes := #[24, 24] }, type := 24, pos := "keeps.go:118", after := #[{ on := 5, ground := Ground.data }, { on := 20, ground := Ground.data }], guard := none }) rfl (fun K hK => ?_) AllReadyH.nil
            refine step_append_run rfl (.tmp 41) (.tmp 56) 24 rfl _ _ (by simp [Act.eval]) (by simp [Act.eval]) happ1 ?_
            refine hK.out _ _ keep3 (fun hS => ?_)
            clear hK K
            try simp only [Act.put, List.setIfInBounds_toArray, List.set_cons_zero, List.set_cons_succ]
            refine wpAnyH_take (i := 22) (oi := { dst := some 58, op := Op.indexAddr 22 (Operand.tmp 36) (Operand.tmp 37), type := 0, pos := "keeps.go:118", after := #[{ on := 0, ground := Ground.data }, { on := 1, ground := Ground.data }, { on := 0, ground := Ground.phase }, { on := 1, ground := Ground.phase }, { on := 2, ground := Ground.phase }, { on := 3, ground := Ground.phase }, { on := 4, ground := Ground.phase }, { on := 5, ground := Ground.phase }, { on := 6, ground := Ground.phase }, { on := 7, ground := Ground.phase }, { on := 8, ground := Ground.phase }, { on := 9, ground := Ground.phase }, { on := 10, ground := Ground.phase }, { on := 11, ground := Ground.phase }, { on := 12, ground := Ground.phase }, { on := 13, ground := Ground.phase }, { on := 14, ground := Ground.phase }, { on := 15, ground := Ground.phase }, { on := 16, ground := Ground.phase }, { on := 17, ground := Ground.phase }, { on := 18, ground := Ground.phase }, { on := 19, ground := Ground.phase }, { on := 20, ground := Ground.phase }, { on := 21, ground := Ground.phase }], guard := none }) (v := ?_) rfl (by kernel_rfl) (by kernel_rfl) (by kernel_rfl) (fun _ _ _ h => h) (Or.inl ⟨by rfl, ?_⟩) hS ?_
            rotate_left 1
            · rintro wx ⟨s0, s1⟩
              (go_simp <;> (try with_reducible rfl))
            try simp only [Act.put, List.setIfInBounds_toArray, List.set_cons_zero, List.set_cons_succ]
            refine wpAnyH_ready (rs := [23]) (by kernel_rfl) (by simp) ?_
            refine AllReadyH.cons (o := { dst := none, op := Op.store 24 (Operand.tmp 58) (Operand.tmp 57), type := 0, pos := "keeps.go:118", after := #[{ on := 22, ground := Ground.data }, { on := 21, ground := Ground.data }, { on := 21, ground := Ground.chain }, { on := 0, ground := Ground.phase }, { on := 1, ground := Ground.phase }, { on := 2, ground := Ground.phase }, { on := 3, ground := Ground.phase }, { on := 4, ground := Ground.phase }, { on := 5, ground := Ground.phase }, { on := 6, ground := Ground.phase }, { on := 7, ground := Ground.phase }, { on := 8, ground := Ground.phase }, { on := 9, ground := Ground.phase }, { on := 10, ground := Ground.phase }, { on := 11, ground := Ground.phase }, { on := 12, ground := Ground.phase }, { on := 13, ground := Ground.phase }, { on := 14, ground := Ground.phase }, { on := 15, ground := Ground.phase }, { on := 16, ground := Ground.phase }, { on := 17, ground := Ground.phase }, { on := 18, ground := Ground.phase }, { on := 19, ground := Ground.phase }, { on := 20, ground := Ground.phase }, { on := 21, ground := Ground.phase }], guard := none }) rfl (fun K hK => ?_) AllReadyH.nil
            go_simp
            refine hK.out _ _ keep4 (fun hS => ?_)
            clear hK K
            try simp only [Act.put, List.setIfInBounds_toArray, List.set_cons_zero, List.set_cons_succ]
            refine wpAnyH_done (by kernel_rfl) ?_ _
            go_wp2_with fail
            go_roundw
            case rel => exact RR.out
            case measure => simp [intOf]
          · go_simp
            refine hK.out _ _ ⟨((Chg.refl [] wr).alloc _).cell c1 (by simp), ((Chg.refl [] wr).alloc _).cell c2 (by simp)⟩ (fun hS => ?_)
            clear hK K
            try simp only [Act.put, List.setIfInBounds_toArray, List.set_cons_zero, List.set_cons_succ]
            refine wpAnyH_ready (rs := [5]) (by kernel_rfl) (by simp) ?_
            refine AllReadyH.cons (o := { dst := some 41, op := Op.load 24 (Operand.tmp 40), type := 24, pos := "keeps.go:118", after := #[{ on := 4, ground := Ground.data }], guard := none }) rfl (fun K hK => ?_) AllReadyH.nil
            go_simp
            refine hK.out _ _ ⟨((Chg.refl [] wr).alloc _).cell c1 (by simp), ((Chg.refl [] wr).alloc _).cell c2 (by simp)⟩ (fun hS => ?_)
            clear hK K
            try simp only [Act.put, List.setIfInBounds_toArray, List.set_cons_zero, List.set_cons_succ]
            refine wpAnyH_ready (rs := [21]) (by kernel_rfl) (by simp) ?_
            refine AllReadyH.cons (o := { dst := some 57, op := Op.call { callee := Callee.builtin Builtin.append, args := #[Operand.tmp 41, Operand.tmp 56], argTypes := #[24, 24] }, type := 24, pos := "keeps.go:118", after := #[{ on := 5, ground := Ground.data }, { on := 20, ground := Ground.data }], guard := none }) rfl (fun K hK => ?_) AllReadyH.nil
            refine step_append_run rfl (.tmp 41) (.tmp 56) 24 rfl _ _ (by simp [Act.eval]) (by simp [Act.eval]) happ1 ?_
            refine hK.out _ _ keep3 (fun hS => ?_)
            clear hK K
            try simp only [Act.put, List.setIfInBounds_toArray, List.set_cons_zero, List.set_cons_succ]
            refine wpAnyH_take (i := 22) (oi := { dst := some 58, op := Op.indexAddr 22 (Operand.tmp 36) (Operand.tmp 37), type := 0, pos := "keeps.go:118", after := #[{ on := 0, ground := Ground.data }, { on := 1, ground := Ground.data }, { on := 0, ground := Ground.phase }, { on := 1, ground := Ground.phase }, { on := 2, ground := Ground.phase }, { on := 3, ground := Ground.phase }, { on := 4, ground := Ground.phase }, { on := 5, ground := Ground.phase }, { on := 6, ground := Ground.phase }, { on := 7, ground := Ground.phase }, { on := 8, ground := Ground.phase }, { on := 9, ground := Ground.phase }, { on := 10, ground := Ground.phase }, { on := 11, ground := Ground.phase }, { on := 12, ground := Ground.phase }, { on := 13, ground := Ground.phase }, { on := 14, ground := Ground.phase }, { on := 15, ground := Ground.phase }, { on := 16, ground := Ground.phase }, { on := 17, ground := Ground.phase }, { on := 18, ground := Ground.phase }, { on := 19, ground := Ground.phase }, { on := 20, ground := Ground.phase }, { on := 21, ground := Ground.phase }], guard := none }) (v := ?_) rfl (by kernel_rfl) (by kernel_rfl) (by kernel_rfl) (fun _ _ _ h => h) (Or.inl ⟨by rfl, ?_⟩) hS ?_
            rotate_left 1
            · rintro wx ⟨s0, s1⟩
              (go_simp <;> (try with_reducible rfl))
            try simp only [Act.put, List.setIfInBounds_toArray, List.set_cons_zero, List.set_cons_succ]
            refine wpAnyH_ready (rs := [23]) (by kernel_rfl) (by simp) ?_
            refine AllReadyH.cons (o := { dst := none, op := Op.store 24 (Operand.tmp 58) (Operand.tmp 57), type := 0, pos := "keeps.go:118", after := #[{ on := 22, ground := Ground.data }, { on := 21, ground := Ground.data }, { on := 21, ground := Ground.chain }, { on := 0, ground := Ground.phase }, { on := 1, ground := Ground.phase }, { on := 2, ground := Ground.phase }, { on := 3, ground := Ground.phase }, { on := 4, ground := Ground.phase }, { on := 5, ground := Ground.phase }, { on := 6, ground := Ground.phase }, { on := 7, ground := Ground.phase }, { on := 8, ground := Ground.phase }, { on := 9, ground := Ground.phase }, { on := 10, ground := Ground.phase }, { on := 11, ground := Ground.phase }, { on := 12, ground := Ground.phase }, { on := 13, ground := Ground.phase }, { on := 14, ground := Ground.phase }, { on := 15, ground := Ground.phase }, { on := 16, ground := Ground.phase }, { on := 17, ground := Ground.phase }, { on := 18, ground := Ground.phase }, { on := 19, ground := Ground.phase }, { on := 20, ground := Ground.phase }, { on := 21, ground := Ground.phase }], guard := none }) rfl (fun K hK => ?_) AllReadyH.nil
            go_simp
            refine hK.out _ _ keep4 (fun hS => ?_)
            clear hK K
            try simp only [Act.put, List.setIfInBounds_toArray, List.set_cons_zero, List.set_cons_succ]
            refine wpAnyH_done (by kernel_rfl) ?_ _
            go_wp2_with fail
            go_roundw
            case rel => exact RR.out
            case measure => simp [intOf]
    · obtain rfl : i = n := by omega
      have rT := rows_of (g := grOf i (turnOf L)) (grOf_length _ _).symm hr hv (fun p hp => by
        rw [grOf_edges hp]
        simp [bld, hp]) (by omega) (fun p hp y hy => by
        have := times_right HN.out p y (by rw [grOf_edge]; rw [grOf_edges hp] at hy; exact ⟨hp, hy⟩)
        rw [grOf_length] at this
        omega)
      have HRT := hid rT
      have HB := hid hb
      clear rT hr hv hb
      go_wp2_with fail
      refine (parts_gr (HR2.out.rows.below HB.out) (ofG_rightG L) (by rw [ofG_length]; unfold nodesOf; omega) (ofG_few L)).mono ?_
      rintro e w5 ⟨v5, out, rfl, ip, r5, hb5⟩
      have HIP := hid ip
      have HR5 := hid r5
      clear ip r5
      go_wp2_with fail
      refine (parts_gr (HRT.out.rows.below hb5) (times_right HN.out) (by rw [grOf_length]; omega) (times_few hn60)).mono ?_
      rintro e w6 ⟨v6, out2, rfl, ip2, r6, hb6⟩
      have eo : out = out2 := isParts_unique (ofG_rightG L) (times_right HN.out) (by rw [ofG_length, grOf_length]; exact HN.out.symm) (fun p q _ _ => leads_same (fun a b => times_same HN.out a b) p q) HIP.out ip2
      subst eo
      have HR6 := hid r6
      clear ip2 r6
      go_wp2_with fail
      refine (same_out (HR5.out.below hb6) HR6.out).mono ?_
      rintro e w7 ⟨rfl, hb7⟩
      go_wp2_with fail
      go_ret
      refine ⟨rfl, HB12.out.trans (below_low0 ?_ HB12.out.size)⟩
      exact HB.out.trans (below_low0 (hb5.trans (below_low0 (hb6.trans (below_low0 hb7 hb6.size)) hb5.size)) HB.out.size)

end Go.Proofs.Ytagfgbmaibadjaa
