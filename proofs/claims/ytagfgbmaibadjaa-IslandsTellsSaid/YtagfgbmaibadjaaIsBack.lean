/- Contract of the document's own back: who reads each node. -/
import Derived.Test.YtagfgbmaibadjaaIsPosW
namespace Go.Proofs.Ytagfgbmaibadjaa
open Go.RowKit Go.Lib

/-- the edges of the nodes below k, and the first e of k's -/
def edgesAt (g : Gr) (k e : Nat) : Pairs := (List.range k).flatMap (fun a => (edges g a).map fun b => (a, b)) ++ ((edges g k).take e).map fun b => (k, b)
theorem edgesAt_step {g : Gr} {k e x : Nat} (h : (edges g k)[e]? = some x) : edgesAt g k (e + 1) = edgesAt g k e ++ [(k, x)] := by
  unfold edgesAt
  rw [List.take_add_one, h, List.map_append, ← List.append_assoc]
  rfl
theorem edgesAt_full {g : Gr} {k : Nat} : edgesAt g k (edges g k).length = edgesAt g (k + 1) 0 := by
  unfold edgesAt
  rw [List.range_succ, List.flatMap_append, List.take_length]
  simp
theorem edgesAt_zero {g : Gr} {k : Nat} : edgesAt g k 0 = (List.range k).flatMap (fun a => (edges g a).map fun b => (a, b)) := by simp [edgesAt]
def backOf (g : Gr) (x : Nat) : List Nat := readers (edgesAt g g.length 0) x
theorem mem_back {g : Gr} {x u : Nat} : u ∈ backOf g x ↔ edge g u x := by
  unfold backOf readers
  rw [edgesAt_zero]
  simp only [List.mem_map, List.mem_filter, List.mem_flatMap, List.mem_range, beq_iff_eq]
  constructor
  · rintro ⟨⟨a, b⟩, ⟨⟨k, hk, j, hj, e⟩, e2⟩, e3⟩
    simp only [Prod.mk.injEq] at e
    obtain ⟨rfl, rfl⟩ := e
    simp only at e2 e3
    subst e2 e3
    exact hj
  · intro h
    exact ⟨(u, x), ⟨⟨u, edge_lt h, x, h, rfl⟩, rfl⟩, rfl⟩
theorem edgesAt_length {g : Gr} {M : Nat} (hM : ∀ k, (edges g k).length ≤ M) (k e : Nat) : (edgesAt g k e).length ≤ (k + 1) * M := by
  have h : ∀ k, ((List.range k).flatMap (fun a => (edges g a).map fun b => (a, b))).length ≤ k * M := by
    intro k
    induction k with
    | zero => simp
    | succ k ih =>
      rw [List.range_succ, List.flatMap_append, List.length_append, Nat.succ_mul]
      have := hM k
      simp only [List.flatMap_cons, List.flatMap_nil, List.append_nil, List.length_map]
      omega
  unfold edgesAt
  rw [List.length_append, List.length_map, List.length_take, Nat.succ_mul]
  have h1 := h k
  have h2 := hM k
  omega
theorem readers_upd (E : Pairs) (a b : Nat) : upd (readers E) b (readers E b ++ [a]) = readers (E ++ [(a, b)]) := by
  funext q
  unfold upd
  rw [readers_more]
  by_cases h : q = b
  · subst h; simp
  · rw [if_neg h, if_neg (Ne.symm h), List.append_nil]

def BackRel (w : World) (g : Gr) (n : Nat) (iv : Value) (wr : World) : Prop :=
  ∃ (i : Nat) (vs : Nat → Value), iv = .int .i64 (i : Int) ∧ i ≤ n ∧ RowV wr w.heap.size n vs ∧ Rows3 wr w.heap.size n vs (readers (edgesAt g i 0)) [] ∧ Below w.heap.size w wr
def BackIn (w : World) (g : Gr) (n i : Nat) (kv : Value) (wr : World) : Prop :=
  ∃ (k : Nat) (vs : Nat → Value), kv = .int .i64 (k : Int) ∧ k ≤ (edges g i).length ∧ RowV wr w.heap.size n vs ∧ Rows3 wr w.heap.size n vs (readers (edgesAt g i k)) [] ∧ Below w.heap.size w wr
def BackEnd (w : World) (g : Gr) (n : Nat) (e : Ending) (w' : World) : Prop :=
  e = .returned (.slice (some ⟨w.heap.size, 0, none⟩) n n) ∧ RowsT w' (.slice (some ⟨w.heap.size, 0, none⟩) n n) (castG (grOf n (backOf g))) ∧ Below w.heap.size w w' ∧ ∃ vs, RowV w' w.heap.size n vs ∧ Rows3 w' w.heap.size n vs (backOf g) []

set_option maxRecDepth 20000 in
set_option maxHeartbeats 4000000 in
theorem back_any {w : World} {v : Value} {g : Gr} {n M : Nat} (h : RowsIn w v (castG g)) (hn : n = g.length) (hn2 : n ≤ 2000) (R : RightG g) (hM : ∀ k, (edges g k).length ≤ M) (hM2 : (n + 1) * M ≤ 1000000) : Calls Try.prog 30 #[v] w (BackEnd w g n) := by
  obtain ⟨ao, gc, rfl, _⟩ := rows_view h
  rw [castG_length, ← hn] at h ⊢
  have H := hid h
  have HN := hid hn
  have HR := hid R
  have HM := hid hM
  have HM2 := hid hM2
  have hmk := make_rows n (by omega)
  have r0 : RowV (w.alloc (.cells (List.replicate n (Value.slice none 0 0)).toArray 24)) w.heap.size n (fun _ => .slice none 0 0) := by
    have e := heap_alloc_new w (.cells (List.replicate n (Value.slice none 0 0)).toArray 24)
    unfold RowV
    rw [e, List.map_const']; simp
  have R0 := hid (show BackRel w g n (.int .i64 0) (w.alloc (.cells (List.replicate n (Value.slice none 0 0)).toArray 24)) from
    ⟨0, _, rfl, by omega, r0, by
      have e : readers (edgesAt g 0 0) = fun _ => [] := by funext q; simp [edgesAt, readers]
      rw [e]
      exact ⟨fun p _ => by simpa [natCells] using World.ownsRow_nil _ _ _ _, fun p _ b hb => by simp [Value.ownBlock] at hb, fun p q _ _ _ b hb => by simp [Value.ownBlock] at hb⟩, (Below.refl _ w).alloc (Nat.le_refl _) _⟩)
  simp only [List.toArray_replicate] at R0
  clear r0 h hn R hM hM2
  go_enter Try.func30, Try.ntmps30
  go_wp2_with fail
  clear hmk
  go_loopw [4] (fun iv wr => BackRel w g n iv wr) (fun iv _ => n - (intOf iv).toNat)
  case atStart => exact R0.out
  case round =>
    clear R0
    obtain ⟨i, vs, rfl, hi, hr, hv, hb⟩ := hrel
    by_cases hgo : i < n
    · obtain ⟨gb, go, lo, lc, rfl, hcl, hil⟩ := rows_cell H.out (castG_get (g := g) (i := i) (HN.out ▸ hgo))
      rw [List.length_map] at hcl hil
      obtain ⟨rn, hrn⟩ : ∃ rn, rn = (edges g i).length := ⟨_, rfl⟩
      rw [← hrn] at hcl hil
      have hrn2 := (ints_len hil).1
      have HRN := hid hrn
      have HIL := hid hil
      have HCL := hid hcl
      have c1 := (hb.cell (World.block_lt_of_cell? _ _ hcl)).trans hcl
      have RI := hid (show BackIn w g n i (.int .i64 0) wr from ⟨0, vs, rfl, Nat.zero_le _, hr, hv, hb⟩)
      clear hr hv hb hrn hil hcl
      go_wp2_with fail
      clear c1
      go_loopw [5] (fun kv y => BackIn w g n i kv y) (fun kv _ => rn - (intOf kv).toNat)
      case atStart => exact RI.out
      case round =>
        clear RI
        obtain ⟨k, vs, rfl, hk, hr, hv, hb⟩ := hrel
        rw [← HRN.out] at hk
        have c1 := (hb.cell (World.block_lt_of_cell? _ _ HCL.out)).trans HCL.out
        by_cases hkn : k < rn
        · obtain ⟨x, hx⟩ : ∃ x, (edges g i)[k]? = some x := ⟨_, List.getElem?_eq_getElem (by have := HRN.out; omega)⟩
          obtain ⟨b2, o2, rfl, c2w, x1, x2⟩ := ints_cell HIL.out (i := k) (x := (x : Int)) (by rw [List.getElem?_map, hx]; rfl)
          have c2 := (hb.cell (World.block_lt_of_cell? _ _ c2w)).trans c2w
          have hxn : x < n := by have := HR.out i x (List.mem_of_getElem? hx); have := HN.out; omega
          have hstep := edgesAt_step hx
          obtain ⟨E, hE⟩ : ∃ E, E = edgesAt g i k := ⟨_, rfl⟩
          rw [← hE] at hv hstep
          have hlr : (readers E x).length ≤ 1000000 := by
            have h1 := readers_le E x
            have h2 := edgesAt_length HM.out i k
            have h3 : (i + 1) * M ≤ (n + 1) * M := Nat.mul_le_mul_right M (by omega)
            have := HM2.out
            rw [← hE] at h2
            omega
          have rp0 := hr.get hxn
          have rp1 := ((Chg.refl [] wr).alloc (.cells #[.int .i64 (i : Int)] 3)).cell rp0 (by simp)
          have hs := hb.size
          obtain ⟨a3, c3, w3, happ, hv3, ch3⟩ := (hv.chg ((Chg.refl [] wr).drewN 1) (by simp)).apps (i := x) hxn hs hlr (by simp) [i] (by simp) (by simp)
          have hr3 := rowv_keep (w := wr.drewN 1) (f := vs) hr (((hv.chg ((Chg.refl [] wr).drewN 1) (by simp)).row x hxn)) ch3
          have hb3 : Below w.heap.size (wr.drewN 1) w3 := ch3.below (fun y hy => by
            simp only [own, Option.mem_toList] at hy
            exact ((hv.row x hxn).lt y hy).1) hs
          have happ1 : (Builtin.append_ #[24, 24] 24 #[vs x, .slice (some ⟨wr.heap.size, 0, none⟩) 1 1]).run Try.prog (wr.alloc (.cells #[.int .i64 (i : Int)] 3)).drew = .ok (.slice a3 ((readers E x).length + 1) c3) w3 := happ
          clear happ
          have kq := hr3.get hxn
          have fq := hr3.free (i := x)
          have hb4 := hb3.setCell (p := ⟨w.heap.size, x, none⟩) (Nat.le_refl _) (.slice a3 ((readers E x).length + 1) c3)
          have keep3 := And.intro ((hb3.cell (World.block_lt_of_cell? _ _ HCL.out)).trans c1) ((hb3.cell (World.block_lt_of_cell? _ _ c2w)).trans c2)
          have keep4 := And.intro ((hb4.cell (World.block_lt_of_cell? _ _ HCL.out)).trans c1) ((hb4.cell (World.block_lt_of_cell? _ _ c2w)).trans c2)
          have hv4 := hv3.stores hr3 (k := x) (.slice a3 ((readers E x).length + 1) c3)
          have hr4 := hr3.set (k := x) (.slice a3 ((readers E x).length + 1) c3)
          rw [readers_upd, ← hstep] at hv4
          have RR := hid (show BackIn w g n i (.int .i64 ((k : Int) + 1)) (w3.setCell ⟨w.heap.size, x, none⟩ (.slice a3 ((readers E x).length + 1) c3)) from
            ⟨k + 1, _, by simp, by have := HRN.out; omega, hr4, hv4, (bdrew hb 1).trans hb4⟩)
          clear hr hv hb hx c2w hstep hlr hs hr3 hb3 hr4 hv4 hb4 hv3 ch3 hE
          go_wp2_with fail
          refine wp_region_held_drew (S := fun y => y.cell? ⟨gb, go + i, none⟩ = some (.slice (some ⟨b2, o2, none⟩) rn lc) ∧ y.cell? ⟨b2, o2 + k, none⟩ = some (.int .i64 (x : Int))) (by kernel_rfl) ⟨c1, c2⟩ (fun hS => ?_)
          refine wpAnyH_take (i := 0) (oi := { dst := some 24, op := Op.move (Operand.tmp 3), type := 22, pos := "ref.go:26", after := #[], guard := none }) (v := ?_) rfl (by kernel_rfl) (by kernel_rfl) (by kernel_rfl) (fun _ _ _ h => h) (Or.inl ⟨by rfl, ?_⟩) hS ?_
          rotate_left 1
          · rintro wx ⟨s0, s1⟩
            (go_simp <;> (try with_reducible rfl))
          try simp only [Act.put, List.setIfInBounds_toArray, List.set_cons_zero, List.set_cons_succ]
          refine wpAnyH_take (i := 1) (oi := { dst := some 25, op := Op.move (Operand.tmp 0), type := 22, pos := "ref.go:26", after := #[], guard := none }) (v := ?_) rfl (by kernel_rfl) (by kernel_rfl) (by kernel_rfl) (fun _ _ _ h => h) (Or.inl ⟨by rfl, ?_⟩) hS ?_
          rotate_left 1
          · rintro wx ⟨s0, s1⟩
            (go_simp <;> (try with_reducible rfl))
          try simp only [Act.put, List.setIfInBounds_toArray, List.set_cons_zero, List.set_cons_succ]
          refine wpAnyH_take (i := 2) (oi := { dst := some 26, op := Op.move (Operand.tmp 4), type := 3, pos := "ref.go:26", after := #[], guard := none }) (v := ?_) rfl (by kernel_rfl) (by kernel_rfl) (by kernel_rfl) (fun _ _ _ h => h) (Or.inl ⟨by rfl, ?_⟩) hS ?_
          rotate_left 1
          · rintro wx ⟨s0, s1⟩
            (go_simp <;> (try with_reducible rfl))
          try simp only [Act.put, List.setIfInBounds_toArray, List.set_cons_zero, List.set_cons_succ]
          refine wpAnyH_take (i := 3) (oi := { dst := some 27, op := Op.indexAddr 22 (Operand.tmp 25) (Operand.tmp 26), type := 0, pos := "ref.go:26", after := #[{ on := 1, ground := Ground.data }, { on := 2, ground := Ground.data }], guard := none }) (v := ?_) rfl (by kernel_rfl) (by kernel_rfl) (by kernel_rfl) (fun _ _ _ h => h) (Or.inl ⟨by rfl, ?_⟩) hS ?_
          rotate_left 1
          · rintro wx ⟨s0, s1⟩
            (go_simp <;> (try with_reducible rfl))
          try simp only [Act.put, List.setIfInBounds_toArray, List.set_cons_zero, List.set_cons_succ]
          refine wpAnyH_take (i := 4) (oi := { dst := some 28, op := Op.load 24 (Operand.tmp 27), type := 24, pos := "ref.go:26", after := #[{ on := 3, ground := Ground.data }], guard := none }) (v := ?_) rfl (by kernel_rfl) (by kernel_rfl) (by kernel_rfl) (fun _ _ _ h => h) (Or.inl ⟨by rfl, ?_⟩) hS ?_
          rotate_left 1
          · rintro wx ⟨s0, s1⟩
            (go_simp <;> (try with_reducible rfl))
          try simp only [Act.put, List.setIfInBounds_toArray, List.set_cons_zero, List.set_cons_succ]
          refine wpAnyH_take (i := 5) (oi := { dst := some 29, op := Op.move (Operand.tmp 5), type := 3, pos := "ref.go:26", after := #[], guard := none }) (v := ?_) rfl (by kernel_rfl) (by kernel_rfl) (by kernel_rfl) (fun _ _ _ h => h) (Or.inl ⟨by rfl, ?_⟩) hS ?_
          rotate_left 1
          · rintro wx ⟨s0, s1⟩
            (go_simp <;> (try with_reducible rfl))
          try simp only [Act.put, List.setIfInBounds_toArray, List.set_cons_zero, List.set_cons_succ]
          refine wpAnyH_take (i := 6) (oi := { dst := some 30, op := Op.indexAddr 24 (Operand.tmp 28) (Operand.tmp 29), type := 0, pos := "ref.go:26", after := #[{ on := 4, ground := Ground.data }, { on := 5, ground := Ground.data }], guard := none }) (v := ?_) rfl (by kernel_rfl) (by kernel_rfl) (by kernel_rfl) (fun _ _ _ h => h) (Or.inl ⟨by rfl, ?_⟩) hS ?_
          rotate_left 1
          · rintro wx ⟨s0, s1⟩
            (go_simp <;> (try with_reducible rfl))
          try simp only [Act.put, List.setIfInBounds_toArray, List.set_cons_zero, List.set_cons_succ]
          refine wpAnyH_take (i := 7) (oi := { dst := some 31, op := Op.load 3 (Operand.tmp 30), type := 3, pos := "ref.go:26", after := #[{ on := 6, ground := Ground.data }], guard := none }) (v := ?_) rfl (by kernel_rfl) (by kernel_rfl) (by kernel_rfl) (fun _ _ _ h => h) (Or.inl ⟨by rfl, ?_⟩) hS ?_
          rotate_left 1
          · rintro wx ⟨s0, s1⟩
            (go_simp <;> (try with_reducible rfl))
          try simp only [Act.put, List.setIfInBounds_toArray, List.set_cons_zero, List.set_cons_succ]
          refine wpAnyH_take (i := 8) (oi := { dst := some 32, op := Op.move (Operand.tmp 3), type := 22, pos := "ref.go:26", after := #[], guard := none }) (v := ?_) rfl (by kernel_rfl) (by kernel_rfl) (by kernel_rfl) (fun _ _ _ h => h) (Or.inl ⟨by rfl, ?_⟩) hS ?_
          rotate_left 1
          · rintro wx ⟨s0, s1⟩
            (go_simp <;> (try with_reducible rfl))
          try simp only [Act.put, List.setIfInBounds_toArray, List.set_cons_zero, List.set_cons_succ]
          refine wpAnyH_take (i := 9) (oi := { dst := some 33, op := Op.move (Operand.tmp 0), type := 22, pos := "ref.go:26", after := #[], guard := none }) (v := ?_) rfl (by kernel_rfl) (by kernel_rfl) (by kernel_rfl) (fun _ _ _ h => h) (Or.inl ⟨by rfl, ?_⟩) hS ?_
          rotate_left 1
          · rintro wx ⟨s0, s1⟩
            (go_simp <;> (try with_reducible rfl))
          try simp only [Act.put, List.setIfInBounds_toArray, List.set_cons_zero, List.set_cons_succ]
          refine wpAnyH_take (i := 10) (oi := { dst := some 34, op := Op.move (Operand.tmp 4), type := 3, pos := "ref.go:26", after := #[], guard := none }) (v := ?_) rfl (by kernel_rfl) (by kernel_rfl) (by kernel_rfl) (fun _ _ _ h => h) (Or.inl ⟨by rfl, ?_⟩) hS ?_
          rotate_left 1
          · rintro wx ⟨s0, s1⟩
            (go_simp <;> (try with_reducible rfl))
          try simp only [Act.put, List.setIfInBounds_toArray, List.set_cons_zero, List.set_cons_succ]
          refine wpAnyH_take (i := 11) (oi := { dst := some 35, op := Op.indexAddr 22 (Operand.tmp 33) (Operand.tmp 34), type := 0, pos := "ref.go:26", after := #[{ on := 9, ground := Ground.data }, { on := 10, ground := Ground.data }], guard := none }) (v := ?_) rfl (by kernel_rfl) (by kernel_rfl) (by kernel_rfl) (fun _ _ _ h => h) (Or.inl ⟨by rfl, ?_⟩) hS ?_
          rotate_left 1
          · rintro wx ⟨s0, s1⟩
            (go_simp <;> (try with_reducible rfl))
          try simp only [Act.put, List.setIfInBounds_toArray, List.set_cons_zero, List.set_cons_succ]
          refine wpAnyH_take (i := 12) (oi := { dst := some 36, op := Op.load 24 (Operand.tmp 35), type := 24, pos := "ref.go:26", after := #[{ on := 11, ground := Ground.data }], guard := none }) (v := ?_) rfl (by kernel_rfl) (by kernel_rfl) (by kernel_rfl) (fun _ _ _ h => h) (Or.inl ⟨by rfl, ?_⟩) hS ?_
          rotate_left 1
          · rintro wx ⟨s0, s1⟩
            (go_simp <;> (try with_reducible rfl))
          try simp only [Act.put, List.setIfInBounds_toArray, List.set_cons_zero, List.set_cons_succ]
          refine wpAnyH_take (i := 13) (oi := { dst := some 37, op := Op.move (Operand.tmp 5), type := 3, pos := "ref.go:26", after := #[], guard := none }) (v := ?_) rfl (by kernel_rfl) (by kernel_rfl) (by kernel_rfl) (fun _ _ _ h => h) (Or.inl ⟨by rfl, ?_⟩) hS ?_
          rotate_left 1
          · rintro wx ⟨s0, s1⟩
            (go_simp <;> (try with_reducible rfl))
          try simp only [Act.put, List.setIfInBounds_toArray, List.set_cons_zero, List.set_cons_succ]
          refine wpAnyH_take (i := 14) (oi := { dst := some 38, op := Op.indexAddr 24 (Operand.tmp 36) (Operand.tmp 37), type := 0, pos := "ref.go:26", after := #[{ on := 12, ground := Ground.data }, { on := 13, ground := Ground.data }], guard := none }) (v := ?_) rfl (by kernel_rfl) (by kernel_rfl) (by kernel_rfl) (fun _ _ _ h => h) (Or.inl ⟨by rfl, ?_⟩) hS ?_
          rotate_left 1
          · rintro wx ⟨s0, s1⟩
            (go_simp <;> (try with_reducible rfl))
          try simp only [Act.put, List.setIfInBounds_toArray, List.set_cons_zero, List.set_cons_succ]
          refine wpAnyH_take (i := 15) (oi := { dst := some 39, op := Op.load 3 (Operand.tmp 38), type := 3, pos := "ref.go:26", after := #[{ on := 14, ground := Ground.data }], guard := none }) (v := ?_) rfl (by kernel_rfl) (by kernel_rfl) (by kernel_rfl) (fun _ _ _ h => h) (Or.inl ⟨by rfl, ?_⟩) hS ?_
          rotate_left 1
          · rintro wx ⟨s0, s1⟩
            (go_simp <;> (try with_reducible rfl))
          try simp only [Act.put, List.setIfInBounds_toArray, List.set_cons_zero, List.set_cons_succ]
          refine wpAnyH_take (i := 16) (oi := { dst := some 40, op := Op.indexAddr 22 (Operand.tmp 32) (Operand.tmp 39), type := 0, pos := "ref.go:26", after := #[{ on := 8, ground := Ground.data }, { on := 15, ground := Ground.data }], guard := none }) (v := ?_) rfl (by kernel_rfl) (by kernel_rfl) (by kernel_rfl) (fun _ _ _ h => h) (Or.inl ⟨by rfl, ?_⟩) hS ?_
          rotate_left 1
          · rintro wx ⟨s0, s1⟩
            (go_simp <;> (try with_reducible rfl))
          try simp only [Act.put, List.setIfInBounds_toArray, List.set_cons_zero, List.set_cons_succ]
          refine wpAnyH_take (i := 18) (oi := { dst := some 42, op := Op.move (Operand.tmp 4), type := 3, pos := "ref.go:26", after := #[], guard := none }) (v := ?_) rfl (by kernel_rfl) (by kernel_rfl) (by kernel_rfl) (fun _ _ _ h => h) (Or.inl ⟨by rfl, ?_⟩) hS ?_
          rotate_left 1
          · rintro wx ⟨s0, s1⟩
            (go_simp <;> (try with_reducible rfl))
          try simp only [Act.put, List.setIfInBounds_toArray, List.set_cons_zero, List.set_cons_succ]
          refine wpAnyH_ready (rs := [17, 19]) (by kernel_rfl) (by simp) ?_
          refine AllReadyH.cons (o := { dst := some 41, op := Op.load 24 (Operand.tmp 40), type := 24, pos := "ref.go:26", after := #[{ on := 16, ground := Ground.data }], guard := none }) rfl (fun K hK => ?_) (AllReadyH.cons (o := { dst := some 43, op := Op.buildSlice 24 1 #[(0, Operand.tmp 42)], type := 24, pos := "ref.go:26", after := #[{ on := 18, ground := Ground.data }], guard := none }) rfl (fun K hK => ?_) AllReadyH.nil)
          · go_simp
            refine hK.out _ _ ⟨c1, c2⟩ (fun hS => ?_)
            clear hK K
            try simp only [Act.put, List.setIfInBounds_toArray, List.set_cons_zero, List.set_cons_succ]
            refine wpAnyH_ready (rs := [19]) (by kernel_rfl) (by simp) ?_
            refine AllReadyH.cons (o := { dst := some 43, op := Op.buildSlice 24 1 #[(0, Operand.tmp 42)], type := 24, pos := "ref.go:26", after := #[{ on := 18, ground := Ground.data }], guard := none }) rfl (fun K hK => ?_) AllReadyH.nil
            go_simp
            refine hK.out _ _ ⟨((Chg.refl [] wr).alloc _).cell c1 (by simp), ((Chg.refl [] wr).alloc _).cell c2 (by simp)⟩ (fun hS => ?_)
            clear hK K
            try simp only [Act.put, List.setIfInBounds_toArray, List.set_cons_zero, List.set_cons_succ]
            refine wpAnyH_ready (rs := [20]) (by kernel_rfl) (by simp) ?_
            refine AllReadyH.cons (o := { dst := some 44, op := Op.call { callee := Callee.builtin Builtin.append, args := #[Operand.tmp 41, Operand.tmp 43], argTypes := #[24, 24] }, type := 24, pos := "ref.go:26", after := #[{ on := 17, ground := Ground.data }, { on := 19, ground := Ground.data }], guard := none }) rfl (fun K hK => ?_) AllReadyH.nil
            refine step_append_run rfl (.tmp 41) (.tmp 43) 24 rfl _ _ (by simp [Act.eval]) (by simp [Act.eval]) happ1 ?_
            refine hK.out _ _ keep3 (fun hS => ?_)
            clear hK K
            try simp only [Act.put, List.setIfInBounds_toArray, List.set_cons_zero, List.set_cons_succ]
            refine wpAnyH_take (i := 21) (oi := { dst := some 45, op := Op.indexAddr 22 (Operand.tmp 24) (Operand.tmp 31), type := 0, pos := "ref.go:26", after := #[{ on := 0, ground := Ground.data }, { on := 7, ground := Ground.data }, { on := 0, ground := Ground.phase }, { on := 1, ground := Ground.phase }, { on := 2, ground := Ground.phase }, { on := 3, ground := Ground.phase }, { on := 4, ground := Ground.phase }, { on := 5, ground := Ground.phase }, { on := 6, ground := Ground.phase }, { on := 7, ground := Ground.phase }, { on := 8, ground := Ground.phase }, { on := 9, ground := Ground.phase }, { on := 10, ground := Ground.phase }, { on := 11, ground := Ground.phase }, { on := 12, ground := Ground.phase }, { on := 13, ground := Ground.phase }, { on := 14, ground := Ground.phase }, { on := 15, ground := Ground.phase }, { on := 16, ground := Ground.phase }, { on := 17, ground := Ground.phase }, { on := 18, ground := Ground.phase }, { on := 19, ground := Ground.phase }, { on := 20, ground := Ground.phase }], guard := none }) (v := ?_) rfl (by kernel_rfl) (by kernel_rfl) (by kernel_rfl) (fun _ _ _ h => h) (Or.inl ⟨by rfl, ?_⟩) hS ?_
            rotate_left 1
            · rintro wx ⟨s0, s1⟩
              (go_simp <;> (try with_reducible rfl))
            try simp only [Act.put, List.setIfInBounds_toArray, List.set_cons_zero, List.set_cons_succ]
            refine wpAnyH_ready (rs := [22]) (by kernel_rfl) (by simp) ?_
            refine AllReadyH.cons (o := { dst := none, op := Op.store 24 (Operand.tmp 45) (Operand.tmp 44), type := 0, pos := "ref.go:26", after := #[{ on := 21, ground := Ground.data }, { on := 20, ground := Ground.data }, { on := 20, ground := Ground.chain }, { on := 0, ground := Ground.phase }, { on := 1, ground := Ground.phase }, { on := 2, ground := Ground.phase }, { on := 3, ground := Ground.phase }, { on := 4, ground := Ground.phase }, { on := 5, ground := Ground.phase }, { on := 6, ground := Ground.phase }, { on := 7, ground := Ground.phase }, { on := 8, ground := Ground.phase }, { on := 9, ground := Ground.phase }, { on := 10, ground := Ground.phase }, { on := 11, ground := Ground.phase }, { on := 12, ground := Ground.phase }, { on := 13, ground := Ground.phase }, { on := 14, ground := Ground.phase }, { on := 15, ground := Ground.phase }, { on := 16, ground := Ground.phase }, { on := 17, ground := Ground.phase }, { on := 18, ground := Ground.phase }, { on := 19, ground := Ground.phase }, { on := 20, ground := Ground.phase }], guard := none }) rfl (fun K hK => ?_) AllReadyH.nil
            go_simp
            refine hK.out _ _ keep4 (fun hS => ?_)
            clear hK K
            try simp only [Act.put, List.setIfInBounds_toArray, List.set_cons_zero, List.set_cons_succ]
            refine wpAnyH_done (by kernel_rfl) ?_ _
            go_wp2_with fail
            go_roundw
            case rel => exact RR.out
            case measure => simp [intOf]; omega
          · go_simp
            refine hK.out _ _ ⟨((Chg.refl [] wr).alloc _).cell c1 (by simp), ((Chg.refl [] wr).alloc _).cell c2 (by simp)⟩ (fun hS => ?_)
            clear hK K
            try simp only [Act.put, List.setIfInBounds_toArray, List.set_cons_zero, List.set_cons_succ]
            refine wpAnyH_ready (rs := [17]) (by kernel_rfl) (by simp) ?_
            refine AllReadyH.cons (o := { dst := some 41, op := Op.load 24 (Operand.tmp 40), type := 24, pos := "ref.go:26", after := #[{ on := 16, ground := Ground.data }], guard := none }) rfl (fun K hK => ?_) AllReadyH.nil
            go_simp
            refine hK.out _ _ ⟨((Chg.refl [] wr).alloc _).cell c1 (by simp), ((Chg.refl [] wr).alloc _).cell c2 (by simp)⟩ (fun hS => ?_)
            clear hK K
            try simp only [Act.put, List.setIfInBounds_toArray, List.set_cons_zero, List.set_cons_succ]
            refine wpAnyH_ready (rs := [20]) (by kernel_rfl) (by simp) ?_
            refine AllReadyH.cons (o := { dst := some 44, op := Op.call { callee := Callee.builtin Builtin.append, args := #[Operand.tmp 41, Operand.tmp 43], argTypes := #[24, 24] }, type := 24, pos := "ref.go:26", after := #[{ on := 17, ground := Ground.data }, { on := 19, ground := Ground.data }], guard := none }) rfl (fun K hK => ?_) AllReadyH.nil
            refine step_append_run rfl (.tmp 41) (.tmp 43) 24 rfl _ _ (by simp [Act.eval]) (by simp [Act.eval]) happ1 ?_
            refine hK.out _ _ keep3 (fun hS => ?_)
            clear hK K
            try simp only [Act.put, List.setIfInBounds_toArray, List.set_cons_zero, List.set_cons_succ]
            refine wpAnyH_take (i := 21) (oi := { dst := some 45, op := Op.indexAddr 22 (Operand.tmp 24) (Operand.tmp 31), type := 0, pos := "ref.go:26", after := #[{ on := 0, ground := Ground.data }, { on := 7, ground := Ground.data }, { on := 0, ground := Ground.phase }, { on := 1, ground := Ground.phase }, { on := 2, ground := Ground.phase }, { on := 3, ground := Ground.phase }, { on := 4, ground := Ground.phase }, { on := 5, ground := Ground.phase }, { on := 6, ground := Ground.phase }, { on := 7, ground := Ground.phase }, { on := 8, ground := Ground.phase }, { on := 9, ground := Ground.phase }, { on := 10, ground := Ground.phase }, { on := 11, ground := Ground.phase }, { on := 12, ground := Ground.phase }, { on := 13, ground := Ground.phase }, { on := 14, ground := Ground.phase }, { on := 15, ground := Ground.phase }, { on := 16, ground := Ground.phase }, { on := 17, ground := Ground.phase }, { on := 18, ground := Ground.phase }, { on := 19, ground := Ground.phase }, { on := 20, ground := Ground.phase }], guard := none }) (v := ?_) rfl (by kernel_rfl) (by kernel_rfl) (by kernel_rfl) (fun _ _ _ h => h) (Or.inl ⟨by rfl, ?_⟩) hS ?_
            rotate_left 1
            · rintro wx ⟨s0, s1⟩
              (go_simp <;> (try with_reducible rfl))
            try simp only [Act.put, List.setIfInBounds_toArray, List.set_cons_zero, List.set_cons_succ]
            refine wpAnyH_ready (rs := [22]) (by kernel_rfl) (by simp) ?_
            refine AllReadyH.cons (o := { dst := none, op := Op.store 24 (Operand.tmp 45) (Operand.tmp 44), type := 0, pos := "ref.go:26", after := #[{ on := 21, ground := Ground.data }, { on := 20, ground := Ground.data }, { on := 20, ground := Ground.chain }, { on := 0, ground := Ground.phase }, { on := 1, ground := Ground.phase }, { on := 2, ground := Ground.phase }, { on := 3, ground := Ground.phase }, { on := 4, ground := Ground.phase }, { on := 5, ground := Ground.phase }, { on := 6, ground := Ground.phase }, { on := 7, ground := Ground.phase }, { on := 8, ground := Ground.phase }, { on := 9, ground := Ground.phase }, { on := 10, ground := Ground.phase }, { on := 11, ground := Ground.phase }, { on := 12, ground := Ground.phase }, { on := 13, ground := Ground.phase }, { on := 14, ground := Ground.phase }, { on := 15, ground := Ground.phase }, { on := 16, ground := Ground.phase }, { on := 17, ground := Ground.phase }, { on := 18, ground := Ground.phase }, { on := 19, ground := Ground.phase }, { on := 20, ground := Ground.phase }], guard := none }) rfl (fun K hK => ?_) AllReadyH.nil
            go_simp
            refine hK.out _ _ keep4 (fun hS => ?_)
            clear hK K
            try simp only [Act.put, List.setIfInBounds_toArray, List.set_cons_zero, List.set_cons_succ]
            refine wpAnyH_done (by kernel_rfl) ?_ _
            go_wp2_with fail
            go_roundw
            case rel => exact RR.out
            case measure => simp [intOf]; omega
        · have RR := hid (show BackRel w g n (.int .i64 ((i : Int) + 1)) wr from ⟨i + 1, vs, by simp, by omega, hr, by
            have : k = (edges g i).length := by have := HRN.out; omega
            rw [this, edgesAt_full] at hv
            exact hv, hb⟩)
          clear hr hv hb
          go_wp2_with fail
          go_roundw
          case rel => exact RR.out
          case measure => simp [intOf]; omega
    · have hin : i = n := by omega
      have RR := hid (show BackEnd w g n (.returned (.slice (some ⟨w.heap.size, 0, none⟩) n n)) wr from ⟨rfl, rows_of (g := grOf n (backOf g)) (grOf_length _ _).symm hr hv (fun p hp => by
        rw [grOf_edges hp, hin, HN.out]
        rfl) (by omega) (fun p hp y hy => by
        rw [grOf_edges hp, mem_back] at hy
        have := edge_lt hy
        have := HN.out
        omega), hb, vs, hr, by
        rw [hin, HN.out] at hv
        exact (HN.out ▸ hv)⟩)
      clear hr hv hb hin
      go_wp2_with fail
      go_ret
      exact RR.out

end Go.Proofs.Ytagfgbmaibadjaa
