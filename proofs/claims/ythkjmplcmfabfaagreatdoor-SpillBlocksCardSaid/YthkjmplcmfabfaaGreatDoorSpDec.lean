/- Contracts of the decimals at the text "1". No condition. -/
import Derived.Test.YthkjmplcmfabfaaGreatDoorSpSmall
import Derived.LoopN
import Derived.Deep.MidRow
import Derived.Laws.Rows
import Derived.StillTailTactics
namespace Go.Proofs.YthkjmplcmfabfaaGreatDoor
open Go.RowKit Go.Lib

/-- a number's cells: whether it is below nought, 96 digits, whether there is more -/
def numL (f : Nat → Int) : List Value := .bool false :: ((List.range 96).map fun i => Value.int .i8 (f i)) ++ [.bool false]
def NumAt (w : World) (b : Nat) (f : Nat → Int) : Prop := w.heap[b]? = some (.cells (numL f).toArray 160 (0, 0))
theorem numL_length (f : Nat → Int) : (numL f).length = 98 := by simp [numL]
theorem numL_digit (f : Nat → Int) {i : Nat} (h : i < 96) : (numL f)[1 + i]? = some (.int .i8 (f i)) := by
  unfold numL
  rw [List.cons_append, Nat.add_comm, List.getElem?_cons_succ, List.getElem?_append_left (by simpa using h)]
  simp [h]
theorem numL_below (f : Nat → Int) : (numL f)[0]? = some (.bool false) := rfl
theorem numL_more (f : Nat → Int) : (numL f)[97]? = some (.bool false) := by
  unfold numL
  rw [List.cons_append, List.getElem?_cons_succ, List.getElem?_append_right (by simp)]
  simp
section
variable {w : World} {b : Nat} {f : Nat → Int}
theorem NumAt.digit (h : NumAt w b f) {i : Nat} (hi : i < 96) : w.cell? ⟨b, 1 + i, none⟩ = some (.int .i8 (f i)) := cell_of h (by simpa using numL_digit f hi)
theorem NumAt.below (h : NumAt w b f) : w.cell? ⟨b, 0, none⟩ = some (.bool false) := cell_of h (by simpa using numL_below f)
theorem NumAt.more (h : NumAt w b f) : w.cell? ⟨b, 97, none⟩ = some (.bool false) := cell_of h (by simpa using numL_more f)
end
/-- the digits of 1 -/
def oneD (i : Nat) : Int := if i = 48 then 1 else 0
theorem oneD_low {i : Nat} (h : i ≠ 48) : oneD i = 0 := if_neg h

def RestRel (w : World) (m i : Value) (wr : World) : Prop := ∃ j : Nat, i = .int .i64 (j : Int) ∧ j ≤ 38 ∧ m = .bool false ∧ wr = w
set_option maxHeartbeats 1000000 in
theorem rest_one {w : World} {b : Nat} (h : NumAt w b oneD) : Calls Tryz.prog 120 #[.pointer (some ⟨b, 0, none⟩), .int .i64 39] w fun e w' => e = .returned (.int .i64 (-2)) ∧ w = w' := by
  have h1 := h.more
  have h2 := h.digit (i := 38) (by omega)
  rw [oneD_low (by omega)] at h2
  have H := hid h
  clear h
  go_enter Tryz.func120, Tryz.ntmps120
  go_wp2_with fail
  go_loopw [5, 15] (fun m i wr => RestRel w m i wr) (fun _ i _ => 38 - (intOf i).toNat)
  case atStart => exact ⟨0, rfl, by omega, rfl, rfl⟩
  case round =>
    obtain ⟨j, rfl, hj, rfl, rfl⟩ := hrel
    by_cases hg : j < 38
    · have h3 := H.out.digit (i := j) (by omega)
      rw [oneD_low (by omega)] at h3
      go_wp2_with fail
      go_roundw
      case rel => exact ⟨j + 1, by simp, by omega, rfl, rfl⟩
      case measure => simp [intOf]; omega
    · obtain rfl : j = 38 := by omega
      go_wp2_with fail
      go_ret
      exact ⟨rfl, rfl⟩

def TopRel (w : World) (i : Value) (wr : World) : Prop := ∃ j : Nat, i = .int .i64 (j : Int) ∧ 48 ≤ j ∧ j ≤ 95 ∧ wr = w
set_option maxHeartbeats 1000000 in
theorem top_one {w : World} {b : Nat} (h : NumAt w b oneD) : Calls Tryz.prog 122 #[.pointer (some ⟨b, 0, none⟩)] w fun e w' => e = .returned (.int .i64 48) ∧ w = w' := by
  have H := hid h
  clear h
  go_enter Tryz.func122, Tryz.ntmps122
  go_wp2_with fail
  go_loopw [3] (fun i wr => TopRel w i wr) (fun i _ => (intOf i).toNat)
  case atStart => exact ⟨95, rfl, by omega, by omega, rfl⟩
  case round =>
    obtain ⟨j, rfl, hj, hj2, rfl⟩ := hrel
    have h3 := H.out.digit (i := j) (by omega)
    by_cases hg : j = 48
    · subst hg
      have e : oneD 48 = 1 := rfl
      rw [e] at h3
      go_wp2_with fail
      go_ret
      exact ⟨rfl, rfl⟩
    · rw [oneD_low hg] at h3
      go_wp2_with fail
      go_roundw
      case rel => exact ⟨j - 1, by go_num, by omega, by omega, rfl⟩
      case measure => simp [intOf]; omega

/-- the powers that the digits of 1 make, one by one -/
def pw (k : Nat) : Int := if k = 48 then 0 else 10 ^ (47 - k)
theorem pw_range {k : Nat} (h1 : 38 ≤ k) (h2 : k ≤ 48) : 0 ≤ pw k ∧ pw k ≤ 1000000000 := by
  have : k = 38 ∨ k = 39 ∨ k = 40 ∨ k = 41 ∨ k = 42 ∨ k = 43 ∨ k = 44 ∨ k = 45 ∨ k = 46 ∨ k = 47 ∨ k = 48 := by omega
  rcases this with rfl | rfl | rfl | rfl | rfl | rfl | rfl | rfl | rfl | rfl | rfl <;> decide
theorem pw_next {k : Nat} (h1 : 39 ≤ k) (h2 : k ≤ 48) : 10 * pw k + oneD k = pw (k - 1) := by
  have : k = 39 ∨ k = 40 ∨ k = 41 ∨ k = 42 ∨ k = 43 ∨ k = 44 ∨ k = 45 ∨ k = 46 ∨ k = 47 ∨ k = 48 := by omega
  rcases this with rfl | rfl | rfl | rfl | rfl | rfl | rfl | rfl | rfl | rfl <;> decide
theorem oneD_range (k : Nat) : 0 ≤ oneD k ∧ oneD k ≤ 1 := by unfold oneD; split <;> omega
def DecAt (w : World) (b : Nat) (m e : Int) : Prop := w.heap[b]? = some (.cells #[.int .i64 m, .int .i64 e] 86 (0, 0))
def ExRel (w : World) (i : Value) (wr : World) : Prop := ∃ k : Nat, i = .int .i64 (k : Int) ∧ 38 ≤ k ∧ k ≤ 48 ∧ DecAt wr (w.heap.size + 1) (pw k) 0 ∧ DecAt wr w.heap.size 0 0 ∧ Below w.heap.size w wr
/-- behind the digits: how often ten is taken out -/
def ExRel2 (w : World) (wr : World) : Prop := ∃ k : Nat, k ≤ 9 ∧ DecAt wr (w.heap.size + 1) (10 ^ k) (-(k : Int)) ∧ DecAt wr w.heap.size 0 0 ∧ Below w.heap.size w wr
theorem DecAt.set0 {w : World} {b : Nat} {m e : Int} (h : DecAt w b m e) (x : Int) : DecAt (w.setCell ⟨b, 0, none⟩ (.int .i64 x)) b x e := heap_setCell_at h _
theorem DecAt.set1 {w : World} {b : Nat} {m e : Int} (h : DecAt w b m e) (x : Int) : DecAt (w.setCell ⟨b, 1, none⟩ (.int .i64 x)) b m x := heap_setCell_at h _
theorem DecAt.c0 {w : World} {b : Nat} {m e : Int} (h : DecAt w b m e) : w.cell? ⟨b, 0, none⟩ = some (.int .i64 m) := cell_of h rfl
theorem DecAt.c1 {w : World} {b : Nat} {m e : Int} (h : DecAt w b m e) : w.cell? ⟨b, 1, none⟩ = some (.int .i64 e) := cell_of h rfl
theorem DecAt.far {w : World} {b : Nat} {m e : Int} (h : DecAt w b m e) {p : Addr} (hp : b ≠ p.block) (x : Value) : DecAt (w.setCell p x) b m e := (Below.heap_setCell w p x b hp).trans h
theorem meas_dec {w w' : World} {b : Nat} {m m' e e' : Int} (h' : DecAt w' b m' e') (h : DecAt w b m e) (h0 : 0 ≤ m') (hl : m' < m) : (intOf ((w'.cell? ⟨b, 0, none⟩).getD undef)).toNat < (intOf ((w.cell? ⟨b, 0, none⟩).getD undef)).toNat := by
  rw [h'.c0, h.c0]
  simp [intOf]
  omega
set_option maxRecDepth 20000 in
set_option maxHeartbeats 1000000 in
theorem exact_one {w : World} {b : Nat} (h : NumAt w b oneD) : Calls Tryz.prog 123 #[.pointer (some ⟨b, 0, none⟩), .int .i64 48, .int .i64 39] w fun e w' => e = .returned (.agg #[.int .i64 1, .int .i64 0]) ∧ Below w.heap.size w w' := by
  have H := hid h
  have hb := heap_lt h
  clear h
  go_enter Tryz.func123, Tryz.ntmps123
  go_wp2_with fail
  go_loopw [8] (fun i wr => ExRel w i wr) (fun i _ => (intOf i).toNat)
  case atStart => exact ⟨48, rfl, by omega, by omega, heap_alloc2_new w _ _, heap_alloc_keep (heap_alloc_new w _) _, ((Below.refl _ w).alloc (Nat.le_refl _) _).alloc (by simp) _⟩
  case round =>
    obtain ⟨k, rfl, hk1, hk2, D1, D0, hbw⟩ := hrel
    have c0 := D1.c0
    have c1 := D1.c1
    have f0 := free_of (i := 0) D1
    have f1 := free_of (i := 1) D1
    by_cases hg : k = 38
    · subst hg
      have e : pw 38 = 1000000000 := by decide
      rw [e] at c0 D1
      have R := hid (show ExRel2 w (wr.setCell ⟨w.heap.size + 1, 1, none⟩ (.int .i64 (-9))) from ⟨9, by omega, by simpa using D1.set1 (-9), D0.far (by simp) _, hbw.setCell (by simp) _⟩)
      clear D1 D0
      go_wp2_with fail
      obtain ⟨w2, hw2⟩ : ∃ w2, w2 = wr.setCell ⟨w.heap.size + 1, 1, none⟩ (.int .i64 (-9)) := ⟨_, rfl⟩
      have RW := R.out
      rw [← hw2] at RW ⊢
      clear hw2 R c0 c1 f0 f1 hbw
      go_loopw [36] (fun _ wr => ExRel2 w wr) (fun _ wr => (intOf ((wr.cell? ⟨w.heap.size + 1, 0, none⟩).getD undef)).toNat)
      case atStart => exact RW
      case round =>
        clear RW
        obtain ⟨k, hk, D1, D0, hbw⟩ := hrel
        have f0 := free_of (i := 0) D1
        have f1 := free_of (i := 1) D1
        have g0 := free_of (i := 0) D0
        have g1 := free_of (i := 1) D0
        by_cases hk0 : k = 0
        · subst hk0
          have D1' : DecAt wr (w.heap.size + 1) 1 0 := by simpa using D1
          have c0 := D1'.c0
          have c1 := D1'.c1
          have d0 := D0.c0
          have d1 := D0.c1
          have hbl := (hbw.cell (p := ⟨b, 0, none⟩) hb).trans H.out.below
          have HB := hid hbw
          clear D1 D1' hbw
          go_wp2_with fail
          refine bodyPost_ret (v := .agg #[.int .i64 1, .int .i64 0]) (by simp [results, Tryz.results123, go_sem, *]) rfl ?_
          exact ⟨rfl, (HB.out.setCell (by simp) _).setCell (by simp) _⟩
        · obtain ⟨x, hx⟩ : ∃ x : Int, x = 10 ^ k := ⟨_, rfl⟩
          obtain ⟨y, hy⟩ : ∃ y : Int, y = 10 ^ (k - 1) := ⟨_, rfl⟩
          have hxy : x = 10 * y := by
            rw [hx, hy, ← Int.pow_succ']
            congr 1
            omega
          have hy0 : 0 ≤ y := by rw [hy]; exact Int.pow_nonneg (by omega)
          have hy1 : y ≤ 1000000000 := by
            rw [hy]
            have : k = 1 ∨ k = 2 ∨ k = 3 ∨ k = 4 ∨ k = 5 ∨ k = 6 ∨ k = 7 ∨ k = 8 ∨ k = 9 := by omega
            rcases this with rfl | rfl | rfl | rfl | rfl | rfl | rfl | rfl | rfl <;> decide
          rw [← hx] at D1
          have c0 := D1.c0
          have c1 := D1.c1
          have hc : (x % 10 == 0) = true := by rw [beq_iff_eq]; omega
          have hq : x / 10 = y := by omega
          have hx0 : 0 ≤ x := by omega
          have R := hid (show ExRel2 w ((wr.setCell ⟨w.heap.size + 1, 0, none⟩ (.int .i64 y)).setCell ⟨w.heap.size + 1, 1, none⟩ (.int .i64 (-(k : Int) + 1))) from ⟨k - 1, by omega, by rw [← hy]; have := (D1.set0 y).set1 (-(k : Int) + 1); rwa [show -((k - 1 : Nat) : Int) = -(k : Int) + 1 by omega], (D0.far (by simp) _).far (by simp) _, (hbw.setCell (by simp) _).setCell (by simp) _⟩)
          have hy2 : 1 ≤ y := by
            have := Int.pow_pos (m := k - 1) (show (0 : Int) < 10 by decide)
            rw [← hy] at this
            omega
          have MS := hid (meas_dec (w' := (wr.setCell ⟨w.heap.size + 1, 0, none⟩ (.int .i64 y)).setCell ⟨w.heap.size + 1, 1, none⟩ (.int .i64 (-(k : Int) + 1))) ((D1.set0 y).set1 _) D1 hy0 (by omega))
          clear D1 D0 hx hy hxy
          go_wp2_with fail
          go_roundw
          case rel => exact R.out
          case measure => exact MS.out
    · have hd := (hbw.cell (p := ⟨b, 1 + k, none⟩) hb).trans (H.out.digit (i := k) (by omega))
      have r1 := pw_range hk1 hk2
      have r2 := oneD_range k
      have hn := pw_next (k := k) (by omega) hk2
      obtain ⟨x, hx⟩ : ∃ x, x = pw k := ⟨_, rfl⟩
      obtain ⟨y, hy⟩ : ∃ y, y = oneD k := ⟨_, rfl⟩
      rw [← hx] at c0 D1 hn r1
      rw [← hy] at hd hn r2
      have R := hid (show ExRel w (.int .i64 ((k : Int) - 1)) (wr.drew.setCell ⟨w.heap.size + 1, 0, none⟩ (.int .i64 (10 * x + y))) from ⟨k - 1, by go_num, by omega, by omega, by rw [← hn]; exact DecAt.set0 (w := wr.drew) D1 _, DecAt.far (w := wr.drew) D0 (by simp) _, hbw.drew.setCell (by simp) _⟩)
      have g0 : (0 : Int) ≤ (k : Int) := by omega
      have g1 : (k : Int) < 96 := by omega
      have g2 : k < 96 := by omega
      clear D1 D0 hx hy hn
      go_wp2_with fail
      go_still_tail 12, (by kernel_rfl)
      change wpList _ _ _ _ _ wr.drew
      go_wp2_with fail
      go_roundw
      case rel => exact R.out
      case measure => simp [intOf]; omega

theorem setCells_same {b : Nat} {xs : Array Value} {t : TypeId} {f : Nat × Nat} : ∀ (vs : List Value) (o : Nat) (w : World), (∀ (j : Nat) (v : Value), vs[j]? = some v → xs[o + j]? = some v) → w.heap[b]? = some (.cells xs t f) → (w.setCells b o vs).heap[b]? = some (.cells xs t f) := by
  intro vs
  induction vs with
  | nil => intro o w _ h; exact h
  | cons v vs ih =>
    intro o w hv h
    refine ih (o + 1) _ (fun j u hj => by have := hv (j + 1) u (by simpa using hj); rwa [show o + (j + 1) = o + 1 + j by omega] at this) ?_
    have e := heap_setCell_at (i := o) h v
    rw [e]
    have h0 := hv 0 v rfl
    rw [Nat.add_zero] at h0
    obtain ⟨h1, h2⟩ := Array.getElem?_eq_some_iff.1 h0
    congr 2
    apply Array.ext_getElem?
    intro i
    rw [Array.getElem?_setIfInBounds]
    split
    · rename_i e2; subst e2; simp [h1, h2]
    · rfl
theorem Chg.setCells {F : List Nat} {a b : World} {g : Nat} (h : Chg F a b) (hg : g ∈ F ∨ a.heap.size ≤ g) : ∀ (vs : List Value) (o : Nat), Chg F a (b.setCells g o vs) := by
  intro vs
  induction vs generalizing b with
  | nil => intro o; exact h
  | cons v vs ih => intro o; exact ih (h.setCell (p := ⟨g, o, none⟩) hg v) (o + 1)

theorem zero_i8 (w : World) : (zeroValue 157).run Tryz.prog w = .ok (.int .i8 0) w := by kernel_rfl
set_option maxHeartbeats 1000000 in
theorem cut_one {w : World} {b : Nat} (h : NumAt w b oneD) : Calls Tryz.prog 121 #[.pointer (some ⟨b, 0, none⟩), .int .i64 39, .bool false] w fun e w' => e = .returned (.tuple #[]) ∧ NumAt w' b oneD ∧ Chg [b] w w' := by
  have hcl : ∀ ty, (Builtin.clear_ #[244] ty #[.slice (some ⟨b, 1, none⟩) 39 96]).run Tryz.prog w = .ok (.tuple #[]) (w.setCells b 1 (List.replicate 39 (.int .i8 0))) :=
    fun ty => Lib.run_clear_slice w 244 157 ty (.int .i8 0) Tryz.underlying244 zero_i8 rfl rfl b 1 39 96 (by omega) (fun j hj => by rw [h.digit (by omega)]; rfl) (fun j hj => free_of h)
  have h2 : NumAt (w.setCells b 1 (List.replicate 39 (.int .i8 0))) b oneD := setCells_same _ _ _ (fun j v hv => by
    rw [List.getElem?_replicate] at hv
    split at hv
    · have := numL_digit oneD (i := j) (by omega)
      rw [oneD_low (by omega)] at this
      cases hv
      simpa using this
    · cases hv) h
  have k2 : Chg [b] w (w.setCells b 1 (List.replicate 39 (.int .i8 0))) := (Chg.refl _ w).setCells (.inl (by simp)) _ _
  obtain ⟨w2, hw2⟩ : ∃ w2, w2 = w.setCells b 1 (List.replicate 39 (.int .i8 0)) := ⟨_, rfl⟩
  rw [← hw2] at hcl h2 k2
  have c97 := h2.more
  have f97 := free_of (i := 97) h2
  have H2 := hid h2
  have K2 := hid k2
  clear h h2 k2 hw2
  go_enter Tryz.func121, Tryz.ntmps121
  go_wp2_with fail
  refine wp_loop_rounds 1 ?_
  rw [rounds_succ]
  go_wp2_with fail
  go_end0
  exact ⟨rfl, setCells_same [.bool false] 97 w2 (fun j v hv => by
    cases j with
    | zero => cases hv; simpa using numL_more oneD
    | succ j => simp at hv) H2.out, K2.out.setCell (.inl (by simp)) _⟩
end Go.Proofs.YthkjmplcmfabfaaGreatDoor
