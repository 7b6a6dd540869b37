/- Contracts of bits.Mul64, bits.Mul at one and a small number; of slices.Repeat at one int. -/
import Derived.Test.YtagfgbmaibadjaaIsMem
import Derived.Laws.CopyOwn
import Derived.Laws.Bits64b
import Derived.Deep.RegionLaw
namespace Go.Proofs.Ytagfgbmaibadjaa
open Go.RowKit Go.Lib

set_option maxHeartbeats 1000000 in
theorem mul64_any (w : World) (n : Nat) (hn : n ≤ 100000) : Calls Try.prog 44 #[.int .u64 1, .int .u64 (n : Int)] w fun e w' => e = .returned (.tuple #[.int .u64 0, .int .u64 (n : Int)]) ∧ w = w' := by
  have h1 : bits .and .u64 1 4294967295 = 1 := by kernel_rfl
  have h0 : bits .and .u64 0 4294967295 = 0 := by kernel_rfl
  have h2 : bits .and .u64 (n : Int) 4294967295 = (n : Int) := by
    have h := bits_and_u64_nat n 4294967295 (by omega) (by omega)
    have e : n &&& 4294967295 = n := by
      rw [show (4294967295 : Nat) = 2 ^ 32 - 1 by decide, Nat.and_two_pow_sub_one_eq_mod]
      exact Nat.mod_eq_of_lt (by omega)
    rw [e] at h
    exact h
  have h3 : (n : Int) / 4294967296 = 0 := by omega
  have h4 : (n : Int) ≤ 100000 := by omega
  go_enter Try.func44, Try.ntmps44
  go_wp2_with fail
  go_ret2
  exact ⟨rfl, rfl⟩

set_option maxHeartbeats 400000 in
theorem mul_any (w : World) (n : Nat) (hn : n ≤ 100000) : Calls Try.prog 36 #[.int .u64 1, .int .u64 (n : Int)] w fun e w' => e = .returned (.tuple #[.int .u64 0, .int .u64 (n : Int)]) ∧ w = w' := by
  have H := hid (mul64_any w n hn)
  go_enter Try.func36, Try.ntmps36
  go_wp2_with fail
  refine H.out.mono ?_
  rintro e w' ⟨rfl, rfl⟩
  go_wp2_with fail
  go_ret2
  exact ⟨rfl, rfl⟩

/-- so many -1, then zeros -/
def rep (n j : Nat) : List Value := List.replicate j (.int .i64 (-1)) ++ List.replicate (n - j) (.int .i64 0)
theorem rep_length {n j : Nat} (h : j ≤ n) : (rep n j).length = n := by simp [rep]; omega
theorem rep_splice {n j k : Nat} (h : j + k ≤ n) : splice (rep n j) j (List.replicate k (.int .i64 (-1))) = rep n (j + k) := by
  unfold splice rep
  have e1 : (List.replicate j (Value.int .i64 (-1)) ++ List.replicate (n - j) (Value.int .i64 0)).take j = List.replicate j (Value.int .i64 (-1)) := by
    rw [List.take_append_of_le_length (by simp)]
    exact List.take_of_length_le (by simp)
  rw [e1, List.length_replicate, List.drop_append, List.drop_eq_nil_of_le (by simp), List.nil_append, List.drop_replicate, List.length_replicate, ← List.append_assoc, List.replicate_append_replicate]
  congr 2
  omega
theorem rep_get {n j i : Nat} (h : i < j) : (rep n j)[i]? = some (.int .i64 (-1)) := by
  unfold rep
  rw [List.getElem?_append_left (by simp; omega)]
  simp [h]
theorem rep_row (n : Nat) : rep n n = (List.range n).map fun i => Value.int .i64 ((fun _ => -1 : Nat → Int) i) := by
  apply List.ext_getElem?
  intro i
  by_cases hi : i < n
  · rw [rep_get hi]; simp [hi]
  · rw [List.getElem?_eq_none (by rw [rep_length (Nat.le_refl _)]; omega), List.getElem?_eq_none (by simp; omega)]

theorem make_ints (n : Nat) (h : n ≤ 100000) (u : World) : (Instr.makeSlice 24 (.int .i64 (n : Int)) (.int .i64 (n : Int))).run Try.prog u =
    .ok (.slice (some ⟨u.heap.size, 0, none⟩) n n) (u.alloc (.cells (List.replicate n (Value.int .i64 0)).toArray 3)) := by
  obtain ⟨i0, hi, hz0, hz1, hz2⟩ := info_parts Try.info3
  have h := run_make (P := Try.prog) u 24 3 i0 (.int .i64 0) Try.underlying24 hi hz0 .i64 .i64 (n : Int) (n : Int) (by omega) (Int.le_refl _) (by rw [hz2]; omega) (by omega)
  have e : madeCells #[Value.int .i64 0] n = (List.replicate n (Value.int .i64 0)).toArray := by
    apply Array.ext'
    rw [toList_madeCells_one]
  simpa [hz1, Value.cells, e] using h

def RepRel (w : World) (n : Nat) (jv : Value) (wr : World) : Prop :=
  ∃ j : Nat, jv = .int .i64 (j : Int) ∧ j ≤ n ∧ (0 < j ∨ n = 0) ∧ wr.heap[w.heap.size]? = some (.cells (rep n j).toArray 3 (0, 0)) ∧ Below w.heap.size w wr

set_option maxHeartbeats 1000000 in
theorem repeat_any (w : World) (xb n : Nat) (hx : w.cell? ⟨xb, 0, none⟩ = some (.int .i64 (-1))) (hn : n ≤ 100000) :
    Calls Try.prog 22 #[.slice (some ⟨xb, 0, none⟩) 1 1, .int .i64 (n : Int)] w fun e w' => e = .returned (.slice (some ⟨w.heap.size, 0, none⟩) n n) ∧ RowF w' w.heap.size n (fun _ => -1) ∧ Below w.heap.size w w' := by
  have HM := hid (mul_any w n hn)
  have hmk := make_ints n hn
  have hxl := World.block_lt_of_cell? _ _ hx
  have sz3 : (Try.prog.info? 3).map (·.size) = some 1 := by kernel_rfl
  have hx1 := ((Chg.refl [] w).alloc (.cells (List.replicate n (Value.int .i64 0)).toArray 3)).cell hx (by simp)
  have hg0 := heap_alloc_new w (.cells (List.replicate n (Value.int .i64 0)).toArray 3)
  have hr0 : List.replicate n (Value.int .i64 0) = rep n 0 := by simp [rep]
  rw [hr0] at hmk hx1 hg0
  have hb0 : Below w.heap.size w (w.alloc (.cells (rep n 0).toArray 3)) := (Below.refl _ w).alloc (Nat.le_refl _) _
  have HMK := hid hmk
  clear hr0
  by_cases h0 : n = 0
  · subst h0
    have hmk0 : ∀ u : World, (Instr.makeSlice 24 (.int .i64 0) (.int .i64 0)).run Try.prog u = .ok (.slice (some ⟨u.heap.size, 0, none⟩) 0 0) (u.alloc (.cells #[] 3)) := HMK.out
    have HM0 : Hid (Calls Try.prog 36 #[.int .u64 1, .int .u64 0] w fun e w' => e = .returned (.tuple #[.int .u64 0, .int .u64 0]) ∧ w = w') := hid HM.out
    clear hmk
    go_enter Try.func22, Try.ntmps22
    go_wp2_with fail
    refine HM0.out.mono ?_
    rintro e w' ⟨rfl, rfl⟩
    go_wp2_with (refine wpList_copy_nothing rfl (.tmp 31) (.tmp 32) 24 24 rfl 3 Try.underlying24 sz3 _ _ 0 0 1 1 rfl rfl rfl ?_)
    go_loopw [8] (fun jv wr => jv = .int .i64 0 ∧ wr = w.alloc (.cells #[] 3)) (fun _ _ => 0)
    case atStart => exact ⟨rfl, rfl⟩
    case round =>
      obtain ⟨rfl, rfl⟩ := hrel
      go_wp2_with fail
      go_ret
      exact ⟨rfl, heap_alloc_new w _, (Below.refl _ w).alloc (Nat.le_refl _) _⟩
  · have hnn : (0 : Int) < (n : Int) := by omega
    have hn2 : (n : Int) ≤ 100000 := by omega
    go_enter Try.func22, Try.ntmps22
    go_wp2_with fail
    refine HM.out.mono ?_
    rintro e w' ⟨rfl, rfl⟩
    go_wp2_with (refine wpList_copy_splice rfl (.tmp 31) (.tmp 32) 24 24 rfl 3 Try.underlying24 sz3 _ _ n n 1 1 rfl rfl w.heap.size 0 (rep n 0) 3 hg0 [.int .i64 (-1)] (by simp [Nat.min_def]; omega) (fun _ => ⟨rfl, _, rfl, ?yc⟩) (by rw [rep_length (by omega)]; simp; omega) (by intro v hv; simp at hv; subst hv; rfl) w.heap.size w hb0 (Nat.le_refl _) ?_)
    case yc =>
      intro j v hv
      cases j with
      | zero =>
        simp at hv
        subst hv
        have : (⟨xb, 0, none⟩ : Addr).add 0 = ⟨xb, 0, none⟩ := by unfold Addr.add; simp
        rw [this]
        exact hx1
      | succ j => simp at hv
    intro w1 hg1 hb1
    have e1 : splice (rep n 0) 0 [Value.int .i64 (-1)] = rep n 1 := by
      have := rep_splice (n := n) (j := 0) (k := 1) (by omega)
      simpa using this
    rw [e1] at hg1
    clear hmk HMK hg0 hx1 hb0
    go_wp2_with fail
    go_loopw [8] (fun jv wr => RepRel w n jv wr) (fun jv _ => n - (intOf jv).toNat)
    case atStart => exact ⟨1, rfl, by omega, by omega, hg1.out, hb1⟩
    case round =>
      obtain ⟨j, rfl, hj, hj0, hg, hb⟩ := hrel
      have HG := hid hg
      have HB := hid hb
      clear hg hb
      by_cases hgo : j < n
      · obtain ⟨k, hk⟩ : ∃ k, k = min j (n - j) := ⟨_, rfl⟩
        have hk1 : 1 ≤ k := by omega
        have hkn : j + k ≤ n := by omega
        have gd : (wr.drew).heap[w.heap.size]? = some (.cells (rep n j).toArray 3 (0, 0)) := HG.out
        have hbd : Below w.heap.size w wr.drew := HB.out.drew
        have hsrc : ∀ i v, (List.replicate k (Value.int .i64 (-1)))[i]? = some v → wr.drew.cell? ((⟨w.heap.size, 0, none⟩ : Addr).add i) = some v := fun i v hv => by
          have hadd : (⟨w.heap.size, 0, none⟩ : Addr).add i = ⟨w.heap.size, i, none⟩ := by unfold Addr.add; split <;> simp_all
          rw [hadd]
          simp only [List.getElem?_replicate] at hv
          split at hv
          · obtain rfl := Option.some.inj hv
            refine cell_of HG.out ?_
            rw [List.getElem?_toArray]
            exact rep_get (by omega)
          · cases hv
        have HSRC := hid hsrc
        have hne : ¬ n = j := by omega
        have HK := hid hk
        have hjI : (j : Int) ≤ 100000 := by omega
        have hkI : (k : Int) ≤ 100000 := by omega
        have hwr : IntKind.i64.wrap ((j : Int) + (k : Int)) = (j : Int) + (k : Int) := IntWalk.i64_in _ (by omega)
        clear hsrc hk
        go_wp2_with fail
        go_region_law (refine step_copy_splice rfl (.tmp 41) (.tmp 44) 24 24 rfl 3 Try.underlying24 sz3 (some ⟨w.heap.size, j, none⟩) (some ⟨w.heap.size, 0, none⟩) (n - j) (n - j) j n (by simp [Act.eval, Act.put]) (by simp [Act.eval, Act.put]) w.heap.size j (rep n j) 3 gd (List.replicate k (.int .i64 (-1))) (by rw [List.length_replicate, HK.out]) (fun _ => ⟨rfl, _, rfl, HSRC.out⟩) (by rw [rep_length hj, List.length_replicate]; exact hkn) (by intro v hv; rw [List.eq_of_mem_replicate hv]; rfl) w.heap.size w hbd (Nat.le_refl _) ?_; intro w4 hg4 hb4)
        rw [rep_splice hkn] at hg4
        have RR := hid (show RepRel w n (.int .i64 ((j : Int) + (k : Int))) w4 from ⟨j + k, by simp, hkn, .inl (by omega), hg4.out, hb4⟩)
        clear hg4 hb4 gd hbd
        go_simp
        go_wp2
        go_roundw
        case rel => exact RR.out
        case measure => simp [intOf]; omega
      · obtain rfl : j = n := by omega
        have HR := hid (show RowF wr w.heap.size j (fun _ => -1) from by
          have := HG.out
          rw [rep_row] at this
          exact this)
        go_wp2_with fail
        go_ret
        exact ⟨rfl, HR.out, HB.out⟩

end Go.Proofs.Ytagfgbmaibadjaa
