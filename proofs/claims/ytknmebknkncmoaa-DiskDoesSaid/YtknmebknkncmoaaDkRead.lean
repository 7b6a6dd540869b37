/- Contracts of (*disk.Disk).Read and of all. -/
import Derived.Test.YtknmebknkncmoaaDkSmall
namespace Go.Proofs.Ytknmebknkncmoaa
open Go.RowKit Go.Lib

def bstr (l : Bs) : ByteArray := ⟨l.toArray⟩
abbrev str (l : Bs) : Value := .string (bstr l)

theorem foldl_push (l : Bs) : (l.map (fun b => (b.toNat : Int))).foldl (fun (r : ByteArray) n => r.push (UInt8.ofNat n.toNat)) ByteArray.empty = ⟨l.toArray⟩ := by
  rw [foldl_push_byteCells]; congr 1; show #[] ++ l.toArray = l.toArray; simp

theorem conv_row {w : World} {b off l c : Nat} {xs : Bs} (hb : w.heap[b]? = some (.cells (byteCells xs).toArray 5 (0, 0))) (h : off + l ≤ xs.length) :
    (convert 35 9 (.slice (some ⟨b, off, none⟩) l c)).run Try.prog w = .ok (str ((xs.drop off).take l)) w := by
  rw [run_convert_bytes_string w 35 9 5 _ l c Try.underlying35 Try.underlying5 Try.underlying9]
  have hl := run_loadCells_list (P := Try.prog) w ⟨b, off, none⟩ (((xs.drop off).take l).map fun x => Value.int .u8 (x.toNat : Int)) (fun j v hv => by
    have hadd : (⟨b, off, none⟩ : Addr).add j = ⟨b, off + j, none⟩ := by unfold Addr.add; split <;> simp_all
    rw [hadd, cell_of_row w b (off + j) _ 5 (0, 0) hb]
    simp only [List.getElem?_map, List.getElem?_take, List.getElem?_drop] at hv
    simp only [byteCells, List.getElem?_toArray, List.getElem?_map]
    split at hv
    · exact hv
    · simp at hv)
  have hlen : (((xs.drop off).take l).map fun x => Value.int .u8 (x.toNat : Int)).length = l := by simp; omega
  rw [hlen] at hl
  have e : (((xs.drop off).take l).map fun x => Value.int .u8 (x.toNat : Int)) = ((((xs.drop off).take l).map fun x => (x.toNat : Int)).map (Value.int .u8)) := by rw [List.map_map]; rfl
  rw [e] at hl
  rw [run_bytesToString w _ l c _ hl, foldl_push]
  rfl

set_option maxHeartbeats 400000 in
theorem read_nil (a n : Int) (w : World) : Calls Try.prog 13 #[.pointer none, .int .i64 a, .int .i64 n] w fun e w' => e = .returned (.tuple #[str [], .int .i64 1]) ∧ w = w' := by
  go_enter Try.func13, Try.ntmps13
  go_wp2
  go_ret2
  exact ⟨rfl, rfl⟩

set_option maxHeartbeats 400000 in
theorem read_bad {w : World} {base bd bk bn : Nat} {pv : Value} {kept now : Bs} {pend : List (Nat × Bs)} (D : DiskAt w base bd bk bn pv kept now pend) (a n : Int)
    (h1 : -9223372036854775808 ≤ a) (h2 : a ≤ 9223372036854775807) (h3 : -9223372036854775808 ≤ n) (h4 : n ≤ 9223372036854775807) (hb : wthB kept.length a n = false) :
    Calls Try.prog 13 #[.pointer (some ⟨bd, 0, none⟩), .int .i64 a, .int .i64 n] w fun e w' => e = .returned (.tuple #[str [], .int .i64 260]) ∧ w = w' := by
  have hw := within_any D a n h1 h2 h3 h4
  rw [hb] at hw
  have HW := hid hw
  clear hw hb
  go_enter Try.func13, Try.ntmps13
  go_wp2_with (go_at_call 30; refine HW.out.mono ?_; rintro e w' ⟨rfl, rfl⟩)
  go_ret2
  exact ⟨rfl, rfl⟩

set_option maxHeartbeats 400000 in
theorem read_ok {w : World} {base bd bk bn : Nat} {pv : Value} {kept now : Bs} {pend : List (Nat × Bs)} (D : DiskAt w base bd bk bn pv kept now pend) (a n : Nat) (h : a + n ≤ kept.length) :
    Calls Try.prog 13 #[.pointer (some ⟨bd, 0, none⟩), .int .i64 a, .int .i64 n] w fun e w' => e = .returned (.tuple #[str ((now.drop a).take n), .int .i64 0]) ∧ w = w' := by
  have hi := D.hi
  have hb : wthB kept.length a n = true := by simp [wthB]; omega
  have hw := within_any D a n (by omega) (by omega) (by omega) (by omega)
  rw [hb] at hw
  have HW := hid hw
  have c1 := cell_of (i := 1) D.hd rfl
  have hk1 := fun c => conv_row (off := a) (l := n) (c := c) D.hn (by have := D.len; omega)
  have g1 : (a : Int) ≤ (a : Int) + (n : Int) := by omega
  have g2 : (a : Int) + (n : Int) ≤ (kept.length : Int) := by omega
  have hk2 := fun c => conv_row (off := 0) (l := 0) (c := c) D.hn (by omega)
  clear hw hb D
  by_cases ha : a = kept.length
  · obtain rfl : n = 0 := by omega
    subst ha
    go_enter Try.func13, Try.ntmps13
    go_wp2_with (go_at_call 30; refine HW.out.mono ?_; rintro e w' ⟨rfl, rfl⟩)
    go_ret2
    exact ⟨by simp, rfl⟩
  · have hne : ¬ kept.length = a := fun e => ha e.symm
    clear ha
    go_enter Try.func13, Try.ntmps13
    go_wp2_with (go_at_call 30; refine HW.out.mono ?_; rintro e w' ⟨rfl, rfl⟩)
    go_ret2
    exact ⟨rfl, rfl⟩

set_option maxHeartbeats 400000 in
theorem all_any {w : World} {base bd bk bn : Nat} {pv : Value} {kept now : Bs} {pend : List (Nat × Bs)} (D : DiskAt w base bd bk bn pv kept now pend) :
    Calls Try.prog 15 #[.pointer (some ⟨bd, 0, none⟩)] w fun e w' => e = .returned (str now) ∧ w = w' := by
  have H1 := hid (size_any D)
  have hr := read_ok D 0 kept.length (by omega)
  have e : (now.drop 0).take kept.length = now := by rw [List.drop_zero, List.take_of_length_le (by rw [D.len]; exact Nat.le_refl _)]
  rw [e] at hr
  have H2 := hid hr
  clear hr e D
  go_enter Try.func15, Try.ntmps15
  go_wp2_with fail
  refine H1.out.mono ?_
  rintro e w' ⟨rfl, rfl⟩
  go_wp2_with fail
  refine H2.out.mono ?_
  rintro e w' ⟨rfl, rfl⟩
  go_wp2_with fail
  go_ret
  exact ⟨rfl, rfl⟩

end Go.Proofs.Ytknmebknkncmoaa
