/- The walk of DiskErrors: it answers true at whatever Acts and numbers. No condition but that the numbers are ints. -/
import Derived.Test.YtknmebknkncmoaaDkReads
import Derived.Deep.RegionWith
namespace Go.Proofs.Ytknmebknkncmoaa
open Go.RowKit Go.Lib

theorem wthB_far {n a m : Int} (h : n < a) : wthB n a m = false := by
  have : decide (a ≤ n) = false := by simpa using h
  simp [wthB, this]
theorem wthB_over {n a m : Int} (h : n - a < m) : wthB n a m = false := by
  have : decide (m ≤ n - a) = false := by simpa using h
  simp [wthB, this]
theorem wthB_neg {n a m : Int} (h : a < 0) : wthB n a m = false := by
  have : decide (0 ≤ a) = false := by simpa using h
  simp [wthB, this]
theorem ints_one {w : World} {b : Nat} {x : Int} {t : TypeId} (h : w.heap[b]? = some (.cells #[.int .i64 x] t (0, 0))) : IntsAt w (.slice (some ⟨b, 0, none⟩) 1 1) [x] := by
  refine .inr ⟨b, 0, 1, rfl, fun j y hy => ?_⟩
  match j, hy with
  | 0, hy =>
    simp at hy
    subst hy
    exact cell_of (i := 0) h rfl
theorem keep_far {n : Nat} {x : Int} (h : n ≤ ixOf x) : ¬ KeepOk n [x] := fun hk => by
  have := hk.lt x (by simp)
  omega
theorem keep_twice {n : Nat} {x y : Int} (h : ixOf x = ixOf y) : ¬ KeepOk n [x, y] := fun hk => by
  have := hk.nodup
  simp [h] at this

/-- the ways of a region that come to one end go on as one -/
theorem one_end {A G : World → Prop} {Q : Prop} (main : (∀ w, A w → G w) → Q) (tail : ∀ w, A w → G w) : Q := main tail

set_option maxRecDepth 20000 in
set_option maxHeartbeats 2000000 in
theorem errors_any (w : World) (v0 v1 : Value) (l0 l1 : List ActD) (h0 : ActsAt w v0 l0) (h1 : ActsAt w v1 l1) (at_ n : Int) (ha1 : -9223372036854775808 ≤ at_) (ha2 : at_ ≤ 9223372036854775807) (hn1 : -9223372036854775808 ≤ n) (hn2 : n ≤ 9223372036854775807) :
    Calls Try.prog 9 #[v0, v1, .int .i64 at_, .int .i64 n] w fun e w' => e = .returned (.bool true) ∧ Below w.heap.size w w' := by
  obtain ⟨K, hK⟩ : ∃ K, K = nowOf (l0.take 8) (zeros 320) := ⟨_, rfl⟩
  have hKl : K.length = 320 := by rw [hK]; exact nowOf_length (zeros_length 320)
  obtain ⟨P, hP⟩ : ∃ P, P = pendOf (l1.take 8) := ⟨_, rfl⟩
  obtain ⟨N, hN⟩ : ∃ N, N = nowOf (l1.take 8) K := ⟨_, rfl⟩
  have hPl : P.length ≤ 2560 := by
    have := pendOf_count (l1.take 8)
    have : (l1.take 8).length ≤ 8 := by simp; omega
    rw [hP]; omega
  have HK := hid hK
  have HP := hid hP
  have HN := hid hN
  have H0 := hid h0
  have H1 := hid h1
  have HKL := hid hKl
  clear hK hP hN h0 h1 hKl
  go_enter Try.func9, Try.ntmps9
  go_wp2_with fail
  refine (awake_any _).mono ?_
  rintro e w1 ⟨rfl, b1⟩
  go_wp2_with fail
  refine (filled_any w1 v0 v1 l0 l1 (H0.out.below b1) (H1.out.below b1)).mono ?_
  rintro e w2 ⟨bd, bk, bn, pv, rfl, D, b2⟩
  rw [← HK.out, ← HN.out, ← HP.out] at D
  have b02 := b1.trans (b2.mono b1.size)
  have HD := hid D
  clear D b2 b1
  go_wp2_with fail
  refine (all_any HD.out).mono ?_
  rintro e w' ⟨rfl, rfl⟩
  go_wp2_with fail
  refine (pending_any HD.out).mono ?_
  rintro e w' ⟨rfl, rfl⟩
  go_wp2_with fail
  refine (pick_nat at_ 1000 _ ha1 ha2 (by omega) (by omega)).mono ?_
  rintro e w' ⟨p, hp, hpp, rfl, rfl⟩
  have HPP := hid hpp
  clear hpp
  go_wp2_with fail
  refine (read_bad HD.out (321 + (p : Int)) 0 (by omega) (by omega) (by omega) (by omega) (by rw [HKL.out]; exact wthB_far (by omega))).mono ?_
  rintro e w' ⟨rfl, rfl⟩
  go_wp2_with fail
  refine (pick_nat at_ 321 _ ha1 ha2 (by omega) (by omega)).mono ?_
  rintro e w' ⟨q, hq, hqq, rfl, rfl⟩
  clear hqq
  go_wp2_with fail
  refine (read_bad HD.out (q : Int) 321 (by omega) (by omega) (by omega) (by omega) (by rw [HKL.out]; exact wthB_over (by omega))).mono ?_
  rintro e w' ⟨rfl, rfl⟩
  go_wp2_with fail
  refine (pick_nat at_ 1000 _ ha1 ha2 (by omega) (by omega)).mono ?_
  rintro e w' ⟨p2, hp2, hpp2, rfl, rfl⟩
  clear hpp2
  go_wp2_with fail
  refine (read_bad HD.out (-1 - (p2 : Int)) 1 (by omega) (by omega) (by omega) (by omega) (by rw [HKL.out]; exact wthB_neg (by omega))).mono ?_
  rintro e w' ⟨rfl, rfl⟩
  go_wp2_with fail
  refine (write_bad HD.out (321 + (p : Int)) _ (by omega) (by omega) (by decide) (by rw [HKL.out]; exact wthB_far (by omega))).mono ?_
  rintro e w3 ⟨rfl, b3⟩
  have b03 := b02.trans (b3.mono b02.size)
  have HD3 := hid (HD.out.later b3)
  clear b3
  obtain ⟨k, hk, hkk⟩ : ∃ k : Nat, pk n 320 = (k : Int) ∧ k < 320 := by
    have := pk_range n 320 (by omega)
    exact ⟨(pk n 320).toNat, by omega, by omega⟩
  have hpick : ∀ x, Calls Try.prog 23 #[.int .i64 n, .int .i64 320] x fun e w' => e = .returned (.int .i64 (k : Int)) ∧ x = w' := fun x => by
    have := pick_any n 320 x hn1 hn2 (by omega) (by omega)
    rw [hk] at this
    exact this
  clear hk
  have HPK := hid hpick
  clear hpick
  obtain ⟨Z, hZ⟩ : ∃ Z, Z = zeros 320 := ⟨_, rfl⟩
  have hzl : Z.length = 320 := by rw [hZ]; exact zeros_length 320
  have hmk : ∀ u : World, (Instr.makeSlice 35 (.int .i64 320) (.int .i64 320)).run Try.prog u = .ok (.slice (some ⟨u.heap.size, 0, none⟩) 320 320) (u.alloc (.cells (byteCells Z).toArray 5)) := fun u => by rw [hZ]; exact make_bytes 320 (by omega) u
  clear hZ
  obtain ⟨O, hO⟩ : ∃ O, O = Obj.cells (byteCells Z).toArray 5 := ⟨_, rfl⟩
  have hcv := conv_row (w := (w3.alloc O).drew) (b := w3.heap.size) (xs := Z) (off := 0) (l := 320) (c := 320) (by rw [hO]; exact heap_alloc_new w3 _) (by omega)
  have HDA := hid (HD3.out.keep ((Chg.refl _ w3).alloc O).drew (F := []) (by simp) (by simp) (by simp) (by simp))
  have e0 : (Z.drop 0).take 320 = Z := by rw [List.drop_zero, List.take_of_length_le (by omega)]
  rw [e0] at hcv
  rw [← hO] at hmk
  have hz : (bstr Z).size = 320 := by rw [bstr_size, hzl]
  have HW := hid (show ∀ w4 : World, Below (w3.alloc O).drew.heap.size (w3.alloc O).drew w4 → Below w.heap.size w w4 ∧ DiskAt w4 w1.heap.size bd bk bn pv K N P from fun w4 h4 => ⟨((b03.alloc b03.size O).drew).trans (h4.mono (by have := b03.size; simp; omega)), HDA.out.later h4⟩)
  have WB : ∀ x, x = (w3.alloc O).drew → Calls Try.prog 25 #[.pointer (some ⟨bd, 0, none⟩), .int .i64 (IntKind.i64.wrap ((k : Int) + 1)), .string (bstr Z)] x fun e w' => e = .returned (.int .i64 260) ∧ Below w.heap.size w w' ∧ DiskAt w' w1.heap.size bd bk bn pv K N P := fun x hx => by
    subst hx
    rw [IntWalk.i64_in _ (by omega)]
    exact (write_bad HDA.out ((k : Int) + 1) _ (by omega) (by omega) (by rw [hz]; decide) (by rw [HKL.out, hz]; exact wthB_over (by omega))).mono fun e w' h => ⟨h.1, HW.out w' h.2⟩
  have HWB := hid WB
  clear e0 hO hzl hz WB b03 b02
  go_wp2_with fail
  apply one_end (A := fun w4 => Below w.heap.size w w4 ∧ DiskAt w4 w1.heap.size bd bk bn pv K N P)
  · intro key
    go_region_with (first | (go_at_call 23; refine (HPK.out _).mono ?_; rintro e w' ⟨rfl, rfl⟩) | (go_at_call 25; refine (HWB.out _ ?_).mono ?_; rfl; rintro e w4 ⟨rfl, b4, D4⟩))
    all_goals exact key _ ⟨b4, D4⟩
  · rintro w4 ⟨b4, D4⟩
    have HD4 := hid D4
    clear D4 HDA HW HWB hcv hmk HPK
    go_wp2_with fail
    refine (pick_nat n 1000 _ hn1 hn2 (by omega) (by omega)).mono ?_
    rintro e w' ⟨r, hr, hrr, rfl, rfl⟩
    clear hrr
    have HA := hid (heap_alloc_new w4 (.cells #[.int .i64 ((P.length : Int) + (r : Int))] 3))
    have DA := HD4.out.keep (F := []) ((Chg.refl _ w4).alloc (.cells #[.int .i64 ((P.length : Int) + (r : Int))] 3)) (by simp) (by simp) (by simp) (by simp)
    have HDA := hid DA
    clear DA
    go_wp2_with fail
    refine (crash_any HDA.out _ [(P.length : Int) + (r : Int)] (ints_one HA.out) (by simp; omega) (by simp) (by omega)).mono ?_
    rintro e w5 (⟨hk, _⟩ | ⟨_, rfl, b5⟩)
    · exact absurd hk (keep_far (by unfold ixOf; split <;> omega))
    have b05 : Below w.heap.size w w5 := (b4.alloc b4.size _).trans (b5.mono (by simp; have := b4.size; omega))
    have HD5 := hid (HDA.out.later b5)
    clear b4 b5 HDA HA HD4
    go_wp2_with fail
    refine (pick_nat n 1000 _ hn1 hn2 (by omega) (by omega)).mono ?_
    rintro e w' ⟨r2, hr2, hrr, rfl, rfl⟩
    clear hrr
    have HA := hid (heap_alloc_new w5 (.cells #[.int .i64 (-1 - (P.length : Int) - (r2 : Int))] 3))
    have DA := HD5.out.keep (F := []) ((Chg.refl _ w5).alloc (.cells #[.int .i64 (-1 - (P.length : Int) - (r2 : Int))] 3)) (by simp) (by simp) (by simp) (by simp)
    have HDA := hid DA
    clear DA
    go_wp2_with fail
    refine (crash_any HDA.out _ [-1 - (P.length : Int) - (r2 : Int)] (ints_one HA.out) (by simp; omega) (by simp) (by omega)).mono ?_
    rintro e w6 (⟨hk, _⟩ | ⟨_, rfl, b6⟩)
    · exact absurd hk (keep_far (by unfold ixOf; split <;> omega))
    have b06 : Below w.heap.size w w6 := (b05.alloc b05.size _).trans (b6.mono (by simp; have := b05.size; omega))
    have HD6 := hid (HDA.out.later b6)
    clear b05 b6 HDA HA HD5
    by_cases hm : 0 < P.length
    · go_wp2_with fail
      refine (pick_nat n (P.length : Int) _ hn1 hn2 (by omega) (by omega)).mono ?_
      rintro e w' ⟨r3, hr3, hk3, rfl, rfl⟩
      obtain ⟨r4, hr4⟩ : ∃ r4 : Nat, r4 = r3 := ⟨_, rfl⟩
      have hpick : ∀ x, Calls Try.prog 23 #[.int .i64 n, .int .i64 (P.length : Int)] x fun e w' => e = .returned (.int .i64 (r3 : Int)) ∧ x = w' := fun x => by
        have := pick_any n (P.length : Int) x hn1 hn2 (by omega) (by omega)
        rw [← hk3] at this
        exact this
      have HPK := hid hpick
      clear hpick hk3 hr4
      go_wp2_with fail
      refine (HPK.out _).mono ?_
      rintro e w' ⟨rfl, rfl⟩
      have HA := hid (heap_alloc_new w6 (.cells #[.int .i64 (r3 : Int), .int .i64 (-1 - (r3 : Int))] 3))
      have DA := HD6.out.keep (F := []) ((Chg.refl _ w6).alloc (.cells #[.int .i64 (r3 : Int), .int .i64 (-1 - (r3 : Int))] 3)) (by simp) (by simp) (by simp) (by simp)
      have HDA := hid DA
      clear DA
      go_wp2_with fail
      refine (crash_any HDA.out _ [(r3 : Int), -1 - (r3 : Int)] (ints_two HA.out) (by simp; omega) (by simp) (by omega)).mono ?_
      rintro e w7 (⟨hk, _⟩ | ⟨_, rfl, b7⟩)
      · exact absurd hk (keep_twice (by unfold ixOf; split <;> split <;> omega))
      have b07 : Below w.heap.size w w7 := (b06.alloc b06.size _).trans (b7.mono (by simp; have := b06.size; omega))
      have HD7 := hid (HDA.out.later b7)
      clear b06 b7 HDA HA HD6
      go_wp2_with fail
      refine (read_nil 0 0 _).mono ?_
      rintro e w' ⟨rfl, rfl⟩
      go_wp2_with fail
      refine (all_any HD7.out).mono ?_
      rintro e w' ⟨rfl, rfl⟩
      go_wp2_with fail
      refine (pending_any HD7.out).mono ?_
      rintro e w' ⟨rfl, rfl⟩
      go_wp2_with fail
      refine (write_nil 0 _ _).mono ?_
      rintro e w8 ⟨rfl, b8⟩
      have b08 := b07.trans (b8.mono b07.size)
      clear b8 HD7
      go_wp2_with fail
      refine (sync_nil _).mono ?_
      rintro e w' ⟨rfl, rfl⟩
      go_wp2_with fail
      refine (crash_nil _ _).mono ?_
      rintro e w' ⟨rfl, rfl⟩
      go_wp2_with fail
      refine (pending_nil _).mono ?_
      rintro e w' ⟨rfl, rfl⟩
      go_wp2_with fail
      refine (size_nil _).mono ?_
      rintro e w' ⟨rfl, rfl⟩
      go_wp2_with fail
      go_ret
      exact ⟨rfl, b08⟩
    · go_wp2_with fail
      refine (read_nil 0 0 _).mono ?_
      rintro e w' ⟨rfl, rfl⟩
      go_wp2_with fail
      refine (all_any HD6.out).mono ?_
      rintro e w' ⟨rfl, rfl⟩
      go_wp2_with fail
      refine (pending_any HD6.out).mono ?_
      rintro e w' ⟨rfl, rfl⟩
      go_wp2_with fail
      refine (write_nil 0 _ _).mono ?_
      rintro e w8 ⟨rfl, b8⟩
      have b08 := b06.trans (b8.mono b06.size)
      clear b8 HD6
      go_wp2_with fail
      refine (sync_nil _).mono ?_
      rintro e w' ⟨rfl, rfl⟩
      go_wp2_with fail
      refine (crash_nil _ _).mono ?_
      rintro e w' ⟨rfl, rfl⟩
      go_wp2_with fail
      refine (pending_nil _).mono ?_
      rintro e w' ⟨rfl, rfl⟩
      go_wp2_with fail
      refine (size_nil _).mono ?_
      rintro e w' ⟨rfl, rfl⟩
      go_wp2_with fail
      go_ret
      exact ⟨rfl, b08⟩

end Go.Proofs.Ytknmebknkncmoaa
