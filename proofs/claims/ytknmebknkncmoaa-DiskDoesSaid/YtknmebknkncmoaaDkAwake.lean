/- Contract of awake: it answers true. -/
import Derived.Test.YtknmebknkncmoaaDkFilled
namespace Go.Proofs.Ytknmebknkncmoaa
open Go.RowKit Go.Lib

theorem ints_two {w : World} {b : Nat} {x y : Int} {t : TypeId} (h : w.heap[b]? = some (.cells #[.int .i64 x, .int .i64 y] t (0, 0))) : IntsAt w (.slice (some ⟨b, 0, none⟩) 2 2) [x, y] := by
  refine .inr ⟨b, 0, 2, rfl, fun j z hz => ?_⟩
  rw [Nat.zero_add]
  match j, hz with
  | 0, hz => simp at hz; subst hz; exact cell_of h rfl
  | 1, hz => simp at hz; subst hz; exact cell_of h rfl
  | n + 2, hz => simp at hz

theorem awake_parts : (([] : List (Nat × Bs)) ++ parts 63 [97, 98]) ++ parts 64 [99] = [(63, [97]), (64, [98]), (64, [99])] := by decide +kernel
def awakeNow : Bs := (parts 64 [99]).foldl lay ((parts 63 [97, 98]).foldl lay (zeros 128))
theorem awake_read1 : (awakeNow.drop 62).take 3 = [0, 97, 99] := by decide +kernel
theorem awake_bad : ¬ KeepOk 3 [2, -3] := fun h => absurd h.nodup (by decide)
theorem awake_good : KeepOk 3 [2, 1] := ⟨by decide, by decide⟩
def awakeKept : Bs := ([2, 1].map (pieceOf [(63, [97]), (64, [98]), (64, [99])])).foldl lay (zeros 128)
theorem awake_read2 : (awakeKept.drop 62).take 3 = [0, 0, 98] := by decide +kernel
theorem awake_len : awakeKept.length = 128 := by decide +kernel

set_option maxHeartbeats 2000000 in
theorem awake_any (w : World) : Calls Try.prog 10 #[] w fun e w' => e = .returned (.bool true) ∧ Below w.heap.size w w' := by
  go_enter Try.func10, Try.ntmps10
  go_wp2_with fail
  refine (new_ok 128 _ (by omega) (by omega) (by omega)).mono ?_
  rintro e w1 ⟨bd, bk, bn, rfl, D1, ch1⟩
  have hb1 := ch1.nil_below
  have hbd : w.heap.size ≤ bd := D1.b1
  have hbk : w.heap.size ≤ bk := D1.b2
  have hbn : w.heap.size ≤ bn := D1.b3
  have HD1 := hid D1
  clear D1 ch1
  go_wp2_with fail
  refine (write_ok HD1.out 63 [97, 98] (by rw [zeros_length]; decide) (by simp)).mono ?_
  rintro e w2 ⟨rfl, pv2, D2, ch2, own2⟩
  have hb2 : Below w.heap.size w w2 := hb1.trans (ch2.below (by intro k hk; simp [own, Value.ownBlock] at hk; omega) hb1.size)
  have HO2 := hid (show ∀ g, pv2.ownBlock = some g → w.heap.size ≤ g from fun g hg => (D2.hp.lt g hg).1)
  have HD2 := hid D2
  clear HD1 D2 ch2 own2 hb1
  go_wp2_with fail
  refine (write_ok HD2.out 64 [99] (by rw [zeros_length]; decide) (by simp; decide)).mono ?_
  rintro e w3 ⟨rfl, pv3, D3, ch3, own3⟩
  have hb3 : Below w.heap.size w w3 := hb2.trans (ch3.below (by
    intro k hk
    simp only [List.mem_cons, own, Option.mem_toList] at hk
    rcases hk with rfl | rfl | hk
    · exact hbd
    · exact hbn
    · exact HO2.out k hk) hb2.size)
  rw [awake_parts] at D3
  have HD3 := hid D3
  clear HD2 D3 ch3 own3 hb2 HO2
  go_wp2_with fail
  refine (pending_any HD3.out).mono ?_
  rintro e w' ⟨rfl, rfl⟩
  go_wp2_with fail
  refine (read_ok HD3.out 62 3 (by rw [zeros_length]; decide)).mono ?_
  rintro e w' ⟨rfl, rfl⟩
  have hr1 := awake_read1
  unfold awakeNow at hr1
  rw [hr1, show str [0, 97, 99] = .string ⟨#[0, 97, 99]⟩ from rfl]
  clear hr1
  go_wp2_with fail
  have HA := hid (heap_alloc_new w3 (.cells #[.int .i64 2, .int .i64 (-3)] 3))
  have DA := HD3.out.keep (F := []) ((Chg.refl _ w3).alloc (.cells #[.int .i64 2, .int .i64 (-3)] 3)) (by simp) (by simp) (by simp) (by simp)
  refine (crash_any DA _ [2, -3] (ints_two HA.out) (by simp) (by simp) (by simp)).mono ?_
  rintro e w4 (⟨hk, _⟩ | ⟨_, rfl, hb4⟩)
  · exact absurd hk awake_bad
  have hb5 : Below w.heap.size w w4 := (hb3.alloc hb3.size _).trans (hb4.mono (by simp; have := hb3.size; omega))
  have D4 := DA.keep (F := []) (Chg.of_below hb4) (by simp) (by simp) (by simp) (by simp)
  have HD4 := hid D4
  clear DA HA HD3 hb3 hb4 D4
  go_wp2_with fail
  have HA := hid (heap_alloc_new w4 (.cells #[.int .i64 2, .int .i64 1] 3))
  have DA := HD4.out.keep (F := []) ((Chg.refl _ w4).alloc (.cells #[.int .i64 2, .int .i64 1] 3)) (by simp) (by simp) (by simp) (by simp)
  refine (crash_any DA _ [2, 1] (ints_two HA.out) (by simp) (by simp) (by simp)).mono ?_
  rintro e w5 (⟨_, rfl, D5, ch5⟩ | ⟨hk, _⟩)
  rotate_left
  · exact absurd awake_good hk
  have hb6 : Below w.heap.size w w5 := (hb5.alloc hb5.size (.cells #[.int .i64 2, .int .i64 1] 3)).trans (ch5.below (by intro k hk; simp at hk; omega) (by simp; have := hb5.size; omega))
  have HD5 := hid (show DiskAt w5 w.heap.size bd bk bn (.slice none 0 0) awakeKept awakeKept [] from D5)
  clear DA HA HD4 hb5 ch5 D5
  go_wp2_with fail
  refine (read_ok HD5.out 62 3 (by rw [awake_len]; decide)).mono ?_
  rintro e w' ⟨rfl, rfl⟩
  rw [awake_read2, show str [0, 0, 98] = .string ⟨#[0, 0, 98]⟩ from rfl]
  go_wp2_with fail
  refine (new_bad 100 _ (by omega) (by omega) (by omega)).mono ?_
  rintro e w' ⟨rfl, rfl⟩
  go_wp2_with fail
  refine (size_any HD5.out).mono ?_
  rintro e w' ⟨rfl, rfl⟩
  rw [awake_len]
  go_wp2_with fail
  refine (pending_any HD5.out).mono ?_
  rintro e w' ⟨rfl, rfl⟩
  go_wp2_with fail
  refine (sync_any HD5.out).mono ?_
  rintro e w6 ⟨rfl, _, ch6⟩
  have hb7 : Below w.heap.size w w6 := hb6.trans (ch6.below (by intro k hk; simp at hk; omega) hb6.size)
  clear ch6
  go_wp2_with fail
  go_ret
  exact ⟨rfl, hb7⟩

end Go.Proofs.Ytknmebknkncmoaa
