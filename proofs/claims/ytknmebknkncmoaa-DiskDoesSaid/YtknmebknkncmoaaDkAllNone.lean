/- The walk of DiskAllNone: it answers true at whatever lists of Acts. -/
import Derived.Test.YtknmebknkncmoaaDkAwake
namespace Go.Proofs.Ytknmebknkncmoaa
open Go.RowKit Go.Lib

theorem DiskAt.far {w w' : World} {base bd bk bn : Nat} {pv : Value} {kept now : Bs} {pend : List (Nat × Bs)} (D : DiskAt w base bd bk bn pv kept now pend) {F : List Nat} (h : Chg F w w') (hF : ∀ x ∈ F, x < base) : DiskAt w' base bd bk bn pv kept now pend :=
  D.keep h (fun hm => by have := hF _ hm; have := D.b1; omega) (fun hm => by have := hF _ hm; have := D.b2; omega) (fun hm => by have := hF _ hm; have := D.b3; omega)
    (fun g hg hm => by have := hF _ hm; have := (D.hp.lt g hg).1; omega)
theorem DiskAt.later {w w' : World} {base bd bk bn : Nat} {pv : Value} {kept now : Bs} {pend : List (Nat × Bs)} (D : DiskAt w base bd bk bn pv kept now pend) (h : Below w.heap.size w w') : DiskAt w' base bd bk bn pv kept now pend :=
  D.keep (F := []) (Chg.of_below h) (by simp) (by simp) (by simp) (by simp)

theorem disk_low {w : World} {base bd bk bn : Nat} {pv : Value} {kept now : Bs} {pend : List (Nat × Bs)} (D : DiskAt w base bd bk bn pv kept now pend) : base ≤ bd ∧ base ≤ bk ∧ base ≤ bn := ⟨D.b1, D.b2, D.b3⟩
theorem actsAt_nil (w : World) : ActsAt w (.slice none 0 0) [] := ⟨none, 0, 0, 0, rfl, by simp, by simp, by simp⟩

/-- what is laid of what is pending is what is there -/
theorem pendOf_lay {l : List ActD} {b : Bs} (h : b.length = 320) : (pendOf l).foldl lay b = nowOf l b := by
  induction l generalizing b with
  | nil => rfl
  | cons x l ih =>
    have hp := actPart_fits x
    show ((parts (actPart x).1 (actPart x).2) ++ pendOf l).foldl lay b = nowOf l (lay b (actPart x))
    rw [List.foldl_append, parts_lay (actPart x).2.length _ _ _ (Nat.le_refl _) (by rw [h]; exact hp)]
    exact ih (by rw [show splice b (actPart x).1 (actPart x).2 = lay b (actPart x) from rfl, lay_length (by rw [h]; exact hp), h])

def upTo (n : Nat) : List Int := (List.range n).map fun (k : Nat) => (k : Int)
theorem upTo_length (n : Nat) : (upTo n).length = n := by simp [upTo]
theorem upTo_succ (n : Nat) : upTo (n + 1) = upTo n ++ [(n : Int)] := by simp [upTo, List.range_succ]
theorem ixOf_nat (n : Nat) : ixOf (n : Int) = n := by simp [ixOf]; omega
theorem upTo_ok (n : Nat) : KeepOk n (upTo n) := by
  refine ⟨?_, ?_⟩
  · intro k hk
    simp only [upTo, List.mem_map, List.mem_range] at hk
    obtain ⟨a, ha, rfl⟩ := hk
    rw [ixOf_nat]; exact ha
  · have : (upTo n).map ixOf = List.range n := by
      unfold upTo
      rw [List.map_map]
      conv => rhs; rw [← List.map_id (List.range n)]
      apply List.map_congr_left
      intro a _
      exact ixOf_nat a
    rw [this]; exact List.nodup_range
theorem upTo_pieces (P : List (Nat × Bs)) : (upTo P.length).map (pieceOf P) = P := by
  apply List.ext_getElem?
  intro i
  simp only [upTo, List.getElem?_map, List.map_map]
  by_cases h : i < P.length
  · rw [List.getElem?_range h]
    simp only [Option.map_some, Function.comp, pieceOf, ixOf_nat, List.getElem?_eq_getElem h, Option.getD_some]
    rw [if_neg (by omega)]
  · rw [List.getElem?_eq_none (by simpa using h), List.getElem?_eq_none (by omega)]; rfl

theorem ints_of_owns {w : World} {base : Nat} {v : Value} {ks : List Int} (h : w.ownsRow base 3 1 v ks.length (ks.map (Value.int .i64))) : IntsAt w v ks := by
  rcases h.2 with ⟨rfl, h0⟩ | ⟨g, cap, cur, rfl, _⟩
  · exact .inl ⟨List.eq_nil_of_length_eq_zero h0, _, _, rfl⟩
  · refine .inr ⟨g, 0, cap, rfl, fun j x hx => ?_⟩
    have hj : j < ks.length := (List.getElem?_eq_some_iff.1 hx).1
    rw [Nat.zero_add, h.cellAt j (by omega)]
    simp [hx]

def UpRel (w : World) (B n bd bk bn : Nat) (pv : Value) (kept now : Bs) (pend : List (Nat × Bs)) (v i : Value) (wr : World) : Prop :=
  ∃ j : Nat, i = .int .i64 j ∧ j ≤ pend.length ∧ wr.ownsRow w.heap.size 3 1 v j ((upTo j).map (Value.int .i64)) ∧ Below w.heap.size w wr ∧ DiskAt wr B bd bk bn pv kept now pend ∧ n = pend.length

theorem up_step {w wr w1 : World} {B n bd bk bn j : Nat} {pv o v' : Value} {kept now : Bs} {pend : List (Nat × Bs)} (hj : j < pend.length) (hown : wr.ownsRow w.heap.size 3 1 o j ((upTo j).map (Value.int .i64)))
    (hb : Below w.heap.size w wr) (D : DiskAt wr B bd bk bn pv kept now pend) (_hB : B ≤ w.heap.size) (hDw : bd < w.heap.size ∧ bk < w.heap.size ∧ bn < w.heap.size ∧ ∀ g, pv.ownBlock = some g → g < w.heap.size) (hn : n = pend.length)
    (hown' : w1.ownsRow w.heap.size 3 1 v' (j + 1) ((upTo j).map (Value.int .i64) ++ [.int .i64 (j : Int)])) (hgrow : (wr.alloc (.cells #[.int .i64 (j : Int)] 3)).grownBy w1 o.ownBlock) :
    UpRel w B n bd bk bn pv kept now pend v' (.int .i64 ((j : Int) + 1)) w1 := by
  have ho : ∀ k, o.ownBlock = some k → w.heap.size ≤ k := fun k hk => (hown.lt k hk).1
  have hc : Chg o.ownBlock.toList wr w1 := ((Chg.refl _ wr).alloc _).grown hgrow (fun k hk => .inl (by simp [hk]))
  refine ⟨j + 1, by simp, by omega, by rw [upTo_succ]; simpa using hown', hb.trans (hc.below (fun x hx => ho x (by simpa using hx)) hb.size), ?_, hn⟩
  refine D.keep hc ?_ ?_ ?_ ?_
  · intro hm; have := ho _ (by simpa using hm); omega
  · intro hm; have := ho _ (by simpa using hm); omega
  · intro hm; have := ho _ (by simpa using hm); omega
  · intro g hg hm; have := ho _ (by simpa using hm); have := hDw.2.2.2 g hg; omega

set_option maxHeartbeats 2000000 in
theorem allNone_any (w : World) (v0 v1 : Value) (l0 l1 : List ActD) (h0 : ActsAt w v0 l0) (h1 : ActsAt w v1 l1) :
    Calls Try.prog 5 #[v0, v1] w fun e w' => e = .returned (.bool true) ∧ Below w.heap.size w w' := by
  obtain ⟨i0, hi, hz0, hz1, hz2⟩ := info_parts Try.info3
  obtain ⟨K, hK⟩ : ∃ K, K = nowOf (l0.take 8) (zeros 320) := ⟨_, rfl⟩
  have hKl : K.length = 320 := by rw [hK]; exact nowOf_length (zeros_length 320)
  obtain ⟨P, hP⟩ : ∃ P, P = pendOf (l1.take 8) := ⟨_, rfl⟩
  obtain ⟨N, hN⟩ : ∃ N, N = nowOf (l1.take 8) K := ⟨_, rfl⟩
  have hlay : P.foldl lay K = N := by rw [hP, hN]; exact pendOf_lay hKl
  have hPl : P.length ≤ 2560 := by
    have := pendOf_count (l1.take 8)
    have : (l1.take 8).length ≤ 8 := by simp; omega
    rw [hP]; omega
  have HK := hid hK
  have HP := hid hP
  have HN := hid hN
  have HLAY := hid hlay
  have H0 := hid h0
  have H1 := hid h1
  have HKL := hid hKl
  clear hK hP hN hlay h0 h1 hKl
  go_enter Try.func5, Try.ntmps5
  go_wp2_with fail
  refine (awake_any _).mono ?_
  rintro e w1 ⟨rfl, b1⟩
  go_wp2_with fail
  refine (filled_any w1 v0 v1 l0 l1 (H0.out.below b1) (H1.out.below b1)).mono ?_
  rintro e w2 ⟨ad, ak, an, av, rfl, Da, b2⟩
  rw [← HK.out, ← HN.out, ← HP.out] at Da
  have b02 := b1.trans (b2.mono b1.size)
  have HDa := hid Da
  have s12 := b2.size
  clear Da b2
  go_wp2_with fail
  refine (filled_any w2 v0 v1 l0 l1 (H0.out.below b02) (H1.out.below b02)).mono ?_
  rintro e w3 ⟨bd, bk, bn, bv, rfl, Db, b3⟩
  rw [← HK.out, ← HN.out, ← HP.out] at Db
  have b03 := b02.trans (b3.mono b02.size)
  have HDa3 := hid (HDa.out.later b3)
  have HDb := hid Db
  have s23 := b3.size
  clear Db b3
  go_wp2_with fail
  refine (filled_any w3 v0 v1 l0 l1 (H0.out.below b03) (H1.out.below b03)).mono ?_
  rintro e w4 ⟨cd, ck, cn, cv, rfl, Dc, b4⟩
  rw [← HK.out, ← HN.out, ← HP.out] at Dc
  have b04 := b03.trans (b4.mono b03.size)
  have HDa4 := hid (HDa3.out.later b4)
  have HDb4 := hid (HDb.out.later b4)
  have HDc := hid Dc
  have s34 := b4.size
  have la := disk_lt HDa.out
  have lb := disk_lt HDb.out
  have lc := disk_lt Dc
  have ka := disk_low HDa.out
  have kb := disk_low HDb.out
  have kc := disk_low Dc
  clear Dc b4 HDa3
  go_wp2_with fail
  refine (all_any HDa4.out).mono ?_
  rintro e w' ⟨rfl, rfl⟩
  go_wp2_with fail
  go_loopw [10, 11] (fun v i wr => UpRel w4 w1.heap.size P.length ad ak an av K N P v i wr) (fun _ i _ => P.length - (intOf i).toNat)
  case atStart => exact ⟨0, rfl, by omega, World.ownsRow_nil _ _ _ _, Below.refl _ _, HDa4.out, rfl⟩
  case round =>
    obtain ⟨j, rfl, hj, hown, hb, D, _⟩ := hrel
    have HOW := hid hown
    have HD := hid D
    clear hown D
    go_wp2_with fail
    refine (pending_any HD.out).mono ?_
    rintro e w' ⟨rfl, rfl⟩
    by_cases hgo : j < P.length
    · have HO2 := hid (HOW.out.alloc (.cells #[.int .i64 (j : Int)] 3))
      go_wp2_with (at_builtin; refine wpList_append_own _ rfl _ _ 29 rfl w4.heap.size 3 i0 (.int .i64 0) 1 8 Try.underlying29 hi hz0 hz1 hz2 rfl (by decide) _ _ _ rfl HO2.out ⟨wr.heap.size, 0, none⟩ 1 1 [.int .i64 (j : Int)] rfl rfl (cell_one_new2 rfl _ _) (by intro u hu; simp at hu; subst hu; rfl) (by unfold maxLen; omega) (by omega) (by have := hb.size; simp; omega) ?_; intro v' wx hown' hgrow _)
      have R := hid (up_step hgo HOW.out hb HD.out (by omega) (disk_lt HDa4.out) rfl hown' hgrow)
      clear hown' hgrow
      go_wp2
      go_roundw
      case rel => exact R.out
      case measure => simp [intOf]; omega
    · obtain rfl : j = P.length := by omega
      have hks := ints_of_owns (ks := upTo P.length) (by rw [upTo_length]; exact HOW.out)
      have HKS := hid hks
      have HBW := hid hb
      clear hks hb
      go_wp2_with fail
      refine (crash_any HD.out _ (upTo P.length) HKS.out (by intro x hx; simp only [upTo, List.mem_map, List.mem_range] at hx; obtain ⟨a, ha, rfl⟩ := hx; omega) (by rw [upTo_length]; omega) (by omega)).mono ?_
      rintro e w5 (⟨_, rfl, Da5, c5⟩ | ⟨hk, _⟩)
      rotate_left
      · exact absurd (upTo_ok _) hk
      rw [upTo_pieces, HLAY.out] at Da5
      have Db5 := (HDb4.out.later HBW.out).far c5 (by intro x hx; simp at hx; omega)
      have Dc5 := (HDc.out.later HBW.out).far c5 (by intro x hx; simp at hx; have := HBW.out.size; omega)
      have b05 : Below w.heap.size w w5 := (b04.trans (HBW.out.mono b04.size)).trans (c5.below (by intro x hx; simp at hx; have := HDa.out.b1; have := HDa.out.b2; have := HDa.out.b3; have := b1.size; omega) (by have := HBW.out.size; have := b04.size; omega))
      have HDa5 := hid Da5
      have HDb5 := hid Db5
      have HDc5 := hid Dc5
      clear Da5 Db5 Dc5 c5 HDa4 HDb4 HDc HD HOW HKS
      go_wp2_with fail
      refine (crash_any HDb5.out _ [] (.inl ⟨rfl, _, _, rfl⟩) (by simp) (by simp) (by omega)).mono ?_
      rintro e w6 (⟨_, rfl, Db6, c6⟩ | ⟨hk, _⟩)
      rotate_left
      · exact absurd ⟨by simp, by simp⟩ hk
      have Da6 := HDa5.out.keep c6 (by simp; omega) (by simp; omega) (by simp; omega) (by simp [Value.ownBlock])
      have Dc6 := HDc5.out.far c6 (by intro x hx; simp at hx; omega)
      have b06 : Below w.heap.size w w6 := b05.trans (c6.below (by intro x hx; simp at hx; have := HDb.out.b1; have := HDb.out.b2; have := HDb.out.b3; have := b02.size; omega) b05.size)
      have HDa6 := hid Da6
      have HDb6 := hid (show DiskAt w6 w2.heap.size bd bk bn (.slice none 0 0) K K [] from Db6)
      have HDc6 := hid Dc6
      clear Da6 Db6 Dc6 c6 HDa5 HDb5 HDc5 b05
      go_wp2_with fail
      refine (sync_any HDc6.out).mono ?_
      rintro e w7 ⟨rfl, Dc7, c7⟩
      have Da7 := HDa6.out.keep c7 (by simp; omega) (by simp; omega) (by simp; omega) (by simp [Value.ownBlock])
      have Db7 := HDb6.out.keep c7 (by simp; omega) (by simp; omega) (by simp; omega) (by simp [Value.ownBlock])
      have b07 : Below w.heap.size w w7 := b06.trans (c7.below (by intro x hx; simp at hx; have := HDc6.out.b1; have := HDc6.out.b2; have := b03.size; omega) b06.size)
      have HDa7 := hid Da7
      have HDb7 := hid Db7
      have HDc7 := hid Dc7
      clear Da7 Db7 Dc7 c7 HDa6 HDb6 HDc6 b06
      go_wp2_with fail
      refine (crash_any HDc7.out _ [] (.inl ⟨rfl, _, _, rfl⟩) (by simp) (by simp) (by simp)).mono ?_
      rintro e w8 (⟨_, rfl, Dc8, c8⟩ | ⟨hk, _⟩)
      rotate_left
      · exact absurd ⟨by simp, by simp⟩ hk
      have Da8 := HDa7.out.keep c8 (by simp; omega) (by simp; omega) (by simp; omega) (by simp [Value.ownBlock])
      have Db8 := HDb7.out.keep c8 (by simp; omega) (by simp; omega) (by simp; omega) (by simp [Value.ownBlock])
      have b08 : Below w.heap.size w w8 := b07.trans (c8.below (by intro x hx; simp at hx; have := HDc7.out.b1; have := HDc7.out.b2; have := HDc7.out.b3; have := b03.size; omega) b07.size)
      have HDa8 := hid Da8
      have HDb8 := hid Db8
      have HDc8 := hid (show DiskAt w8 w3.heap.size cd ck cn (.slice none 0 0) N N [] from Dc8)
      clear Da8 Db8 Dc8 c8 HDa7 HDb7 HDc7 b07
      go_wp2_with fail
      refine (all_any HDa8.out).mono ?_
      rintro e w' ⟨rfl, rfl⟩
      go_wp2_with fail
      refine (all_any HDb8.out).mono ?_
      rintro e w' ⟨rfl, rfl⟩
      go_wp2_with fail
      refine (filled_any w8 v0 _ l0 [] (H0.out.below b08) (actsAt_nil _)).mono ?_
      rintro e w9 ⟨ed, ek, en, ev, rfl, De, b9⟩
      have De' : DiskAt w9 w8.heap.size ed ek en ev K K [] := by rw [HK.out]; exact De
      have b09 := b08.trans (b9.mono b08.size)
      have HDe := hid De'
      have HDc9 := hid (HDc8.out.later b9)
      clear De De' b9 HDc8 HDa8 HDb8
      go_wp2_with fail
      refine (all_any HDe.out).mono ?_
      rintro e w' ⟨rfl, rfl⟩
      go_wp2_with fail
      refine (all_any HDc9.out).mono ?_
      rintro e w' ⟨rfl, rfl⟩
      go_wp2_with fail
      go_ret
      exact ⟨rfl, b09⟩

end Go.Proofs.Ytknmebknkncmoaa
