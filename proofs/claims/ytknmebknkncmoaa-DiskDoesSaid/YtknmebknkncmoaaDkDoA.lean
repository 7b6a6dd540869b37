/- Contract of do, of a text of at most 200 bytes. -/
import Derived.Test.YtknmebknkncmoaaDkTwo
namespace Go.Proofs.Ytknmebknkncmoaa
open Go.RowKit Go.Lib

set_option maxHeartbeats 4000000 in
theorem do_short {w : World} {B bd bk bn rb : Nat} {dv kv rv : Value} {kept now : Bs} {pend : List (Nat × Bs)} (T : Both w B bd bk bn rb dv kv rv kept now pend) (hpl : pend.length ≤ 500000) (kd pl : Int) (tx : Bs) (hA : tx.length ≤ 200) (ao : Option Addr) (cc : Nat) (ks : List Int)
    (hk1 : 0 ≤ kd) (hk2 : kd ≤ 255) (h1 : -9223372036854775808 ≤ pl) (h2 : pl ≤ 9223372036854775807) (htx : tx.length ≤ 9223372036854775807) (hr : ∀ x ∈ ks, -9223372036854775808 ≤ x ∧ x ≤ 9223372036854775807) (hlen : ks.length ≤ 9223372036854775807)
    (hI : ∀ y, Below B w y → IntsAt y (.slice ao ks.length cc) ks) :
    Calls Try.prog 12 #[.pointer (some ⟨bd, 0, none⟩), .pointer (some ⟨rb, 0, none⟩), .agg #[.int .u8 kd, .int .i64 pl, .string (bstr tx), .slice ao ks.length cc]] w (DoEnd w B bd bk bn rb kept pend) := by
  have T0 : Both (w.alloc (.cells #[.int .u8 kd, .int .i64 pl, .string (bstr tx), .slice ao ks.length cc] 31)) B bd bk bn rb dv kv rv kept now pend := T.later ((Below.refl _ w).alloc (Nat.le_refl _) _)
  have hB := T.base
  have BW := hid (show Below B w (w.alloc (.cells #[.int .u8 kd, .int .i64 pl, .string (bstr tx), .slice ao ks.length cc] 31)) from (Below.refl _ w).alloc hB _)
  have j0 : (w.alloc (.cells #[.int .u8 kd, .int .i64 pl, .string (bstr tx), .slice ao ks.length cc] 31)).heap[w.heap.size]? = some (.cells #[.int .u8 kd, .int .i64 pl, .string (bstr tx), .slice ao ks.length cc] 31 (0, 0)) := heap_alloc_new w _
  obtain ⟨J, hJ⟩ : ∃ J : World → Prop, J = fun y => y.heap[w.heap.size]? = some (.cells #[.int .u8 kd, .int .i64 pl, .string (bstr tx), .slice ao ks.length cc] 31 (0, 0)) := ⟨_, rfl⟩
  have HJ := hid (show ∀ x, Below (w.alloc (.cells #[.int .u8 kd, .int .i64 pl, .string (bstr tx), .slice ao ks.length cc] 31)).heap.size (w.alloc (.cells #[.int .u8 kd, .int .i64 pl, .string (bstr tx), .slice ao ks.length cc] 31)) x →
      Both x B bd bk bn rb dv kv rv kept now pend ∧ Below B w x ∧ ∀ y, Chg (bd :: bk :: bn :: own dv) x y → J y from fun x hx' => by
    have Tx := T0.later hx'
    have jx := (Chg.of_below (F := []) hx').heap j0 (by simp)
    refine ⟨Tx, BW.out.trans (hx'.mono T0.base), fun y hy => ?_⟩
    rw [hJ]
    exact hy.heap jx (disk_free5 Tx.disk jx (by decide) (by decide) (by decide)))
  have hJc := hid (show ∀ y, J y → y.cell? ⟨w.heap.size, 1, none⟩ = some (.int .i64 pl) ∧ y.cell? ⟨w.heap.size, 3, none⟩ = some (.slice ao ks.length cc) from fun y hy => by
    rw [hJ] at hy
    exact ⟨cell_of (i := 1) hy rfl, cell_of (i := 3) hy rfl⟩)
  have b0 := cell_of (i := 0) j0 rfl
  have b1 := cell_of (i := 1) j0 rfl
  have b2 := cell_of (i := 2) j0 rfl
  have b3 := cell_of (i := 3) j0 rfl
  have hsame := hid T.same
  have hnl := hid (show now.length = kept.length from T.disk.len)
  have hok := hid T.ref.ok
  have hlo := T.disk.lo
  have hhi := T.disk.hi
  obtain ⟨ka, kc, rfl, _⟩ := ownsRow_view T.ref.hk
  obtain ⟨ra, rc, rfl, _⟩ := ownsRow_view T.ref.hp
  have k0 := cell_of (i := 0) T0.ref.hd rfl
  have k1 := cell_of (i := 1) T0.ref.hd rfl
  have hz := bstr_size tx
  have HI := hid hI
  have HR := hid hr
  clear T T0 hJ hI hr j0
  have e1 : (bstr tx).size ≤ 200 := by omega
  have e3 : ((200 : Int) < ((bstr tx).size : Int)) = False := by rw [eq_iff_iff, iff_false]; omega
  by_cases q0 : kd % 4 = 0
  · have m0 : (kd % 4 == 0) = true := by rw [beq_iff_eq]; omega
    obtain ⟨code, kept1, now1, pend1, O, hle⟩ := op_write (J := J) (B := B) (bd := bd) (bk := bk) (bn := bn) (rb := rb) (dv := dv) (kv := .slice ka kept.length kc) (rv := .slice ra pend.length rc) hsame.out (by omega) pl tx h1 h2 (by omega)
    have OH := hid O
    have H1 := hid (fun x hx => O.first (HJ.out x hx).1 (HJ.out x hx).2.1 (HJ.out x hx).2.2)
    clear O hz
    go_enter Try.func12, Try.ntmps12
    go_wp2_with fail
    go_region_with (first | (go_at_call 25; refine (H1.out _ ?_).mono ?_; (first | exact (Below.refl _ _).drew | exact Below.refl _ _); rintro e w1 ⟨rfl, dv1, M1, bb1, J1⟩; have c1x := (hJc.out w1 J1).1; have c3x := (hJc.out w1 J1).2) | (go_at_call 27; refine (OH.out.two w1 dv1 M1 J1).mono ?_; rintro e w2 ⟨rfl, kv2, rv2, T2', bb2⟩; have T2 := hid T2'; have bb := hid (bb1.trans bb2); clear T2' bb1 bb2 M1 J1))
    go_wp2_with fail
    all_goals go_ret
    all_goals exact ⟨rfl, _, _, _, kept1, now1, pend1, T2.out, bb.out, OH.out.len, by omega⟩
  · by_cases q1 : kd % 4 = 1
    · have m0 : (kd % 4 == 0) = false := by rw [beq_eq_false_iff_ne]; omega
      have m1 : (kd % 4 == 1) = true := by rw [beq_iff_eq]; omega
      obtain ⟨k, hkk, hk⟩ : ∃ k : Nat, pk pl (kept.length : Int) = (k : Int) ∧ k < kept.length := by
        have := pk_range pl (kept.length : Int) (by omega)
        exact ⟨(pk pl (kept.length : Int)).toNat, by omega, by omega⟩
      have hpick : ∀ n, Calls Try.prog 23 #[.int .i64 pl, .int .i64 (kept.length : Int)] ((w.alloc (.cells #[.int .u8 kd, .int .i64 pl, .string (bstr tx), .slice ao ks.length cc] 31)).drewN n) fun e w' => e = .returned (.int .i64 (k : Int)) ∧ w' = (w.alloc (.cells #[.int .u8 kd, .int .i64 pl, .string (bstr tx), .slice ao ks.length cc] 31)).drewN n := fun n => by
        have := pick_any pl (kept.length : Int) ((w.alloc (.cells #[.int .u8 kd, .int .i64 pl, .string (bstr tx), .slice ao ks.length cc] 31)).drewN n) h1 h2 (by omega) (by omega)
        rw [hkk] at this
        exact this.mono fun _ _ h => ⟨h.1, h.2.symm⟩
      have HPK := hid hpick
      clear hpick hkk
      have a1 : (k : Int) ≤ (kept.length : Int) := by omega
      have a2 : k ≤ kept.length := by omega
      have hz2 := bstr_size tx
      by_cases hq : tx.length ≤ kept.length - k
      · have e5 : ((kept.length : Int) - (k : Int) < ((bstr tx).size : Int)) = False := by rw [eq_iff_iff, iff_false]; omega
        have e6 : (bstr tx).size ≤ 200 := by omega
        obtain ⟨code, kept1, now1, pend1, O, hle⟩ := op_write (J := J) (B := B) (bd := bd) (bk := bk) (bn := bn) (rb := rb) (dv := dv) (kv := .slice ka kept.length kc) (rv := .slice ra pend.length rc) hsame.out (by omega) (k : Int) tx (by omega) (by omega) (by omega)
        have OH := hid O
        have H1 := hid (fun x hx => O.first (HJ.out x hx).1 (HJ.out x hx).2.1 (HJ.out x hx).2.2)
        clear O hz hz2
        go_enter Try.func12, Try.ntmps12
        go_wp2_with fail
        go_quiet (first | (go_at_call 23; refine Calls.quiet_of_same (HPK.out _)))
        go_wp2_with fail
        refine (H1.out _ (below_drewN (Below.refl _ _) (Nat.le_refl _) _)).mono ?_
        rintro e w1 ⟨rfl, dv1, M1, bb1, J1⟩
        have H2 := hid (OH.out.two w1 dv1 M1 J1)
        clear M1 J1
        go_wp2_with fail
        refine H2.out.mono ?_
        rintro e w2 ⟨rfl, kv2, rv2, T2', bb2⟩
        have T2 := hid T2'
        have bb := hid (bb1.trans bb2)
        clear T2' bb1 bb2
        go_wp2_with fail
        go_ret
        exact ⟨rfl, _, _, _, kept1, now1, pend1, T2.out, bb.out, OH.out.len, by omega⟩
      · obtain ⟨t3, ht3⟩ : ∃ t3, t3 = tx.take (kept.length - k) := ⟨_, rfl⟩
        have f1 : kept.length - k ≤ (bstr tx).size := by omega
        have e5 : ((kept.length : Int) - (k : Int) < ((bstr tx).size : Int)) = True := by rw [eq_iff_iff, iff_true]; omega
        have hex3 : (bstr tx).extract 0 (kept.length - k) = bstr t3 := by rw [bstr_extract, ht3]; simp
        have f2 : (0 : Int) ≤ (kept.length : Int) - (k : Int) := by omega
        have f3 : (kept.length : Int) - (k : Int) ≤ ((bstr tx).size : Int) := by omega
        have f4 : ((kept.length : Int) - (k : Int)).toNat = kept.length - k := by omega
        have f5 : t3.length ≤ 200 := by rw [ht3]; simp; omega
        clear ht3
        obtain ⟨code, kept1, now1, pend1, O, hle⟩ := op_write (J := J) (B := B) (bd := bd) (bk := bk) (bn := bn) (rb := rb) (dv := dv) (kv := .slice ka kept.length kc) (rv := .slice ra pend.length rc) hsame.out (by omega) (k : Int) t3 (by omega) (by omega) (by omega)
        have OH := hid O
        have H1 := hid (fun x hx => O.first (HJ.out x hx).1 (HJ.out x hx).2.1 (HJ.out x hx).2.2)
        clear O hz hz2
        go_enter Try.func12, Try.ntmps12
        go_wp2_with fail
        go_quiet (first | (go_at_call 23; refine Calls.quiet_of_same (HPK.out _)))
        go_wp2_with fail
        refine (H1.out _ (below_drewN (Below.refl _ _) (Nat.le_refl _) _)).mono ?_
        rintro e w1 ⟨rfl, dv1, M1, bb1, J1⟩
        have H2 := hid (OH.out.two w1 dv1 M1 J1)
        clear M1 J1
        go_wp2_with fail
        refine H2.out.mono ?_
        rintro e w2 ⟨rfl, kv2, rv2, T2', bb2⟩
        have T2 := hid T2'
        have bb := hid (bb1.trans bb2)
        clear T2' bb1 bb2
        go_wp2_with fail
        go_ret
        exact ⟨rfl, _, _, _, kept1, now1, pend1, T2.out, bb.out, OH.out.len, by omega⟩
    · by_cases q2 : kd % 4 = 2
      · have m0 : (kd % 4 == 0) = false := by rw [beq_eq_false_iff_ne]; omega
        have m1 : (kd % 4 == 1) = false := by rw [beq_eq_false_iff_ne]; omega
        have m2 : (kd % 4 == 2) = true := by rw [beq_iff_eq]; omega
        have OH := hid (op_sync (J := J) (B := B) (bd := bd) (bk := bk) (bn := bn) (rb := rb) (dv := dv) (kv := .slice ka kept.length kc) (rv := .slice ra pend.length rc) hsame.out hnl.out)
        have H1 := hid (fun x hx => OH.out.first (HJ.out x hx).1 (HJ.out x hx).2.1 (HJ.out x hx).2.2)
        clear hz
        go_enter Try.func12, Try.ntmps12
        go_wp2_with fail
        refine (H1.out _ (Below.refl _ _)).mono ?_
        rintro e w1 ⟨rfl, dv1, M1, bb1, J1⟩
        have H2 := hid (OH.out.two w1 dv1 M1 J1)
        clear M1 J1
        go_wp2_with fail
        refine H2.out.mono ?_
        rintro e w2 ⟨rfl, kv2, rv2, T2', bb2⟩
        have T2 := hid T2'
        have bb := hid (bb1.trans bb2)
        clear T2' bb1 bb2
        go_wp2_with fail
        go_ret
        exact ⟨rfl, _, _, _, now, now, [], T2.out, bb.out, OH.out.len, by simp⟩
      · have m0 : (kd % 4 == 0) = false := by rw [beq_eq_false_iff_ne]; omega
        have m1 : (kd % 4 == 1) = false := by rw [beq_eq_false_iff_ne]; omega
        have m2 : (kd % 4 == 2) = false := by rw [beq_eq_false_iff_ne]; omega
        by_cases hneg : pl < 0
        · obtain ⟨code, kept1, now1, pend1, O, hle⟩ := op_crash (J := fun y => J y ∧ IntsAt y (.slice ao ks.length cc) ks) (B := B) (bd := bd) (bk := bk) (bn := bn) (rb := rb) (dv := dv) (kv := .slice ka kept.length kc) (rv := .slice ra pend.length rc) hsame.out (by omega) hok.out (.slice ao ks.length cc) ks (fun y h => h.2) HR.out hlen
          have OH := hid O
          have H1 := hid (fun x hx => O.first (HJ.out x hx).1 (HJ.out x hx).2.1 (fun y hy => ⟨(HJ.out x hx).2.2 y hy, HI.out y ((HJ.out x hx).2.1.trans (low_below (HJ.out x hx).1 hy))⟩))
          clear O hz
          go_enter Try.func12, Try.ntmps12
          go_wp2_with fail
          go_region_with (first | (go_at_call 21; refine (H1.out _ ?_).mono ?_; (first | exact (Below.refl _ _).drew | exact Below.refl _ _); rintro e w1 ⟨rfl, dv1, M1, bb1, J1⟩; have c1x := (hJc.out w1 J1.1).1; have c3x := (hJc.out w1 J1.1).2) | (go_at_call 29; refine (OH.out.two w1 dv1 M1 J1).mono ?_; rintro e w2 ⟨rfl, kv2, rv2, T2', bb2⟩; have T2 := hid T2'; have bb := hid (bb1.trans bb2); clear T2' bb1 bb2 M1 J1))
          go_wp2_with fail
          all_goals go_ret
          all_goals exact ⟨rfl, _, _, _, kept1, now1, pend1, T2.out, bb.out, OH.out.len, by omega⟩
        · have HKE := hid (fun x hx => keep_any x (.slice ao ks.length cc) ks pend.length (HI.out x (HJ.out x hx).2.1) HR.out hlen (by omega))
          have HT1 := hid (fun x hx w1 (hb : Below x.heap.size x w1) => (⟨(HJ.out x hx).1.later hb, (HJ.out x hx).2.1.trans (hb.mono (HJ.out x hx).1.base)⟩ : Both w1 B bd bk bn rb dv (.slice ka kept.length kc) (.slice ra pend.length rc) kept now pend ∧ Below B w w1))
          clear hz
          go_enter Try.func12, Try.ntmps12
          go_wp2_with fail
          go_region_with (first | (go_at_call 22; refine (HKE.out _ ?_).mono ?_; (first | exact (Below.refl _ _).drew | exact Below.refl _ _); rintro e w0 ⟨v, k2, rfl, hv, hko, hk20, hb1⟩; obtain ⟨T1, bw1⟩ := HT1.out _ (by first | exact (Below.refl _ _).drew | exact Below.refl _ _) w0 hb1))
          all_goals
            have hkr : ∀ x ∈ k2, -9223372036854775808 ≤ x ∧ x ≤ 9223372036854775807 := fun x hx => by
              have := hko.lt x hx
              unfold ixOf at this
              split at this <;> omega
            obtain ⟨code, kept1, now1, pend1, O, hle⟩ := op_crash (J := fun y => IntsAt y v k2) (B := B) (bd := bd) (bk := bk) (bn := bn) (rb := rb) (dv := dv) (kv := .slice ka kept.length kc) (rv := .slice ra pend.length rc) hsame.out (by omega) hok.out v k2 (fun y h => h) hkr (by omega)
            have OH := hid O
            have H1 := hid (O.first T1 bw1 (fun y hy => ints_of_owns (hy.owns hv (fun g hg => by
              obtain ⟨cur, hc⟩ := owns_cells hv hg
              exact disk_free5 T1.disk hc (by decide) (by decide) (by decide)))))
            clear O T1 hv hkr hko hb1
            go_wp2_with fail
            refine H1.out.mono ?_
            rintro e w1 ⟨rfl, dv1, M1, bb1, J1⟩
            have H2 := hid (OH.out.two w1 dv1 M1 J1)
            clear M1 J1
            go_wp2_with fail
            refine H2.out.mono ?_
            rintro e w2 ⟨rfl, kv2, rv2, T2', bb2⟩
            have T2 := hid T2'
            have bb := hid (bb1.trans bb2)
            clear T2' bb1 bb2
            go_wp2_with fail
            go_ret
            exact ⟨rfl, _, _, _, kept1, now1, pend1, T2.out, bb.out, OH.out.len, by omega⟩

end Go.Proofs.Ytknmebknkncmoaa
