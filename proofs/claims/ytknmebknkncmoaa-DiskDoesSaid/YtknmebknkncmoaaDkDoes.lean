/- The walk of DiskDoes: it answers true at whatever arguments. -/
import Derived.Test.YtknmebknkncmoaaDkDoA
import Derived.Test.YtknmebknkncmoaaDkDoB
namespace Go.Proofs.Ytknmebknkncmoaa
open Go.RowKit Go.Lib

theorem do_any {w : World} {B bd bk bn rb : Nat} {dv kv rv : Value} {kept now : Bs} {pend : List (Nat × Bs)} (T : Both w B bd bk bn rb dv kv rv kept now pend) (hpl : pend.length ≤ 500000) (kd pl : Int) (tx : Bs) (ao : Option Addr) (cc : Nat) (ks : List Int)
    (hk1 : 0 ≤ kd) (hk2 : kd ≤ 255) (h1 : -9223372036854775808 ≤ pl) (h2 : pl ≤ 9223372036854775807) (htx : tx.length ≤ 9223372036854775807) (hr : ∀ x ∈ ks, -9223372036854775808 ≤ x ∧ x ≤ 9223372036854775807) (hlen : ks.length ≤ 9223372036854775807)
    (hI : ∀ y, Below B w y → IntsAt y (.slice ao ks.length cc) ks) :
    Calls Try.prog 12 #[.pointer (some ⟨bd, 0, none⟩), .pointer (some ⟨rb, 0, none⟩), .agg #[.int .u8 kd, .int .i64 pl, .string (bstr tx), .slice ao ks.length cc]] w (DoEnd w B bd bk bn rb kept pend) := by
  by_cases hA : tx.length ≤ 200
  · exact do_short T hpl kd pl tx hA ao cc ks hk1 hk2 h1 h2 htx hr hlen hI
  · exact do_long T hpl kd pl tx hA ao cc ks hk1 hk2 h1 h2 htx hr hlen hI

section
variable {B bd bk bn rb : Nat} {dv kv rv : Value} {kept now : Bs} {pend : List (Nat × Bs)}
theorem read_both (hn : now = pend.foldl lay kept) (a n : Int) (h1 : -9223372036854775808 ≤ a) (h2 : a ≤ 9223372036854775807) (h3 : -9223372036854775808 ≤ n) (h4 : n ≤ 9223372036854775807) :
    ∃ (sv : Bs) (code : Int), (∀ x, Both x B bd bk bn rb dv kv rv kept now pend → Calls Try.prog 13 #[.pointer (some ⟨bd, 0, none⟩), .int .i64 a, .int .i64 n] x fun e w' => e = .returned (.tuple #[str sv, .int .i64 code]) ∧ x = w') ∧
      (∀ x, Both x B bd bk bn rb dv kv rv kept now pend → Calls Try.prog 14 #[.pointer (some ⟨rb, 0, none⟩), .int .i64 a, .int .i64 n] x fun e w' => e = .returned (.tuple #[str sv, .int .i64 code]) ∧ Below x.heap.size x w') := by
  by_cases hw : wthB kept.length a n = true
  · simp only [wthB, Bool.and_eq_true, decide_eq_true_eq] at hw
    obtain ⟨p, rfl⟩ := Int.eq_ofNat_of_zero_le hw.1.1.1
    obtain ⟨q, rfl⟩ := Int.eq_ofNat_of_zero_le hw.1.1.2
    refine ⟨(now.drop p).take q, 0, fun x T => read_ok T.disk p q (by omega), fun x T => ?_⟩
    rw [hn]
    exact ref_read_ok T.ref p q (by omega)
  · have hw' : wthB kept.length a n = false := by simpa using hw
    exact ⟨[], 260, fun x T => read_bad T.disk a n h1 h2 h3 h4 hw', fun x T => (ref_read_bad T.ref a n h1 h2 h3 h4 hw').mono fun e w' ⟨he, hx⟩ => ⟨he, hx ▸ Below.refl _ _⟩⟩

theorem read_all {x : World} (T : Both x B bd bk bn rb dv kv rv kept now pend) :
    Calls Try.prog 14 #[.pointer (some ⟨rb, 0, none⟩), .int .i64 0, .int .i64 (kept.length : Int)] x fun e w' => e = .returned (.tuple #[str now, .int .i64 0]) ∧ Below x.heap.size x w' := by
  have h := ref_read_ok T.ref 0 kept.length (by omega)
  rw [← T.same, List.drop_zero, List.take_of_length_le (by rw [T.disk.len]; exact Nat.le_refl _)] at h
  exact h

theorem pend_quiet {x : World} (D : DiskAt x B bd bk bn dv kept now pend) (n : Nat) :
    Calls Try.prog 16 #[.pointer (some ⟨bd, 0, none⟩)] (x.drewN n) fun e w' => e = .returned (.int .i64 pend.length) ∧ w' = x.drewN n :=
  (pending_any (D.drewN n)).mono fun _ _ h => ⟨h.1, h.2.symm⟩
theorem size_quiet {x : World} (D : DiskAt x B bd bk bn dv kept now pend) (n : Nat) :
    Calls Try.prog 17 #[.pointer (some ⟨bd, 0, none⟩)] (x.drewN n) fun e w' => e = .returned (.int .i64 kept.length) ∧ w' = x.drewN n :=
  (size_any (D.drewN n)).mono fun _ _ h => ⟨h.1, h.2.symm⟩
end

theorem ints_later {w w' : World} {v : Value} {ks : List Int} (h : IntsAt w v ks) (hb : Below w.heap.size w w') : IntsAt w' v ks := by
  rcases h with h0 | ⟨b, off, c, e, hc⟩
  · exact .inl h0
  · exact .inr ⟨b, off, c, e, fun j x hx => (hb.cell (World.block_lt_of_cell? _ _ (hc j x hx))).trans (hc j x hx)⟩

def DoesRel (w : World) (B bd bk bn rb : Nat) (l : List ActD) (i : Value) (wr : World) : Prop :=
  ∃ (j : Nat) (dv kv rv : Value) (kept now : Bs) (pend : List (Nat × Bs)), i = .int .i64 (j : Int) ∧ j ≤ l.length ∧ j ≤ 20 ∧ Both wr B bd bk bn rb dv kv rv kept now pend ∧ pend.length ≤ 200 * j ∧ Below w.heap.size w wr

set_option maxRecDepth 20000 in
set_option maxHeartbeats 4000000 in
theorem does_any (w : World) (v1 : Value) (l : List ActD) (hl : ActsAt w v1 l) (hk : KeepsAt w l) (c a n : Int) (hc1 : -9223372036854775808 ≤ c) (hc2 : c ≤ 9223372036854775807)
    (ha1 : -9223372036854775808 ≤ a) (ha2 : a ≤ 9223372036854775807) (hn1 : -9223372036854775808 ≤ n) (hn2 : n ≤ 9223372036854775807) :
    Calls Try.prog 3 #[.int .i64 c, v1, .int .i64 a, .int .i64 n] w fun e w' => e = .returned (.bool true) ∧ Below w.heap.size w w' := by
  obtain ⟨ao, lc, lb, lo, rfl, hlm, hok, hcells⟩ := hl
  have HCL := hid hcells
  have HOK := hid hok
  have HK := hid hk
  clear hcells hok hk
  go_enter Try.func3, Try.ntmps3
  go_wp2_with fail
  refine (awake_any w).mono ?_
  rintro e w1 ⟨rfl, b1⟩
  go_wp2_with fail
  refine (two_any c w1 hc1 hc2).mono ?_
  rintro e w2 ⟨n0, bd, bk, bn, rb, kv, rfl, T, b2⟩
  obtain ⟨B, hB⟩ : ∃ B, B = w1.heap.size := ⟨_, rfl⟩
  have hwB : w.heap.size ≤ B := by have := b1.size; omega
  have HT := hid T
  have HB := hid (b1.trans (b2.mono b1.size))
  rw [← hB] at HT
  clear T b1 b2 hB
  go_wp2_with fail
  go_loopw [12] (fun i wr => DoesRel w B bd bk bn rb l i wr) (fun i _ => l.length - (intOf i).toNat)
  case atStart => exact ⟨0, _, _, _, _, _, _, rfl, by omega, by omega, HT.out, by simp, HB.out⟩
  case round =>
    obtain ⟨j, dv, kv1, rv, kept, now, pend, rfl, hj, hj20, T, hp, hb⟩ := hrel
    by_cases hgo : j < l.length ∧ j < 20
    · obtain ⟨g1, g2⟩ := hgo
      obtain ⟨x, hx⟩ : ∃ x, l[j]? = some x := ⟨l[j], by simp [g1]⟩
      have hmem := List.mem_of_getElem? hx
      obtain ⟨rfl, q0, q1, q2, q3⟩ := HCL.out j x hx
      obtain ⟨⟨kd1, kd2⟩, ks, hi, hkl, hkr⟩ := HK.out x hmem
      obtain ⟨ka, kcc, _, _, hke, _⟩ := ints_form hi
      obtain ⟨o1, o2, o3⟩ := HOK.out x hmem
      rw [hke] at q3 hi
      have p0 := (hb.cell (World.block_lt_of_cell? _ _ q0)).trans q0
      have p1 := (hb.cell (World.block_lt_of_cell? _ _ q1)).trans q1
      have p2 := (hb.cell (World.block_lt_of_cell? _ _ q2)).trans q2
      have p3 := (hb.cell (World.block_lt_of_cell? _ _ q3)).trans q3
      unfold maxLen at hkl
      have HDO := hid (do_any T (by omega) x.kind x.place x.text ka kcc ks kd1 kd2 o1 o2 o3 hkr (by omega) (fun y hy => ints_later hi (hb.trans (hy.mono hwB))))
      have HBE := hid hb
      clear q0 q1 q2 q3 hx hke hi hkr T hb
      go_wp2_with fail
      refine HDO.out.mono ?_
      rintro e w3 ⟨rfl, dv3, kv3, rv3, kept3, now3, pend3, T3, b3, hk3, hp3⟩
      obtain ⟨sv, code, R1, R2⟩ := read_both (B := B) (bd := bd) (bk := bk) (bn := bn) (rb := rb) (dv := dv3) (kv := kv3) (rv := rv3) T3.same a n ha1 ha2 hn1 hn2
      have HR1 := hid (R1 w3 T3)
      have HR2 := hid (R2 w3 T3)
      have HT3 := hid T3
      have HB3 := hid (HBE.out.trans (b3.mono hwB))
      clear R1 R2 T3 b3 p0 p1 p2 p3 hk3
      go_wp2_with fail
      refine HR1.out.mono ?_
      rintro e w' ⟨rfl, rfl⟩
      go_wp2_with fail
      refine HR2.out.mono ?_
      rintro e w4 ⟨rfl, b4⟩
      have T4 := HT3.out.later b4
      have HB4 := hid (HB3.out.trans (b4.mono HB3.out.size))
      obtain ⟨ka4, kc4, rfl, _⟩ := ownsRow_view T4.ref.hk
      obtain ⟨ra4, rc4, rfl, _⟩ := ownsRow_view T4.ref.hp
      have c0 := cell_of (i := 0) T4.ref.hd rfl
      have HRA := hid (read_all T4)
      have HT4 := hid T4
      have hlo := T4.disk.hi
      clear T4 b4
      go_wp2_with fail
      refine HRA.out.mono ?_
      rintro e w5 ⟨rfl, b5⟩
      have T5 := HT4.out.later b5
      have HB5 := hid (HB4.out.trans (b5.mono HB4.out.size))
      have d0 := cell_of (i := 0) T5.ref.hd rfl
      have d1 := cell_of (i := 1) T5.ref.hd rfl
      have HT5 := hid T5
      clear T5 b5 c0
      go_wp2_with fail
      go_quiet (first | (go_at_call 15; refine Calls.quiet_of_same (all_quiet HT5.out.disk _)) | (go_at_call 16; refine Calls.quiet_of_same (pend_quiet HT5.out.disk _)) | (go_at_call 17; refine Calls.quiet_of_same (size_quiet HT5.out.disk _)))
      have RR := hid (fun m => (show DoesRel w B bd bk bn rb l (.int .i64 ((j : Int) + 1)) (w5.drewN m) from
        ⟨j + 1, _, _, _, _, _, _, by simp, by omega, by omega, HT5.out.later (below_drewN (Below.refl _ _) (Nat.le_refl _) m), by omega, below_drewN HB5.out HB5.out.size m⟩))
      clear d0 d1
      go_wp2
      go_roundw
      case rel => exact RR.out _
      case measure => simp [intOf]; omega
    · have HBE := hid hb
      clear T hb
      by_cases hbad : a < 64 ∨ 65536 < a ∨ a % 64 ≠ 0
      · have HN1 := hid (fun x => new_bad a x hbad ha1 ha2)
        have HN2 := hid (fun x => ref_new_bad a x hbad ha1 ha2)
        clear hbad
        go_wp2_with fail
        all_goals
          refine (HN1.out _).mono ?_
          rintro e w' ⟨rfl, rfl⟩
          go_wp2_with fail
          refine (HN2.out _).mono ?_
          rintro e w' ⟨rfl, rfl⟩
          go_wp2_with fail
          go_quiet (fail)
          go_wp2
          go_ret
          exact ⟨rfl, below_drewN HBE.out HBE.out.size _⟩
      · obtain ⟨m, rfl⟩ := Int.eq_ofNat_of_zero_le (show 0 ≤ a by omega)
        have HN1 := hid (fun x => new_ok m x (by omega) (by omega) (by omega))
        have HN2 := hid (fun x => ref_new_ok m x (by omega) (by omega) (by omega))
        have m2 : m ≤ 65536 := by omega
        clear hbad
        go_wp2_with fail
        all_goals
          refine (HN1.out _).mono ?_
          rintro e w5 ⟨ed, ek, en, rfl, D5, ch5⟩
          have HD5 := hid D5
          have HC5 := hid (HBE.out.trans (ch5.nil_below.mono HBE.out.size))
          clear D5 ch5
          go_wp2_with fail
          refine (HN2.out _).mono ?_
          rintro e w6 ⟨sb, skv, rfl, R6, ch6⟩
          have HD6 := hid (HD5.out.keep ch6 (by simp) (by simp) (by simp) (by simp))
          have HC6 := hid (HC5.out.trans (ch6.nil_below.mono HC5.out.size))
          obtain ⟨ska, skc, rfl, _⟩ := ownsRow_view R6.hk
          have hz := zeros_length m
          have hd := R6.hd
          rw [hz] at hd
          have d0 := cell_of (i := 0) hd rfl
          have hsq := fun q => size_quiet HD6.out q
          rw [hz] at hsq
          have HSQ := hid hsq
          clear R6 ch6 hd hz hsq
          go_wp2_with fail
          go_quiet (first | (go_at_call 17; refine Calls.quiet_of_same (HSQ.out _)))
          go_wp2
          go_ret
          exact ⟨rfl, below_drewN HC6.out HC6.out.size _⟩

end Go.Proofs.Ytknmebknkncmoaa
