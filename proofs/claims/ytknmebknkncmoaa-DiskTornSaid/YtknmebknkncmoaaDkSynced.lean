/- The walk of DiskSynced: it answers true at whatever Acts and numbers. No condition. -/
import Derived.Test.YtknmebknkncmoaaDkSyncedP
import Derived.Test.YtknmebknkncmoaaDkReads
namespace Go.Proofs.Ytknmebknkncmoaa
open Go.RowKit Go.Lib

def SynRel (w5 : World) (i : Value) (wr : World) : Prop := ∃ (j m : Nat), i = .int .i64 (j : Int) ∧ j ≤ 320 ∧ wr = w5.drewN m
def HitRel (w5 : World) (l : List ActD) (j m : Nat) (b k : Value) (wr : World) : Prop := ∃ (n : Nat) (wv : Bool), k = .int .i64 (n : Int) ∧ n ≤ l.length ∧ n ≤ 8 ∧ b = .bool wv ∧ wv = (l.take n).any (hits j) ∧ wr = w5.drewN m

theorem hits_snoc {l : List ActD} {n j : Nat} {x : ActD} (h : l[n]? = some x) : (l.take (n + 1)).any (hits j) = ((l.take n).any (hits j) || hits j x) := by
  rw [List.take_add_one, h, List.any_append]
  simp

theorem index_str {M : Bs} {j : Nat} {c : UInt8} (h : M[j]? = some c) (x : World) : (Instr.index 9 (str M) (.int .i64 (j : Int))).run Try.prog x = .ok (.int .u8 (c.toNat : Int)) x := by
  obtain ⟨hj, he⟩ := List.getElem?_eq_some_iff.1 h
  rw [run_index_string x 9 _ _ _ Try.underlying9, dif_pos ⟨by omega, by rw [bstr_size]; omega⟩]
  subst he
  rfl

theorem drewN_drewN (w : World) (a b : Nat) : (w.drewN a).drewN b = w.drewN (a + b) := by
  simp only [World.drewN, Nat.add_assoc]

set_option maxRecDepth 20000 in
set_option maxHeartbeats 2000000 in
theorem synced_any (w : World) (v0 v1 v2 : Value) (l0 l1 : List ActD) (ls : List Int) (h0 : ActsAt w v0 l0) (h1 : ActsAt w v1 l1) (h2 : IntsAt w v2 ls) (hr : ∀ x ∈ ls, -9223372036854775808 ≤ x ∧ x ≤ 9223372036854775807) (hlen : ls.length ≤ 9223372036854775807) :
    Calls Try.prog 4 #[v0, v1, v2] w fun e w' => e = .returned (.bool true) ∧ Below w.heap.size w w' := by
  obtain ⟨K, hK⟩ : ∃ K, K = nowOf (l0.take 8) (zeros 320) := ⟨_, rfl⟩
  have hKl : K.length = 320 := by rw [hK]; exact nowOf_length (zeros_length 320)
  obtain ⟨P, hP⟩ : ∃ P, P = pendOf (l1.take 8) := ⟨_, rfl⟩
  obtain ⟨N, hN⟩ : ∃ N, N = nowOf (l1.take 8) K := ⟨_, rfl⟩
  have hPl : P.length ≤ 2560 := by
    have := pendOf_count (l1.take 8)
    have : (l1.take 8).length ≤ 8 := by simp; omega
    rw [hP]; omega
  have HK := hid hK
  have HP := hid hP
  have HN := hid hN
  have H0 := hid h0
  have H1 := hid h1
  have H2 := hid h2
  have HR := hid hr
  have HKL := hid hKl
  clear hK hP hN h0 h1 h2 hr hKl
  obtain ⟨ao1, c1, bb1, off1, rfl, hl1, hk1, hc1⟩ := H1.out
  have HC1 := hid hc1
  clear hc1
  go_enter Try.func4, Try.ntmps4
  go_wp2_with fail
  refine (awake_any _).mono ?_
  rintro e w1 ⟨rfl, b1⟩
  go_wp2_with fail
  refine (filled_any w1 v0 _ l0 l1 (H0.out.below b1) (H1.out.below b1)).mono ?_
  rintro e w2 ⟨bd, bk, bn, pv, rfl, D, b2⟩
  rw [← HK.out, ← HN.out, ← HP.out] at D
  have b02 := b1.trans (b2.mono b1.size)
  have HD := hid D
  have hbb := disk_low HD.out
  have hb1 := b1.size
  clear D b2 b1
  go_wp2_with fail
  refine (filled_any w2 v0 _ l0 [] (H0.out.below b02) (actsAt_nil _)).mono ?_
  rintro e w3 ⟨ad, ak, an, av, rfl, Da, b3⟩
  have Da' : DiskAt w3 w2.heap.size ad ak an av K K [] := by rw [HK.out]; exact Da
  have b03 := b02.trans (b3.mono b02.size)
  have HDa := hid Da'
  have HD3 := hid (HD.out.later b3)
  clear Da Da' b3 b02 HD
  go_wp2_with fail
  refine (all_any HDa.out).mono ?_
  rintro e w' ⟨rfl, rfl⟩
  go_wp2_with fail
  refine (pending_any HD3.out).mono ?_
  rintro e w' ⟨rfl, rfl⟩
  go_wp2_with fail
  refine (keep_any _ v2 ls P.length (by
    rcases H2.out with ⟨rfl, h⟩ | ⟨b, off, c, e, hc⟩
    · exact .inl ⟨rfl, h⟩
    · exact .inr ⟨b, off, c, e, fun j x hx => (b03.cell (World.block_lt_of_cell? _ _ (hc j x hx))).trans (hc j x hx)⟩) HR.out hlen (by omega)).mono ?_
  rintro e w4 ⟨kv, ks, rfl, hown, hok, hkl, b4⟩
  have b04 := b03.trans (b4.mono b03.size)
  have HD4 := hid (HD3.out.later b4)
  have HOK := hid hok
  have HKS := hid (ints_of_owns hown)
  clear hown hok b4 HD3 HDa b03
  go_wp2_with fail
  refine (crash_any HD4.out kv ks HKS.out (keep_small HOK.out (by omega)) (by omega) (by omega)).mono ?_
  rintro e w5 (⟨_, rfl, D5, c5⟩ | ⟨hk, _⟩)
  rotate_left
  · exact absurd HOK.out hk
  obtain ⟨M, hM⟩ : ∃ M, M = (ks.map (pieceOf P)).foldl lay K := ⟨_, rfl⟩
  rw [← hM] at D5
  have b05 : Below w.heap.size w w5 := b04.trans (c5.below (by intro x hx; simp at hx; omega) b04.size)
  have HML := hid (show M.length = 320 from by rw [hM, lays_length (fun p hp => (pieces_ok HOK.out (fun q hq => HD4.out.ok q hq) p hp).1), HKL.out])
  have HPL := hid (show ∀ i, (l1.take 8).any (hits i) = false → M[i]? = K[i]? from fun i hi => by rw [hM, HP.out]; exact synced_plain HKL.out (by rw [← HP.out]; exact HOK.out) hi)
  have HD5 := hid D5
  have HC5 := hid (show ∀ i x, l1[i]? = some x → ao1 = some ⟨bb1, off1, none⟩ ∧ w5.cell? ⟨bb1, off1 + i * 4 + 1, none⟩ = some (.int .i64 x.place) ∧ w5.cell? ⟨bb1, off1 + i * 4 + 2, none⟩ = some (.string (bstr x.text)) from fun i x hx => by
    obtain ⟨k0, _, k2, k3, _⟩ := HC1.out i x hx
    exact ⟨k0, (b05.cell (World.block_lt_of_cell? _ _ k2)).trans k2, (b05.cell (World.block_lt_of_cell? _ _ k3)).trans k3⟩)
  clear D5 c5 hM b04 HD4 HKS HOK H0 H1 H2 HR HC1
  go_wp2_with fail
  refine (all_any HD5.out).mono ?_
  rintro e w' ⟨rfl, rfl⟩
  have hml : (bstr M).size = 320 := by rw [bstr_size, HML.out]
  have hkl2 : (bstr K).size = 320 := by rw [bstr_size, HKL.out]
  go_wp2_with fail
  go_loopw [12] (fun i wr => SynRel w5 i wr) (fun i _ => 320 - (intOf i).toNat)
  case atStart => exact ⟨0, 0, rfl, by omega, rfl⟩
  case round =>
    obtain ⟨j, m, rfl, hj, rfl⟩ := hrel
    by_cases hgo : j < 320
    · have HML2 := hid hml
      have HKL3 := hid hkl2
      clear hml hkl2
      go_wp2_with fail
      have hd : (decide ((j : Int) < 320)) = true := decide_eq_true (by omega)
      rw [hd]
      go_loopw [13, 14] (fun b k wr => HitRel w5 l1 j m b k wr) (fun _ k _ => l1.length - (intOf k).toNat)
      case atStart => exact ⟨0, false, rfl, by omega, by omega, rfl, rfl, rfl⟩
      case round =>
        obtain ⟨n, wv, rfl, hn, hn8, rfl, hwv, rfl⟩ := hrel
        by_cases hgo2 : n < l1.length ∧ n < 8
        · obtain ⟨g1, g2⟩ := hgo2
          obtain ⟨x, hx⟩ : ∃ x, l1[n]? = some x := ⟨l1[n], by simp [g1]⟩
          obtain ⟨rfl, kx1, kx2⟩ := HC5.out n x hx
          have hok := hk1 x (List.mem_of_getElem? hx)
          have hsn := hits_snoc (j := j) hx
          rw [← hwv] at hsn
          have HSN := hid hsn
          clear hsn hwv hx
          go_wp2_with fail
          refine (pick_nat x.place 320 _ hok.p1 hok.p2 (by omega) (by omega)).mono ?_
          rintro e w' ⟨k, hk, hkp, rfl, rfl⟩
          have hpl : placeOf x = k := by unfold placeOf; omega
          have ht := hok.t1
          have hsz := bstr_size x.text
          have hh : hits j x = (decide (k ≤ j) && decide (j < k + x.text.length)) := by unfold hits; rw [hpl]
          have HH := hid hh
          clear hkp hh hpl
          cases wv with
          | true =>
            have R := hid (show HitRel w5 l1 j m (.bool true) (.int .i64 ((n : Int) + 1)) (w5.drewN m) from ⟨n + 1, true, by simp, by omega, by omega, rfl, by rw [HSN.out]; rfl, rfl⟩)
            go_wp2_with fail
            go_roundw
            case rel => exact R.out
            case measure => simp [intOf]; omega
          | false =>
            by_cases hge : k ≤ j
            · have R := hid (show HitRel w5 l1 j m (.bool (decide ((j : Int) - (k : Int) < (x.text.length : Int)))) (.int .i64 ((n : Int) + 1)) (w5.drewN m) from ⟨n + 1, _, by simp, by omega, by omega, rfl, by rw [HSN.out, HH.out, decide_eq_true hge, Bool.false_or, Bool.true_and, decide_eq_decide]; omega, rfl⟩)
              go_wp2_with fail
              go_roundw
              case rel => exact R.out
              case measure => simp [intOf]; omega
            · have R := hid (show HitRel w5 l1 j m (.bool false) (.int .i64 ((n : Int) + 1)) (w5.drewN m) from ⟨n + 1, false, by simp, by omega, by omega, rfl, by rw [HSN.out, HH.out]; simp [hge], rfl⟩)
              go_wp2_with fail
              go_roundw
              case rel => exact R.out
              case measure => simp [intOf]; omega
        · rw [take_stop hn hn8 hgo2] at hwv
          cases wv with
          | true =>
            clear hwv
            go_wp2_with fail
            all_goals
              go_quiet (fail)
              go_wp2
              go_roundw
              case rel => exact ⟨j + 1, _, by simp, by omega, rfl⟩
              case measure => simp [intOf]; omega
          | false =>
            obtain ⟨c, hc⟩ : ∃ c, M[j]? = some c := ⟨M[j]'(by rw [HML.out]; exact hgo), by simp⟩
            have i1 := index_str hc
            have i2 := index_str ((HPL.out j hwv.symm).symm.trans hc)
            clear hwv hc
            go_wp2_with fail
            all_goals
              go_quiet (fail)
              go_wp2
              go_roundw
              case rel => exact ⟨j + 1, _, by simp, by omega, rfl⟩
              case measure => simp [intOf]; omega
    · obtain rfl : j = 320 := by omega
      have HDE := hid (HD5.out.drewN m)
      clear HD5
      go_wp2_with fail
      refine (pending_any HDE.out).mono ?_
      rintro e w' ⟨rfl, rfl⟩
      go_wp2_with fail
      go_ret
      exact ⟨rfl, below_drewN b05 b05.size m⟩

end Go.Proofs.Ytknmebknkncmoaa
