/- The walk of DiskTorn: it answers true at whatever Acts, place, text and numbers. No condition but that the number is an int. -/
import Derived.Test.YtknmebknkncmoaaDkTornP
import Derived.Test.YtknmebknkncmoaaDkParts
import Derived.Test.YtknmebknkncmoaaDkSynced
import Derived.Test.YtknmebknkncmoaaDkSectors
namespace Go.Proofs.Ytknmebknkncmoaa
open Go.RowKit Go.Lib

theorem piece_cells58 {w : World} {base n : Nat} {pa : Option Addr} {pc : Nat} {l : List (Nat × Bs)} (h : w.ownsRow base 58 2 (.slice pa n pc) n (l.flatMap pieceCells)) {q : Nat} {p : Nat × Bs} (hq : l[q]? = some p) (hn : q < n) :
    ∃ g, pa = some ⟨g, 0, none⟩ ∧ w.cell? ⟨g, q * 2, none⟩ = some (.int .i64 (p.1 : Int)) ∧ w.cell? ⟨g, q * 2 + 1, none⟩ = some (.string ⟨p.2.toArray⟩) := by
  rcases h.2 with ⟨hv, h0⟩ | ⟨g, cap, cur, hv, _⟩
  · omega
  · injection hv with h1 h2 h3
    subst h1 h3
    refine ⟨g, rfl, ?_, ?_⟩
    · rw [h.cellAt _ (by omega), flat_even, hq]; rfl
    · rw [h.cellAt _ (by omega), flat_odd, hq]; rfl

def TornRel (w7 : World) (c : Nat) (i : Value) (wr : World) : Prop := ∃ (k m : Nat), i = .int .i64 (k : Int) ∧ k ≤ c ∧ wr = w7.drewN m
def TornIn (w7 : World) (ks : List Int) (k len m : Nat) (n i : Value) (wr : World) : Prop := ∃ j : Nat, i = .int .i64 (j : Int) ∧ j ≤ ks.length ∧ n = .int .i64 (nOf (ks.take j) k len : Int) ∧ wr = w7.drewN m

theorem nOf_snoc {ks : List Int} {j k len : Nat} {x : Int} (h : ks[j]? = some x) : nOf (ks.take (j + 1)) k len = (hitOf k len x).getD (nOf (ks.take j) k len) := by
  unfold nOf
  rw [List.take_add_one, h, List.foldl_append]
  rfl

set_option maxRecDepth 20000 in
set_option maxHeartbeats 2000000 in
theorem torn_any (w : World) (v0 v3 : Value) (l0 : List ActD) (ls : List Int) (h0 : ActsAt w v0 l0) (at_ : Int) (s : Bs) (ha1 : -9223372036854775808 ≤ at_) (ha2 : at_ ≤ 9223372036854775807) (hs : s.length ≤ 9223372036854775807)
    (h3 : IntsAt w v3 ls) (hr : ∀ x ∈ ls, -9223372036854775808 ≤ x ∧ x ≤ 9223372036854775807) (hlen : ls.length ≤ 9223372036854775807) :
    Calls Try.prog 7 #[v0, .int .i64 at_, .string (bstr s), v3] w fun e w' => e = .returned (.bool true) ∧ Below w.heap.size w w' := by
  obtain ⟨K, hK⟩ : ∃ K, K = nowOf (l0.take 8) (zeros 320) := ⟨_, rfl⟩
  have hKl : K.length = 320 := by rw [hK]; exact nowOf_length (zeros_length 320)
  have HK := hid hK
  have H0 := hid h0
  have H3 := hid h3
  have HR := hid hr
  have HKL := hid hKl
  clear hK h0 h3 hr hKl
  go_enter Try.func7, Try.ntmps7
  go_wp2_with fail
  refine (awake_any _).mono ?_
  rintro e w1 ⟨rfl, b1⟩
  go_wp2_with fail
  refine (filled_any w1 v0 _ l0 [] (H0.out.below b1) (actsAt_nil _)).mono ?_
  rintro e w2 ⟨bd, bk, bn, pv, rfl, D, b2⟩
  have D' : DiskAt w2 w1.heap.size bd bk bn pv K K [] := by rw [HK.out]; exact D
  have b02 := b1.trans (b2.mono b1.size)
  have HD := hid D'
  have s01 := b1.size
  clear D D' b2 b1
  go_wp2_with fail
  refine (all_any HD.out).mono ?_
  rintro e w' ⟨rfl, rfl⟩
  go_wp2_with fail
  refine (pick_nat at_ 320 _ ha1 ha2 (by omega) (by omega)).mono ?_
  rintro e w' ⟨p, hp, hpp, rfl, rfl⟩
  have hsz := bstr_size s
  obtain ⟨t, ht⟩ : ∃ t : Bs, t = s.take (320 - p) := ⟨_, rfl⟩
  have htl : p + t.length ≤ 320 := by rw [ht]; simp; omega
  have hwr : IntKind.i64.wrap (320 - (p : Int)) = 320 - (p : Int) := IntWalk.i64_in _ (by omega)
  clear hpp
  by_cases hm : s.length ≤ 320 - p
  · have e1 : (bstr s).size ≤ 320 - p := by omega
    have e3 : ((320 : Int) - (p : Int) < ((bstr s).size : Int)) = False := by rw [eq_iff_iff, iff_false]; omega
    obtain rfl : t = s := by rw [ht, List.take_of_length_le hm]
    have hex : (bstr t).extract 0 t.length = bstr t := by rw [bstr_extract]; simp
    have HT := hid hsz
    have HEX := hid hm
    clear ht hm
    go_wp2_with fail
    refine (write_ok HD.out p t (by rw [HKL.out]; omega) (by simp)).mono ?_
    rintro e w3 ⟨rfl, pv3, D3, c3, o3⟩
    obtain ⟨P, hP⟩ : ∃ P, P = parts p t := ⟨_, rfl⟩
    rw [List.nil_append, ← hP] at D3
    have hPl : P.length ≤ 320 := by rw [hP]; have := parts_count t.length p t (Nat.le_refl _); omega
    have b03 : Below w.heap.size w w3 := b02.trans (c3.below (own_low (by have := disk_low HD.out; omega) (by have := disk_low HD.out; omega) (fun g hg => by have := disk_own HD.out g hg; omega)) b02.size)
    have HD3 := hid D3
    have HLT1 := hid (show bd < w3.heap.size ∧ bk < w3.heap.size ∧ bn < w3.heap.size from ⟨(disk_lt D3).1, (disk_lt D3).2.1, (disk_lt D3).2.2.1⟩)
    have HP := hid hP
    have s03 := b03.size
    clear D3 c3 o3 b02 HD hP
    go_wp2_with fail
    refine (parts_any _ p t (by omega)).mono ?_
    rintro e w4 ⟨qv, rfl, hown, b4⟩
    rw [← HP.out] at hown
    obtain ⟨qa, qc, rfl, _⟩ := ownsRow_view hown
    have b04 := b03.trans (b4.mono b03.size)
    have HD4 := hid (HD3.out.later b4)
    have HLT2 := hid b4.size
    have HQ := hid hown
    clear hown b4 b03 HD3
    go_wp2_with fail
    refine (keep_any _ v3 ls P.length (H3.out.below b04) HR.out hlen (by omega)).mono ?_
    rintro e w5 ⟨kv, ks, rfl, hown, hok, hkl, b5⟩
    have b05 := b04.trans (b5.mono b04.size)
    have HD5 := hid (HD4.out.later b5)
    have HOK := hid hok
    have HOW := hid hown
    have HQ5 := hid ((Chg.of_below (F := []) b5).owns HQ.out (by simp))
    have s34 := b04.size
    clear hok hown b5 b04 HD4 HQ H3 HR
    go_wp2_with fail
    refine (crash_any HD5.out kv ks (ints_of_owns HOW.out) (keep_small HOK.out (by omega)) (by omega) (by omega)).mono ?_
    rintro e w6 (⟨_, rfl, D6, c6⟩ | ⟨hk, _⟩)
    rotate_left
    · exact absurd HOK.out hk
    obtain ⟨M, hM⟩ : ∃ M, M = (ks.map (pieceOf P)).foldl lay K := ⟨_, rfl⟩
    rw [← hM] at D6
    have HML := hid (show M.length = 320 from by rw [hM, lays_length (fun q hq => (pieces_ok HOK.out (fun r hr => HD5.out.ok r hr) q hq).1), HKL.out])
    have hb3 := hid (⟨HLT1.out, HLT2.out⟩ : (bd < w3.heap.size ∧ bk < w3.heap.size ∧ bn < w3.heap.size) ∧ w3.heap.size ≤ w4.heap.size)
    have own6 := c6.owns HOW.out (fun g hg hm => by have := (HOW.out.lt g hg).1; have := hb3.out; simp at hm; omega)
    have ownq6 := c6.owns HQ5.out (fun g hg hm => by have := (HQ5.out.lt g hg).1; have := hb3.out; simp at hm; omega)
    have b06 : Below w.heap.size w w6 := b05.trans (c6.below (by intro x hx; have := disk_low HD5.out; simp at hx; omega) b05.size)
    obtain ⟨ao, c, kb, off, rfl, hcell⟩ := (ints_of_owns own6).view
    have HCL := hid hcell
    have HCQ := hid (show ∀ (k : Nat) (q : Nat × Bs), P[k]? = some q → ∃ g, qa = some ⟨g, 0, none⟩ ∧ w6.cell? ⟨g, k * 2, none⟩ = some (.int .i64 (q.1 : Int)) ∧ w6.cell? ⟨g, k * 2 + 1, none⟩ = some (.string (bstr q.2)) from fun k q hq => piece_cells58 ownq6 hq (List.getElem?_eq_some_iff.1 hq).1)
    have HT := hid (show ∀ (k n : Nat) (q : Nat × Bs), P[k]? = some q → n = nOf ks k q.2.length → n ≤ q.2.length ∧ (∀ i, q.1 ≤ i → i < q.1 + n → M[i]? = q.2[i - q.1]?) ∧ (∀ i, q.1 + n ≤ i → i < q.1 + q.2.length → M[i]? = K[i]?) from fun k n q hq hn => by
      rw [hM]
      exact torn_plain HOK.out HD5.out.ok (by rw [HP.out]; exact parts_apart _ _ _ (Nat.le_refl _)) hq hn)
    have HPO := hid (show ∀ (k : Nat) (q : Nat × Bs), P[k]? = some q → q.1 + q.2.length ≤ 320 from fun k q hq => by have := HD5.out.ok q (List.mem_of_getElem? hq); rw [HKL.out] at this; omega)
    have HD6 := hid D6
    clear D6 c6 hM own6 ownq6 hcell HD5 HOW HQ5 HOK hb3 HLT1 HLT2
    go_wp2_with fail
    refine (all_any HD6.out).mono ?_
    rintro e w' ⟨rfl, rfl⟩
    have hml : (bstr M).size = 320 := by rw [bstr_size, HML.out]
    have hkl2 : (bstr K).size = 320 := by rw [bstr_size, HKL.out]
    go_wp2_with fail
    go_loopw [19] (fun i wr => TornRel w6 P.length i wr) (fun i _ => P.length - (intOf i).toNat)
    case atStart => exact ⟨0, 0, rfl, by omega, rfl⟩
    case round =>
      obtain ⟨k, m, rfl, hk, rfl⟩ := hrel
      by_cases hgo : k < P.length
      · obtain ⟨q, hq⟩ : ∃ q, P[k]? = some q := ⟨P[k], by simp [hgo]⟩
        obtain ⟨g, rfl, kc1, kc2⟩ := HCQ.out k q hq
        have hqo := HPO.out k q hq
        have hqs := bstr_size q.2
        have HQQ := hid hq
        have HML2 := hid hml
        have HKL3 := hid hkl2
        clear hq hml hkl2
        go_wp2_with fail
        have hd : decide ((k : Int) < (P.length : Int)) = true := decide_eq_true (by omega)
        try rw [hd]
        clear hd
        go_loopw [20, 21] (fun n i wr => TornIn w6 ks k q.2.length m n i wr) (fun _ i _ => ks.length - (intOf i).toNat)
        case atStart => exact ⟨0, rfl, by omega, rfl, rfl⟩
        case round =>
          obtain ⟨j, rfl, hj, rfl, rfl⟩ := hrel
          by_cases hgo2 : j < ks.length
          · obtain ⟨x, hx⟩ : ∃ x, ks[j]? = some x := ⟨ks[j], by simp [hgo2]⟩
            obtain ⟨rfl, hc0⟩ := HCL.out j x hx
            have HSN := hid (nOf_snoc (k := k) (len := q.2.length) hx)
            clear hx
            by_cases e1 : x = (k : Int)
            · have R := hid (show TornIn w6 ks k q.2.length m (.int .i64 (q.2.length : Int)) (.int .i64 ((j : Int) + 1)) (w6.drewN m) from ⟨j + 1, by simp, by omega, by rw [HSN.out, e1]; unfold hitOf; rw [if_neg (by omega), if_pos rfl]; rfl, rfl⟩)
              have e2 : ¬ ((k : Int) = -1 - (k : Int)) := by omega
              subst e1
              go_wp2_with fail
              go_roundw
              case rel => exact R.out
              case measure => simp [intOf]; omega
            · by_cases e2 : x = -1 - (k : Int)
              · have R := hid (show TornIn w6 ks k q.2.length m (.int .i64 ((q.2.length : Int) / 2)) (.int .i64 ((j : Int) + 1)) (w6.drewN m) from ⟨j + 1, by simp, by omega, by rw [HSN.out]; simp [hitOf, e2], rfl⟩)
                subst e2
                go_wp2_with fail
                go_roundw
                case rel => exact R.out
                case measure => simp [intOf]; omega
              · have R := hid (show TornIn w6 ks k q.2.length m (.int .i64 (nOf (ks.take j) k q.2.length : Int)) (.int .i64 ((j : Int) + 1)) (w6.drewN m) from ⟨j + 1, by simp, by omega, by rw [HSN.out]; simp [hitOf, e1, e2], rfl⟩)
                go_wp2_with fail
                go_roundw
                case rel => exact R.out
                case measure => simp [intOf]; omega
          · obtain rfl : j = ks.length := by omega
            rw [List.take_length]
            obtain ⟨n, hn⟩ : ∃ n, n = nOf ks k q.2.length := ⟨_, rfl⟩
            rw [← hn]
            obtain ⟨t1, t2, t3⟩ := HT.out k n q HQQ.out hn
            obtain ⟨X, hX⟩ : ∃ X, X = q.2.take n := ⟨_, rfl⟩
            obtain ⟨Y, hY⟩ : ∃ Y, Y = (K.drop (q.1 + n)).take (q.2.length - n) := ⟨_, rfl⟩
            have m1 : (bstr M).extract q.1 (q.1 + n) = bstr X := by
              rw [bstr_extract, List.drop_take, show q.1 + n - q.1 = n by omega, hX, ← List.drop_zero (l := q.2.take n), List.drop_take]
              congr 1
              rw [show n - 0 = n by omega]
              exact slice_eq (fun i hi => by rw [t2 (q.1 + i) (by omega) (by omega), show q.1 + i - q.1 = 0 + i by omega])
            have m2 : (bstr q.2).extract 0 n = bstr X := by rw [bstr_extract, List.drop_zero, hX]
            have m4 : (bstr K).extract (q.1 + n) (q.1 + q.2.length) = bstr Y := by rw [bstr_extract, List.drop_take, show q.1 + q.2.length - (q.1 + n) = q.2.length - n by omega, hY]
            have m3 : (bstr M).extract (q.1 + n) (q.1 + q.2.length) = bstr Y := by
              rw [bstr_extract, List.drop_take, show q.1 + q.2.length - (q.1 + n) = q.2.length - n by omega, hY]
              congr 1
              exact slice_eq (fun i hi => t3 (q.1 + n + i) (by omega) (by omega))
            have b1 : q.1 + n ≤ 320 := by omega
            have b2 : q.1 ≤ q.1 + n := by omega
            have b4 : q.1 + n ≤ q.1 + q.2.length := by omega
            have i1 : (q.1 : Int) + (n : Int) ≤ 320 := by omega
            have i2 : (q.1 : Int) ≤ (q.1 : Int) + (n : Int) := by omega
            have i3 : (q.1 : Int) + (n : Int) ≤ (q.1 : Int) + (q.2.length : Int) := by omega
            have i4 : (q.1 : Int) + (q.2.length : Int) ≤ 320 := by omega
            have i5 : (n : Int) ≤ (q.2.length : Int) := by omega
            have i6 : ((q.1 : Int) + (n : Int)).toNat = q.1 + n := by omega
            have i7 : ((q.1 : Int) + (q.2.length : Int)).toNat = q.1 + q.2.length := by omega
            have i8 : (0 : Int) ≤ (q.1 : Int) + (n : Int) := by omega
            have hml := HML2.out
            have hkl2 := HKL3.out
            clear t2 t3 hX hY hn
            go_wp2_with fail
            go_quiet (fail)
            go_wp2
            go_roundw
            case rel => exact ⟨k + 1, _, by simp, by omega, rfl⟩
            case measure => simp [intOf]; omega
      · obtain rfl : k = P.length := by omega
        go_wp2_with fail
        go_ret
        exact ⟨rfl, below_drewN b06 b06.size m⟩
  · have e1 : 320 - p ≤ (bstr s).size := by omega
    have e3 : ((320 : Int) - (p : Int) < ((bstr s).size : Int)) = True := by rw [eq_iff_iff, iff_true]; omega
    have hex : (bstr s).extract 0 (320 - p) = bstr t := by rw [bstr_extract, ht]; simp
    have e6 : (0 : Int) ≤ (320 : Int) - (p : Int) := by omega
    have e7 : (p : Int) ≤ 320 := by omega
    have e8 : (320 : Int) - (p : Int) ≤ ((bstr s).size : Int) := by omega
    have e5 : ((320 : Int) - (p : Int)).toNat = 320 - p := by omega
    clear ht hsz
    go_wp2_with fail
    refine (write_ok HD.out p t (by rw [HKL.out]; omega) (by simp)).mono ?_
    rintro e w3 ⟨rfl, pv3, D3, c3, o3⟩
    obtain ⟨P, hP⟩ : ∃ P, P = parts p t := ⟨_, rfl⟩
    rw [List.nil_append, ← hP] at D3
    have hPl : P.length ≤ 320 := by rw [hP]; have := parts_count t.length p t (Nat.le_refl _); omega
    have b03 : Below w.heap.size w w3 := b02.trans (c3.below (own_low (by have := disk_low HD.out; omega) (by have := disk_low HD.out; omega) (fun g hg => by have := disk_own HD.out g hg; omega)) b02.size)
    have HD3 := hid D3
    have HLT1 := hid (show bd < w3.heap.size ∧ bk < w3.heap.size ∧ bn < w3.heap.size from ⟨(disk_lt D3).1, (disk_lt D3).2.1, (disk_lt D3).2.2.1⟩)
    have HP := hid hP
    have s03 := b03.size
    clear D3 c3 o3 b02 HD hP
    go_wp2_with fail
    refine (parts_any _ p t (by omega)).mono ?_
    rintro e w4 ⟨qv, rfl, hown, b4⟩
    rw [← HP.out] at hown
    obtain ⟨qa, qc, rfl, _⟩ := ownsRow_view hown
    have b04 := b03.trans (b4.mono b03.size)
    have HD4 := hid (HD3.out.later b4)
    have HLT2 := hid b4.size
    have HQ := hid hown
    clear hown b4 b03 HD3
    go_wp2_with fail
    refine (keep_any _ v3 ls P.length (H3.out.below b04) HR.out hlen (by omega)).mono ?_
    rintro e w5 ⟨kv, ks, rfl, hown, hok, hkl, b5⟩
    have b05 := b04.trans (b5.mono b04.size)
    have HD5 := hid (HD4.out.later b5)
    have HOK := hid hok
    have HOW := hid hown
    have HQ5 := hid ((Chg.of_below (F := []) b5).owns HQ.out (by simp))
    have s34 := b04.size
    clear hok hown b5 b04 HD4 HQ H3 HR
    go_wp2_with fail
    refine (crash_any HD5.out kv ks (ints_of_owns HOW.out) (keep_small HOK.out (by omega)) (by omega) (by omega)).mono ?_
    rintro e w6 (⟨_, rfl, D6, c6⟩ | ⟨hk, _⟩)
    rotate_left
    · exact absurd HOK.out hk
    obtain ⟨M, hM⟩ : ∃ M, M = (ks.map (pieceOf P)).foldl lay K := ⟨_, rfl⟩
    rw [← hM] at D6
    have HML := hid (show M.length = 320 from by rw [hM, lays_length (fun q hq => (pieces_ok HOK.out (fun r hr => HD5.out.ok r hr) q hq).1), HKL.out])
    have hb3 := hid (⟨HLT1.out, HLT2.out⟩ : (bd < w3.heap.size ∧ bk < w3.heap.size ∧ bn < w3.heap.size) ∧ w3.heap.size ≤ w4.heap.size)
    have own6 := c6.owns HOW.out (fun g hg hm => by have := (HOW.out.lt g hg).1; have := hb3.out; simp at hm; omega)
    have ownq6 := c6.owns HQ5.out (fun g hg hm => by have := (HQ5.out.lt g hg).1; have := hb3.out; simp at hm; omega)
    have b06 : Below w.heap.size w w6 := b05.trans (c6.below (by intro x hx; have := disk_low HD5.out; simp at hx; omega) b05.size)
    obtain ⟨ao, c, kb, off, rfl, hcell⟩ := (ints_of_owns own6).view
    have HCL := hid hcell
    have HCQ := hid (show ∀ (k : Nat) (q : Nat × Bs), P[k]? = some q → ∃ g, qa = some ⟨g, 0, none⟩ ∧ w6.cell? ⟨g, k * 2, none⟩ = some (.int .i64 (q.1 : Int)) ∧ w6.cell? ⟨g, k * 2 + 1, none⟩ = some (.string (bstr q.2)) from fun k q hq => piece_cells58 ownq6 hq (List.getElem?_eq_some_iff.1 hq).1)
    have HT := hid (show ∀ (k n : Nat) (q : Nat × Bs), P[k]? = some q → n = nOf ks k q.2.length → n ≤ q.2.length ∧ (∀ i, q.1 ≤ i → i < q.1 + n → M[i]? = q.2[i - q.1]?) ∧ (∀ i, q.1 + n ≤ i → i < q.1 + q.2.length → M[i]? = K[i]?) from fun k n q hq hn => by
      rw [hM]
      exact torn_plain HOK.out HD5.out.ok (by rw [HP.out]; exact parts_apart _ _ _ (Nat.le_refl _)) hq hn)
    have HPO := hid (show ∀ (k : Nat) (q : Nat × Bs), P[k]? = some q → q.1 + q.2.length ≤ 320 from fun k q hq => by have := HD5.out.ok q (List.mem_of_getElem? hq); rw [HKL.out] at this; omega)
    have HD6 := hid D6
    clear D6 c6 hM own6 ownq6 hcell HD5 HOW HQ5 HOK hb3 HLT1 HLT2
    go_wp2_with fail
    refine (all_any HD6.out).mono ?_
    rintro e w' ⟨rfl, rfl⟩
    have hml : (bstr M).size = 320 := by rw [bstr_size, HML.out]
    have hkl2 : (bstr K).size = 320 := by rw [bstr_size, HKL.out]
    go_wp2_with fail
    go_loopw [19] (fun i wr => TornRel w6 P.length i wr) (fun i _ => P.length - (intOf i).toNat)
    case atStart => exact ⟨0, 0, rfl, by omega, rfl⟩
    case round =>
      obtain ⟨k, m, rfl, hk, rfl⟩ := hrel
      by_cases hgo : k < P.length
      · obtain ⟨q, hq⟩ : ∃ q, P[k]? = some q := ⟨P[k], by simp [hgo]⟩
        obtain ⟨g, rfl, kc1, kc2⟩ := HCQ.out k q hq
        have hqo := HPO.out k q hq
        have hqs := bstr_size q.2
        have HQQ := hid hq
        have HML2 := hid hml
        have HKL3 := hid hkl2
        clear hq hml hkl2
        go_wp2_with fail
        have hd : decide ((k : Int) < (P.length : Int)) = true := decide_eq_true (by omega)
        try rw [hd]
        clear hd
        go_loopw [20, 21] (fun n i wr => TornIn w6 ks k q.2.length m n i wr) (fun _ i _ => ks.length - (intOf i).toNat)
        case atStart => exact ⟨0, rfl, by omega, rfl, rfl⟩
        case round =>
          obtain ⟨j, rfl, hj, rfl, rfl⟩ := hrel
          by_cases hgo2 : j < ks.length
          · obtain ⟨x, hx⟩ : ∃ x, ks[j]? = some x := ⟨ks[j], by simp [hgo2]⟩
            obtain ⟨rfl, hc0⟩ := HCL.out j x hx
            have HSN := hid (nOf_snoc (k := k) (len := q.2.length) hx)
            clear hx
            by_cases e1 : x = (k : Int)
            · have R := hid (show TornIn w6 ks k q.2.length m (.int .i64 (q.2.length : Int)) (.int .i64 ((j : Int) + 1)) (w6.drewN m) from ⟨j + 1, by simp, by omega, by rw [HSN.out, e1]; unfold hitOf; rw [if_neg (by omega), if_pos rfl]; rfl, rfl⟩)
              have e2 : ¬ ((k : Int) = -1 - (k : Int)) := by omega
              subst e1
              go_wp2_with fail
              go_roundw
              case rel => exact R.out
              case measure => simp [intOf]; omega
            · by_cases e2 : x = -1 - (k : Int)
              · have R := hid (show TornIn w6 ks k q.2.length m (.int .i64 ((q.2.length : Int) / 2)) (.int .i64 ((j : Int) + 1)) (w6.drewN m) from ⟨j + 1, by simp, by omega, by rw [HSN.out]; simp [hitOf, e2], rfl⟩)
                subst e2
                go_wp2_with fail
                go_roundw
                case rel => exact R.out
                case measure => simp [intOf]; omega
              · have R := hid (show TornIn w6 ks k q.2.length m (.int .i64 (nOf (ks.take j) k q.2.length : Int)) (.int .i64 ((j : Int) + 1)) (w6.drewN m) from ⟨j + 1, by simp, by omega, by rw [HSN.out]; simp [hitOf, e1, e2], rfl⟩)
                go_wp2_with fail
                go_roundw
                case rel => exact R.out
                case measure => simp [intOf]; omega
          · obtain rfl : j = ks.length := by omega
            rw [List.take_length]
            obtain ⟨n, hn⟩ : ∃ n, n = nOf ks k q.2.length := ⟨_, rfl⟩
            rw [← hn]
            obtain ⟨t1, t2, t3⟩ := HT.out k n q HQQ.out hn
            obtain ⟨X, hX⟩ : ∃ X, X = q.2.take n := ⟨_, rfl⟩
            obtain ⟨Y, hY⟩ : ∃ Y, Y = (K.drop (q.1 + n)).take (q.2.length - n) := ⟨_, rfl⟩
            have m1 : (bstr M).extract q.1 (q.1 + n) = bstr X := by
              rw [bstr_extract, List.drop_take, show q.1 + n - q.1 = n by omega, hX, ← List.drop_zero (l := q.2.take n), List.drop_take]
              congr 1
              rw [show n - 0 = n by omega]
              exact slice_eq (fun i hi => by rw [t2 (q.1 + i) (by omega) (by omega), show q.1 + i - q.1 = 0 + i by omega])
            have m2 : (bstr q.2).extract 0 n = bstr X := by rw [bstr_extract, List.drop_zero, hX]
            have m4 : (bstr K).extract (q.1 + n) (q.1 + q.2.length) = bstr Y := by rw [bstr_extract, List.drop_take, show q.1 + q.2.length - (q.1 + n) = q.2.length - n by omega, hY]
            have m3 : (bstr M).extract (q.1 + n) (q.1 + q.2.length) = bstr Y := by
              rw [bstr_extract, List.drop_take, show q.1 + q.2.length - (q.1 + n) = q.2.length - n by omega, hY]
              congr 1
              exact slice_eq (fun i hi => t3 (q.1 + n + i) (by omega) (by omega))
            have b1 : q.1 + n ≤ 320 := by omega
            have b2 : q.1 ≤ q.1 + n := by omega
            have b4 : q.1 + n ≤ q.1 + q.2.length := by omega
            have i1 : (q.1 : Int) + (n : Int) ≤ 320 := by omega
            have i2 : (q.1 : Int) ≤ (q.1 : Int) + (n : Int) := by omega
            have i3 : (q.1 : Int) + (n : Int) ≤ (q.1 : Int) + (q.2.length : Int) := by omega
            have i4 : (q.1 : Int) + (q.2.length : Int) ≤ 320 := by omega
            have i5 : (n : Int) ≤ (q.2.length : Int) := by omega
            have i6 : ((q.1 : Int) + (n : Int)).toNat = q.1 + n := by omega
            have i7 : ((q.1 : Int) + (q.2.length : Int)).toNat = q.1 + q.2.length := by omega
            have i8 : (0 : Int) ≤ (q.1 : Int) + (n : Int) := by omega
            have hml := HML2.out
            have hkl2 := HKL3.out
            clear t2 t3 hX hY hn
            go_wp2_with fail
            go_quiet (fail)
            go_wp2
            go_roundw
            case rel => exact ⟨k + 1, _, by simp, by omega, rfl⟩
            case measure => simp [intOf]; omega
      · obtain rfl : k = P.length := by omega
        go_wp2_with fail
        go_ret
        exact ⟨rfl, below_drewN b06 b06.size m⟩

end Go.Proofs.Ytknmebknkncmoaa
