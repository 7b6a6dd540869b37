/- The walk of DiskReads: it answers true at whatever Acts, place, text and number. No condition but that the numbers are ints. -/
import Derived.Test.YtknmebknkncmoaaDkOpen
import Derived.Deep.QuietTactic
import Derived.BigQuiet
namespace Go.Proofs.Ytknmebknkncmoaa
open Go.RowKit Go.Lib

theorem splice_length {L cs : Bs} {a : Nat} (h : a + cs.length ≤ L.length) : (splice L a cs).length = L.length := by
  simp [splice]; omega
theorem bstr_append (a b : Bs) : bstr a ++ bstr b = bstr (a ++ b) := by
  apply ByteArray.ext
  apply Array.ext'
  simp [bstr]
theorem splice_two {L t : Bs} {p k : Nat} (hk : k ≤ t.length) (h : p + t.length ≤ L.length) : splice (splice L p (t.take k)) (p + k) (t.drop k) = splice L p t := by
  unfold splice
  have h1 : (t.take k).length = k := by simp; omega
  have h2 : (t.drop k).length = t.length - k := by simp
  have h3 : (L.take p).length = p := by simp; omega
  have e1 : (L.take p ++ (t.take k ++ L.drop (p + k))).take (p + k) = L.take p ++ t.take k := by
    rw [← List.append_assoc, List.take_append_of_le_length (by simp; omega), List.take_of_length_le (by simp; omega)]
  have e2 : (L.take p ++ (t.take k ++ L.drop (p + k))).drop (p + t.length) = L.drop (p + t.length) := by
    rw [← List.append_assoc, List.drop_append, List.drop_of_length_le (by simp; omega), List.nil_append, List.length_append, h1, h3, List.drop_drop, show p + k + (p + t.length - (p + k)) = p + t.length by omega]
  rw [h1, h2, e1, show p + k + (t.length - k) = p + t.length by omega, e2, List.append_assoc, ← List.append_assoc (t.take k), List.take_append_drop]
theorem splice_read {L t : Bs} {p : Nat} (h : p + t.length ≤ L.length) : ((splice L p t).drop p).take t.length = t := by
  have h3 : (L.take p).length = p := by simp; omega
  unfold splice
  rw [List.drop_append, h3, List.drop_of_length_le (by omega), List.nil_append, show p - p = 0 by omega, List.drop_zero, List.take_append, List.take_of_length_le (by omega), show t.length - t.length = 0 by omega, List.take_zero, List.append_nil]

theorem not_own {b ed en : Nat} {qv : Value} (h1 : b ≠ ed) (h2 : b ≠ en) (h3 : ∀ g, qv.ownBlock = some g → b ≠ g) : b ∉ ed :: en :: own qv := by
  intro hm
  simp only [List.mem_cons, own, Option.mem_toList] at hm
  rcases hm with h | h | h
  · exact h1 h
  · exact h2 h
  · exact h3 _ h rfl
theorem own_low {N ed en : Nat} {qv : Value} (h1 : N ≤ ed) (h2 : N ≤ en) (h3 : ∀ g, qv.ownBlock = some g → N ≤ g) : ∀ k ∈ ed :: en :: own qv, N ≤ k := by
  intro k hm
  simp only [List.mem_cons, own, Option.mem_toList] at hm
  rcases hm with h | h | h
  · omega
  · omega
  · exact h3 _ h
theorem disk_own {w : World} {base bd bk bn : Nat} {pv : Value} {kept now : Bs} {pend : List (Nat × Bs)} (D : DiskAt w base bd bk bn pv kept now pend) : ∀ g, pv.ownBlock = some g → base ≤ g ∧ g < w.heap.size := fun g hg => ⟨(D.hp.lt g hg).1, (disk_lt D).2.2.2 g hg⟩

theorem chg_drewN (w : World) (n : Nat) : Chg [] w (w.drewN n) := by
  induction n with
  | zero => exact Chg.refl _ w
  | succ n ih => exact ih.drew
theorem DiskAt.drewN {w : World} {base bd bk bn : Nat} {pv : Value} {kept now : Bs} {pend : List (Nat × Bs)} (D : DiskAt w base bd bk bn pv kept now pend) (n : Nat) : DiskAt (w.drewN n) base bd bk bn pv kept now pend :=
  D.keep (chg_drewN w n) (by simp) (by simp) (by simp) (by simp)
theorem below_drewN {w w' : World} {N : Nat} (h : Below N w w') (hN : N ≤ w'.heap.size) (n : Nat) : Below N w (w'.drewN n) := h.trans ((chg_drewN w' n).below (by simp) hN)
theorem all_quiet {w : World} {base bd bk bn : Nat} {pv : Value} {kept now : Bs} {pend : List (Nat × Bs)} (D : DiskAt w base bd bk bn pv kept now pend) (n : Nat) :
    Calls Try.prog 15 #[.pointer (some ⟨bd, 0, none⟩)] (w.drewN n) fun e w' => e = .returned (str now) ∧ w' = w.drewN n :=
  (all_any (D.drewN n)).mono fun _ _ h => ⟨h.1, h.2.symm⟩

set_option maxRecDepth 20000 in
set_option maxHeartbeats 2000000 in
theorem reads_any (w : World) (v0 : Value) (l0 : List ActD) (h0 : ActsAt w v0 l0) (at_ n : Int) (s : Bs) (ha1 : -9223372036854775808 ≤ at_) (ha2 : at_ ≤ 9223372036854775807) (hn1 : -9223372036854775808 ≤ n) (hn2 : n ≤ 9223372036854775807)
    (hs : s.length ≤ 9223372036854775807) :
    Calls Try.prog 8 #[v0, .int .i64 at_, .string (bstr s), .int .i64 n] w fun e w' => e = .returned (.bool true) ∧ Below w.heap.size w w' := by
  obtain ⟨K, hK⟩ : ∃ K, K = nowOf (l0.take 8) (zeros 320) := ⟨_, rfl⟩
  have hKl : K.length = 320 := by rw [hK]; exact nowOf_length (zeros_length 320)
  have HK := hid hK
  have H0 := hid h0
  have HKL := hid hKl
  clear hK h0 hKl
  go_enter Try.func8, Try.ntmps8
  go_wp2_with fail
  refine (awake_any _).mono ?_
  rintro e w1 ⟨rfl, b1⟩
  go_wp2_with fail
  refine (filled_any w1 v0 _ l0 [] (H0.out.below b1) (actsAt_nil _)).mono ?_
  rintro e w2 ⟨ad, ak, an, av, rfl, Da, b2⟩
  have Da' : DiskAt w2 w1.heap.size ad ak an av K K [] := by rw [HK.out]; exact Da
  have b02 := b1.trans (b2.mono b1.size)
  have HDa := hid Da'
  have s12 := b2.size
  clear Da Da' b2
  go_wp2_with fail
  refine (filled_any w2 v0 _ l0 [] (H0.out.below b02) (actsAt_nil _)).mono ?_
  rintro e w3 ⟨bd, bk, bn, bv, rfl, Db, b3⟩
  have Db' : DiskAt w3 w2.heap.size bd bk bn bv K K [] := by rw [HK.out]; exact Db
  have b03 := b02.trans (b3.mono b02.size)
  have HDa3 := hid (HDa.out.later b3)
  have HDb := hid Db'
  have s23 := b3.size
  have la := disk_lt HDa.out
  have lb := disk_lt HDb.out
  have ka := disk_low HDa.out
  have kb := disk_low HDb.out
  have OA := hid (disk_own HDa.out)
  have OB := hid (disk_own HDb.out)
  clear Db Db' b3
  go_wp2_with fail
  refine (all_any HDa3.out).mono ?_
  rintro e w' ⟨rfl, rfl⟩
  go_wp2_with fail
  refine (pick_nat at_ 320 _ ha1 ha2 (by omega) (by omega)).mono ?_
  rintro e w' ⟨p, hp, hpp, rfl, rfl⟩
  have hsz := bstr_size s
  obtain ⟨t, ht⟩ : ∃ t : Bs, t = s.take (320 - p) := ⟨_, rfl⟩
  have htl : p + t.length ≤ 320 := by rw [ht]; simp; omega
  have hwr : IntKind.i64.wrap (320 - (p : Int)) = 320 - (p : Int) := IntWalk.i64_in _ (by omega)
  clear hpp
  by_cases hm : s.length ≤ 320 - p
  · have e1 : (bstr s).size ≤ 320 - p := by omega
    have e3 : ((320 : Int) - (p : Int) < ((bstr s).size : Int)) = False := by rw [eq_iff_iff, iff_false]; omega
    obtain rfl : t = s := by rw [ht, List.take_of_length_le hm]
    have hex : (bstr t).extract 0 t.length = bstr t := by rw [bstr_extract]; simp
    have HT := hid hsz
    have HEX := hid hm
    clear ht hm
    go_wp2_with fail
    refine (pick_nat n ((t.length : Int) + 1) _ hn1 hn2 (by omega) (by omega)).mono ?_
    rintro e w' ⟨k, hk, hkp, rfl, rfl⟩
    obtain ⟨u, hu⟩ : ∃ u : Bs, u = t.take k := ⟨_, rfl⟩
    obtain ⟨v, hv⟩ : ∃ v : Bs, v = t.drop k := ⟨_, rfl⟩
    obtain ⟨N, hN⟩ : ∃ N : Bs, N = splice K p t := ⟨_, rfl⟩
    have hu1 : (bstr t).extract 0 k = bstr u := by rw [bstr_extract, hu]; simp
    have hv1 : (bstr t).extract k t.length = bstr v := by rw [bstr_extract, hv]; simp
    have hul : u.length = k := by rw [hu]; simp; omega
    have hvl : v.length = t.length - k := by rw [hv]; simp
    have hsp : splice (splice K p u) (p + k) v = N := by rw [hu, hv, hN]; exact splice_two (by omega) (by rw [HKL.out]; omega)
    have hNl : N.length = 320 := by rw [hN, splice_length (by rw [HKL.out]; omega), HKL.out]
    have hrd : (N.drop p).take t.length = t := by rw [hN]; exact splice_read (by rw [HKL.out]; omega)
    have hcat : K.take p ++ t ++ K.drop (p + t.length) = N := by rw [hN]; simp [splice]
    have HN := hid hN
    have HSP := hid hsp
    have HNL := hid hNl
    have HRD := hid hrd
    have HCAT := hid hcat
    have HU := hid hul
    have HV := hid hvl
    clear hkp hu hv hN hsp hNl hrd hcat hul hvl
    go_wp2_with fail
    refine (write_ok HDa3.out p t (by rw [HKL.out]; omega) (by simp)).mono ?_
    rintro e w4 ⟨rfl, pv4, D4, ch4, own4⟩
    have eN : (parts p t).foldl lay K = N := by rw [HN.out]; exact parts_lay t.length p t K (Nat.le_refl _) (by rw [HKL.out]; omega)
    rw [eN] at D4
    have Db4 := HDb.out.keep ch4 (not_own (by omega) (by omega) (fun g hg => by have := OA.out g hg; omega)) (not_own (by omega) (by omega) (fun g hg => by have := OA.out g hg; omega)) (not_own (by omega) (by omega) (fun g hg => by have := OA.out g hg; omega)) (fun g hg => not_own (by have := OB.out g hg; omega) (by have := OB.out g hg; omega) (fun g' hg' => by have := OA.out g' hg'; have := OB.out g hg; omega))
    have b04 : Below w.heap.size w w4 := b03.trans (ch4.below (own_low (by have := b1.size; omega) (by have := b1.size; omega) (fun g hg => by have := OA.out g hg; have := b1.size; omega)) b03.size)
    have s34 := ch4.size
    have O4 := hid (show ∀ g, pv4.ownBlock = some g → (g < w2.heap.size ∨ w3.heap.size ≤ g) ∧ g < w4.heap.size from fun g hg => ⟨by rcases own4 g hg with h | h; exact .inl (OA.out g h).2; exact .inr h, (disk_own D4 g hg).2⟩)
    have HDa4 := hid D4
    have HDb4 := hid Db4
    clear D4 Db4 ch4 own4 eN
    go_wp2_with fail
    refine (write_ok HDb4.out p u (by rw [HKL.out, HU.out]; omega) (by simp)).mono ?_
    rintro e w5 ⟨rfl, pv5, D5, ch5, own5⟩
    have eN : (parts p u).foldl lay K = splice K p u := parts_lay u.length p u K (Nat.le_refl _) (by rw [HKL.out, HU.out]; omega)
    rw [eN] at D5
    have Da5 := HDa4.out.keep ch5 (not_own (by omega) (by omega) (fun g hg => by have := OB.out g hg; omega)) (not_own (by omega) (by omega) (fun g hg => by have := OB.out g hg; omega)) (not_own (by omega) (by omega) (fun g hg => by have := OB.out g hg; omega)) (fun g hg => not_own (by have := O4.out g hg; omega) (by have := O4.out g hg; omega) (fun g' hg' => by have := OB.out g' hg'; have := O4.out g hg; omega))
    have b05 : Below w.heap.size w w5 := b04.trans (ch5.below (own_low (by have := b02.size; omega) (by have := b02.size; omega) (fun g hg => by have := OB.out g hg; have := b02.size; omega)) b04.size)
    have s45 := ch5.size
    have O5 := hid (show ∀ g, pv5.ownBlock = some g → (w2.heap.size ≤ g ∧ g < w3.heap.size) ∨ w4.heap.size ≤ g from fun g hg => by rcases own5 g hg with h | h; exact .inl (OB.out g h); exact .inr h)
    have HDa5 := hid Da5
    have HDb5 := hid D5
    clear D5 Da5 ch5 own5 eN HDa4 HDb4 b04
    have hpk : IntKind.i64.wrap ((p : Int) + (k : Int)) = ((p + k : Nat) : Int) := by rw [IntWalk.i64_in _ (by omega)]; omega
    go_wp2_with fail
    refine (write_ok HDb5.out (p + k) v (by rw [HKL.out, HV.out]; omega) (by simp; have := parts_count u.length p u (Nat.le_refl _); have := HU.out; omega)).mono ?_
    rintro e w6 ⟨rfl, pv6, D6, ch6, own6⟩
    have eN : (parts (p + k) v).foldl lay (splice K p u) = N := by rw [parts_lay v.length (p + k) v _ (Nat.le_refl _) (by rw [splice_length (by rw [HKL.out, HU.out]; omega), HKL.out, HV.out]; omega), HSP.out]
    rw [eN] at D6
    have Da6 := HDa5.out.keep ch6 (not_own (by omega) (by omega) (fun g hg => by have := O5.out g hg; omega)) (not_own (by omega) (by omega) (fun g hg => by have := O5.out g hg; omega)) (not_own (by omega) (by omega) (fun g hg => by have := O5.out g hg; omega)) (fun g hg => not_own (by have := O4.out g hg; omega) (by have := O4.out g hg; omega) (fun g' hg' => by have := O5.out g' hg'; have := O4.out g hg; omega))
    have b06 : Below w.heap.size w w6 := b05.trans (ch6.below (own_low (by have := b02.size; omega) (by have := b02.size; omega) (fun g hg => by have := O5.out g hg; have := b02.size; omega)) b05.size)
    have HDa6 := hid Da6
    have HDb6 := hid D6
    clear D6 Da6 ch6 own6 eN HDa5 HDb5 b05 hpk
    go_wp2_with fail
    refine (read_ok HDa6.out p t.length (by rw [HKL.out]; omega)).mono ?_
    rintro e w' ⟨rfl, rfl⟩
    rw [HRD.out]
    go_wp2_with fail
    refine (all_any HDa6.out).mono ?_
    rintro e w' ⟨rfl, rfl⟩
    have hnl : (bstr N).size = 320 := by rw [bstr_size, HNL.out]
    have hkl : (bstr K).size = 320 := by rw [bstr_size, HKL.out]
    have g1 : (bstr K).extract 0 p = bstr (K.take p) := by rw [bstr_extract]; simp
    have g2 : (bstr K).extract (p + t.length) 320 = bstr (K.drop (p + t.length)) := by rw [bstr_extract, List.take_of_length_le (by rw [HKL.out]; omega)]
    have g3 : IntKind.i64.wrap ((p : Int) + (t.length : Int)) = ((p + t.length : Nat) : Int) := by rw [IntWalk.i64_in _ (by omega)]; omega
    have g4 : p + t.length ≤ 320 := htl
    have q1 : p ≤ 320 := by omega
    have q2 : (p : Int) ≤ 320 := by omega
    have q3 : ((p + t.length : Nat) : Int) ≤ 320 := by omega
    have q4 : (0 : Int) ≤ ((p + t.length : Nat) : Int) := by omega
    have q5 : (((p + t.length : Nat) : Int)).toNat = p + t.length := by omega
    have c1 : ∀ x, (Op.stringOp .add (bstr (K.take p)) (bstr t)).run Try.prog x = .ok (.string (bstr (K.take p ++ t))) x := fun x => by
      rw [run_string_add_sum x _ _ (by rw [bstr_size, bstr_size]; simp; omega), bstr_append]
    have c2 : ∀ x, (Op.stringOp .add (bstr (K.take p ++ t)) (bstr (K.drop (p + t.length)))).run Try.prog x = .ok (.string (bstr N)) x := fun x => by
      rw [run_string_add_sum x _ _ (by rw [bstr_size, bstr_size]; simp [HKL.out]; omega), bstr_append, HCAT.out]
    go_wp2_with fail
    go_quiet (first | (go_at_call 15; refine Calls.quiet_of_same (all_quiet HDb6.out _)))
    go_wp2
    go_ret
    exact ⟨rfl, below_drewN b06 b06.size _⟩
  · have e1 : 320 - p ≤ (bstr s).size := by omega
    have e3 : ((320 : Int) - (p : Int) < ((bstr s).size : Int)) = True := by rw [eq_iff_iff, iff_true]; omega
    have hex : (bstr s).extract 0 (320 - p) = bstr t := by rw [bstr_extract, ht]; simp
    have e6 : (0 : Int) ≤ (320 : Int) - (p : Int) := by omega
    have e7 : (p : Int) ≤ 320 := by omega
    have e8 : (320 : Int) - (p : Int) ≤ ((bstr s).size : Int) := by omega
    have e5 : ((320 : Int) - (p : Int)).toNat = 320 - p := by omega
    have hts : (bstr t).size = t.length := bstr_size t
    have htw : IntKind.i64.wrap ((t.length : Int) + 1) = (t.length : Int) + 1 := IntWalk.i64_in _ (by omega)
    clear ht hsz
    go_wp2_with fail
    refine (pick_nat n ((t.length : Int) + 1) _ hn1 hn2 (by omega) (by omega)).mono ?_
    rintro e w' ⟨k, hk, hkp, rfl, rfl⟩
    obtain ⟨u, hu⟩ : ∃ u : Bs, u = t.take k := ⟨_, rfl⟩
    obtain ⟨v, hv⟩ : ∃ v : Bs, v = t.drop k := ⟨_, rfl⟩
    obtain ⟨N, hN⟩ : ∃ N : Bs, N = splice K p t := ⟨_, rfl⟩
    have hu1 : (bstr t).extract 0 k = bstr u := by rw [bstr_extract, hu]; simp
    have hv1 : (bstr t).extract k t.length = bstr v := by rw [bstr_extract, hv]; simp
    have hul : u.length = k := by rw [hu]; simp; omega
    have hvl : v.length = t.length - k := by rw [hv]; simp
    have hsp : splice (splice K p u) (p + k) v = N := by rw [hu, hv, hN]; exact splice_two (by omega) (by rw [HKL.out]; omega)
    have hNl : N.length = 320 := by rw [hN, splice_length (by rw [HKL.out]; omega), HKL.out]
    have hrd : (N.drop p).take t.length = t := by rw [hN]; exact splice_read (by rw [HKL.out]; omega)
    have hcat : K.take p ++ t ++ K.drop (p + t.length) = N := by rw [hN]; simp [splice]
    have HN := hid hN
    have HSP := hid hsp
    have HNL := hid hNl
    have HRD := hid hrd
    have HCAT := hid hcat
    have HU := hid hul
    have HV := hid hvl
    clear hkp hu hv hN hsp hNl hrd hcat hul hvl
    go_wp2_with fail
    refine (write_ok HDa3.out p t (by rw [HKL.out]; omega) (by simp)).mono ?_
    rintro e w4 ⟨rfl, pv4, D4, ch4, own4⟩
    have eN : (parts p t).foldl lay K = N := by rw [HN.out]; exact parts_lay t.length p t K (Nat.le_refl _) (by rw [HKL.out]; omega)
    rw [eN] at D4
    have Db4 := HDb.out.keep ch4 (not_own (by omega) (by omega) (fun g hg => by have := OA.out g hg; omega)) (not_own (by omega) (by omega) (fun g hg => by have := OA.out g hg; omega)) (not_own (by omega) (by omega) (fun g hg => by have := OA.out g hg; omega)) (fun g hg => not_own (by have := OB.out g hg; omega) (by have := OB.out g hg; omega) (fun g' hg' => by have := OA.out g' hg'; have := OB.out g hg; omega))
    have b04 : Below w.heap.size w w4 := b03.trans (ch4.below (own_low (by have := b1.size; omega) (by have := b1.size; omega) (fun g hg => by have := OA.out g hg; have := b1.size; omega)) b03.size)
    have s34 := ch4.size
    have O4 := hid (show ∀ g, pv4.ownBlock = some g → (g < w2.heap.size ∨ w3.heap.size ≤ g) ∧ g < w4.heap.size from fun g hg => ⟨by rcases own4 g hg with h | h; exact .inl (OA.out g h).2; exact .inr h, (disk_own D4 g hg).2⟩)
    have HDa4 := hid D4
    have HDb4 := hid Db4
    clear D4 Db4 ch4 own4 eN
    go_wp2_with fail
    refine (write_ok HDb4.out p u (by rw [HKL.out, HU.out]; omega) (by simp)).mono ?_
    rintro e w5 ⟨rfl, pv5, D5, ch5, own5⟩
    have eN : (parts p u).foldl lay K = splice K p u := parts_lay u.length p u K (Nat.le_refl _) (by rw [HKL.out, HU.out]; omega)
    rw [eN] at D5
    have Da5 := HDa4.out.keep ch5 (not_own (by omega) (by omega) (fun g hg => by have := OB.out g hg; omega)) (not_own (by omega) (by omega) (fun g hg => by have := OB.out g hg; omega)) (not_own (by omega) (by omega) (fun g hg => by have := OB.out g hg; omega)) (fun g hg => not_own (by have := O4.out g hg; omega) (by have := O4.out g hg; omega) (fun g' hg' => by have := OB.out g' hg'; have := O4.out g hg; omega))
    have b05 : Below w.heap.size w w5 := b04.trans (ch5.below (own_low (by have := b02.size; omega) (by have := b02.size; omega) (fun g hg => by have := OB.out g hg; have := b02.size; omega)) b04.size)
    have s45 := ch5.size
    have O5 := hid (show ∀ g, pv5.ownBlock = some g → (w2.heap.size ≤ g ∧ g < w3.heap.size) ∨ w4.heap.size ≤ g from fun g hg => by rcases own5 g hg with h | h; exact .inl (OB.out g h); exact .inr h)
    have HDa5 := hid Da5
    have HDb5 := hid D5
    clear D5 Da5 ch5 own5 eN HDa4 HDb4 b04
    have hpk : IntKind.i64.wrap ((p : Int) + (k : Int)) = ((p + k : Nat) : Int) := by rw [IntWalk.i64_in _ (by omega)]; omega
    go_wp2_with fail
    refine (write_ok HDb5.out (p + k) v (by rw [HKL.out, HV.out]; omega) (by simp; have := parts_count u.length p u (Nat.le_refl _); have := HU.out; omega)).mono ?_
    rintro e w6 ⟨rfl, pv6, D6, ch6, own6⟩
    have eN : (parts (p + k) v).foldl lay (splice K p u) = N := by rw [parts_lay v.length (p + k) v _ (Nat.le_refl _) (by rw [splice_length (by rw [HKL.out, HU.out]; omega), HKL.out, HV.out]; omega), HSP.out]
    rw [eN] at D6
    have Da6 := HDa5.out.keep ch6 (not_own (by omega) (by omega) (fun g hg => by have := O5.out g hg; omega)) (not_own (by omega) (by omega) (fun g hg => by have := O5.out g hg; omega)) (not_own (by omega) (by omega) (fun g hg => by have := O5.out g hg; omega)) (fun g hg => not_own (by have := O4.out g hg; omega) (by have := O4.out g hg; omega) (fun g' hg' => by have := O5.out g' hg'; have := O4.out g hg; omega))
    have b06 : Below w.heap.size w w6 := b05.trans (ch6.below (own_low (by have := b02.size; omega) (by have := b02.size; omega) (fun g hg => by have := O5.out g hg; have := b02.size; omega)) b05.size)
    have HDa6 := hid Da6
    have HDb6 := hid D6
    clear D6 Da6 ch6 own6 eN HDa5 HDb5 b05 hpk
    go_wp2_with fail
    refine (read_ok HDa6.out p t.length (by rw [HKL.out]; omega)).mono ?_
    rintro e w' ⟨rfl, rfl⟩
    rw [HRD.out]
    go_wp2_with fail
    refine (all_any HDa6.out).mono ?_
    rintro e w' ⟨rfl, rfl⟩
    have hnl : (bstr N).size = 320 := by rw [bstr_size, HNL.out]
    have hkl : (bstr K).size = 320 := by rw [bstr_size, HKL.out]
    have g1 : (bstr K).extract 0 p = bstr (K.take p) := by rw [bstr_extract]; simp
    have g2 : (bstr K).extract (p + t.length) 320 = bstr (K.drop (p + t.length)) := by rw [bstr_extract, List.take_of_length_le (by rw [HKL.out]; omega)]
    have g3 : IntKind.i64.wrap ((p : Int) + (t.length : Int)) = ((p + t.length : Nat) : Int) := by rw [IntWalk.i64_in _ (by omega)]; omega
    have g4 : p + t.length ≤ 320 := htl
    have q1 : p ≤ 320 := by omega
    have q2 : (p : Int) ≤ 320 := by omega
    have q3 : ((p + t.length : Nat) : Int) ≤ 320 := by omega
    have q4 : (0 : Int) ≤ ((p + t.length : Nat) : Int) := by omega
    have q5 : (((p + t.length : Nat) : Int)).toNat = p + t.length := by omega
    have c1 : ∀ x, (Op.stringOp .add (bstr (K.take p)) (bstr t)).run Try.prog x = .ok (.string (bstr (K.take p ++ t))) x := fun x => by
      rw [run_string_add_sum x _ _ (by rw [bstr_size, bstr_size]; simp; omega), bstr_append]
    have c2 : ∀ x, (Op.stringOp .add (bstr (K.take p ++ t)) (bstr (K.drop (p + t.length)))).run Try.prog x = .ok (.string (bstr N)) x := fun x => by
      rw [run_string_add_sum x _ _ (by rw [bstr_size, bstr_size]; simp [HKL.out]; omega), bstr_append, HCAT.out]
    go_wp2_with fail
    go_quiet (first | (go_at_call 15; refine Calls.quiet_of_same (all_quiet HDb6.out _)))
    go_wp2
    go_ret
    exact ⟨rfl, below_drewN b06 b06.size _⟩

end Go.Proofs.Ytknmebknkncmoaa
