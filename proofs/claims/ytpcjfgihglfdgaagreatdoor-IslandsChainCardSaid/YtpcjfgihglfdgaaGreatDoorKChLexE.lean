/- Contracts of lex's word and sign at the pieces that the law's formulas have. Conditions: what the package-level variables hold lies as it was laid. Contract of lex's next at the pieces that the law's formulas have. Conditions: what the package-level variables hold lies as it was laid. Contract of lex.Tokens at a text that is cut into pieces. Conditions: what the package-level variables hold lies as it was laid. How the law's formulas are cut into pieces. Conditions: what the package-level variables hold lies as it was laid. -/
import Derived.Test.YtpcjfgihglfdgaaGreatDoorKSpOwn
import Derived.Deep.LoopGhost

namespace Go.Proofs.YtpcjfgihglfdgaaGreatDoor
open Go.RowKit Go.Lib

theorem refB_wordy {n : Nat} (h : n < 100) : ∀ b ∈ refB n, wordyB b = true := by
  intro b hb
  rcases List.mem_cons.1 hb with rfl | hb
  · decide
  · have := (digs_fact h).1 b hb
    unfold wordyB
    rw [this]
    rfl
theorem refB_len {n : Nat} (h : n < 100) : 0 < (refB n).length ∧ (refB n).length ≤ 3 := by
  have := (digs_fact h).2.2.1
  unfold refB
  rw [List.length_cons]
  omega
set_option maxRecDepth 20000 in
set_option maxHeartbeats 1000000 in
theorem wordRef_any {l : List UInt8} {w : World} {r a : Nat} (h : LexR l w r a) (he : Env w) (n : Nat) (h1 : 1 ≤ n) (h2 : n ≤ 33) (R : List UInt8) (hl : l.drop a = refB n ++ R) (hA : ∀ b ∈ l, b.toNat < 128) (hd : ∀ b, R.head? = some b → wordyB b = false) (h33 : R.head? ≠ some 33) (h40 : R.head? ≠ some 40) (h91 : R.head? ≠ some 91) (hb : l.length ≤ 1000) :
    Calls Tryz.prog 210 #[.pointer (some ⟨r, 0, none⟩)] w (LexNext l w r 5 (bs (refB n)) a (refB n).length) := by
  have hr := heap_lt h
  have hlen := refB_len (n := n) (by omega)
  have hal : a < l.length := by
    rcases Nat.lt_or_ge a l.length with h | h
    · exact h
    · rw [List.drop_eq_nil_of_le h] at hl
      have := congrArg List.length hl
      rw [List.length_append] at this
      simp at this
      omega
  have H0 := hid (La.start h he)
  have hA' : ∀ b ∈ refB n ++ R, b.toNat < 128 := fun b hb => hA b (List.mem_of_mem_drop (hl ▸ hb))
  have HW := hid (fun w => while_any 209 (.inr rfl) wordyB (hid lexWordy_any) (refB n ++ R) hA' w)
  have HP := hid (fun c (hc : R.head? ≠ some c) w => show Calls Tryz.prog 249 #[.string (bs R), .string (bs [c])] w fun e w' => e = .returned (.bool false) ∧ w = w' from by have := prefix_any R [c] w; rwa [head_not_prefix hc] at this)
  have HT := hid (takeWhile_span (p := refB n) (r := R) (refB_wordy (by omega)) hd)
  have HI := hid (fun w hT => isRef_any n h1 h2 w hT)
  have hsR : (bs (refB n)).size = (refB n).length := bs_size _
  have hsz : (bs (refB n ++ R)).size = (refB n).length + R.length := by rw [bs_size, List.length_append]
  have hx : (bs (refB n ++ R)).extract (refB n).length ((refB n).length + R.length) = bs R := by rw [bs_extract, List.drop_left, List.take_of_length_le (by omega)]
  have HB := hid (show a + (refB n).length < 2 ^ 62 by omega)
  obtain ⟨k, hk⟩ : ∃ k, k = (refB n).length := ⟨_, rfl⟩
  obtain ⟨m, hm⟩ : ∃ m, m = R.length := ⟨_, rfl⟩
  rw [← hk, ← hm] at hsz hx
  rw [← hk] at hsR HB hlen ⊢
  have hle : k ≤ k + m := Nat.le_add_right _ _
  have HL := hid hl
  have HAL := hid (Nat.le_of_lt hal)
  have H33 := hid h33
  have H40 := hid h40
  have H91 := hid h91
  have HK := hid hlen
  clear h he hl hA hA' hd h33 h40 h91 hb hal hm hk hlen
  go_enter Tryz.func210, Tryz.ntmps210
  go_wp2_with fail
  generalize World.alloc _ _ = w0 at H0 ⊢
  refine (lexRest_any H0.out.at' HAL.out).mono ?_
  rintro e w1 ⟨rfl, b1⟩
  have H1 := hid (H0.out.keep b1)
  clear b1 H0
  rw [HL.out]
  go_wp2_with fail
  refine (HW.out _).mono ?_
  rintro e w2 ⟨rfl, b2⟩
  have H2 := hid (H1.out.keep b2)
  clear b2 H1
  rw [HT.out]
  go_wp2_with fail
  refine (lexRest_any H2.out.at' HAL.out).mono ?_
  rintro e w3 ⟨rfl, b3⟩
  have H3 := hid (H2.out.keep b3)
  clear b3 H2
  rw [HL.out]
  go_wp2_with fail
  refine (HP.out 33 H33.out _).mono ?_
  rintro e w4 ⟨rfl, rfl⟩
  go_wp2_with fail
  refine (HP.out 40 H40.out _).mono ?_
  rintro e w4 ⟨rfl, rfl⟩
  go_wp2_with fail
  refine (HP.out 91 H91.out _).mono ?_
  rintro e w4 ⟨rfl, rfl⟩
  go_wp2_with fail
  refine (HI.out _ H3.out.env.tabs).mono ?_
  rintro e w5 ⟨rfl, b5⟩
  have H5 := hid (H3.out.keep b5)
  clear b5 H3
  go_wp2_with fail
  refine (tok_any H5.out.at' 5 (bs (refB n)) k HK.out.1 HB.out).mono ?_
  rintro e w7 ⟨rfl, h7, c7⟩
  have HE := hid (la_end H5.out h7 c7 hr (tokV 5 (bs (refB n)) a).toArray)
  clear h7 c7 H5
  go_wp2_with (refine wpList_store_row rfl 185 _ _ rfl w.heap.size (tokV 5 (bs (refB n)) a).toArray rfl rfl 185 _ HE.out.1 (tok_info3 5 (bs (refB n)) a) (by rfl) (tok_one3 5 (bs (refB n)) a) ?_)
  refine bodyPost_ret (v := .tuple #[.agg (tokV 5 (bs (refB n)) a).toArray, .bool true]) (results_rowt rfl _ _ w.heap.size _ _ rfl rfl (run_loadVar_row (P := Tryz.prog) _ w.heap.size 185 185 (tokV 5 (bs (refB n)) a).toArray (0, 0) _ (heap_setRow_at HE.out.1) Tryz.underlying185 rfl (tok_info3 5 (bs (refB n)) a))) rfl ?_
  exact ⟨rfl, HE.out.2⟩
set_option maxRecDepth 20000 in
set_option maxHeartbeats 1000000 in
theorem wordSum_any {l : List UInt8} {w : World} {r a : Nat} (h : LexR l w r a) (he : Env w) (R : List UInt8) (hl : l.drop a = 83 :: 85 :: 77 :: 40 :: R) (hA : ∀ b ∈ l, b.toNat < 128) (hb : l.length ≤ 1000) :
    Calls Tryz.prog 210 #[.pointer (some ⟨r, 0, none⟩)] w (LexNext l w r 7 textSUM a 3) := by
  have hr := heap_lt h
  have hal : a < l.length := by
    rcases Nat.lt_or_ge a l.length with h | h
    · exact h
    · rw [List.drop_eq_nil_of_le h] at hl
      cases hl
  have H0 := hid (La.start h he)
  have hA' : ∀ b ∈ (83 : UInt8) :: 85 :: 77 :: 40 :: R, b.toNat < 128 := fun b hb => hA b (List.mem_of_mem_drop (hl ▸ hb))
  have HW := hid (fun w => while_any 209 (.inr rfl) wordyB (hid lexWordy_any) (83 :: 85 :: 77 :: 40 :: R) hA' w)
  have e33 : ([33] : List UInt8).isPrefixOf (40 :: R) = false := head_not_prefix (by simp)
  have e40 : ([40] : List UInt8).isPrefixOf (40 :: R) = true := by simp [List.isPrefixOf]
  have HP := hid (fun w => show Calls Tryz.prog 249 #[.string (bs (40 :: R)), .string (bs [33])] w fun e w' => e = .returned (.bool false) ∧ w = w' from by have := prefix_any (40 :: R) [33] w; rwa [e33] at this)
  have HQ := hid (fun w => show Calls Tryz.prog 249 #[.string (bs (40 :: R)), .string (bs [40])] w fun e w' => e = .returned (.bool true) ∧ w = w' from by have := prefix_any (40 :: R) [40] w; rwa [e40] at this)
  have HT := hid (show (83 :: 85 :: 77 :: 40 :: R).takeWhile wordyB = [83, 85, 77] from takeWhile_span (f := wordyB) (p := [83, 85, 77]) (r := 40 :: R) (by decide) (fun b hb => by simp only [List.head?_cons, Option.some.injEq] at hb; subst hb; decide))
  have hsR : textSUM.size = 3 := rfl
  have hsz : (bs (83 :: 85 :: 77 :: 40 :: R)).size = 3 + (R.length + 1) := by rw [bs_size]; simp only [List.length_cons]; omega
  have hx : (bs (83 :: 85 :: 77 :: 40 :: R)).extract 3 (3 + (R.length + 1)) = bs (40 :: R) := by
    rw [bs_extract, List.take_of_length_le (by simp)]
    rfl
  have HB := hid (show a + 3 < 2 ^ 62 by omega)
  obtain ⟨m, hm⟩ : ∃ m, m = R.length + 1 := ⟨_, rfl⟩
  rw [← hm] at hsz hx
  have hle : 3 ≤ 3 + m := Nat.le_add_right _ _
  have HL := hid hl
  have HAL := hid (Nat.le_of_lt hal)
  clear h he hl hA hA' hb hal hm e33 e40
  go_enter Tryz.func210, Tryz.ntmps210
  go_wp2_with fail
  generalize World.alloc _ _ = w0 at H0 ⊢
  refine (lexRest_any H0.out.at' HAL.out).mono ?_
  rintro e w1 ⟨rfl, b1⟩
  have H1 := hid (H0.out.keep b1)
  clear b1 H0
  rw [HL.out]
  go_wp2_with fail
  refine (HW.out _).mono ?_
  rintro e w2 ⟨rfl, b2⟩
  have H2 := hid (H1.out.keep b2)
  clear b2 H1
  rw [HT.out]
  go_wp2_with fail
  refine (lexRest_any H2.out.at' HAL.out).mono ?_
  rintro e w3 ⟨rfl, b3⟩
  have H3 := hid (H2.out.keep b3)
  clear b3 H2
  rw [HL.out]
  go_wp2_with fail
  refine (HP.out _).mono ?_
  rintro e w4 ⟨rfl, rfl⟩
  go_wp2_with fail
  refine (HQ.out _).mono ?_
  rintro e w4 ⟨rfl, rfl⟩
  go_wp2_with fail
  refine (callable_SUM _).mono ?_
  rintro e w5 ⟨rfl, b5⟩
  have H5 := hid (H3.out.keep b5)
  clear b5 H3
  go_wp2_with fail
  refine (tok_any H5.out.at' 7 textSUM 3 (by decide) HB.out).mono ?_
  rintro e w7 ⟨rfl, h7, c7⟩
  have HE := hid (la_end H5.out h7 c7 hr (tokV 7 textSUM a).toArray)
  clear h7 c7 H5
  go_wp2_with (refine wpList_store_row rfl 185 _ _ rfl w.heap.size (tokV 7 textSUM a).toArray rfl rfl 185 _ HE.out.1 (tok_info3 7 textSUM a) (by rfl) (tok_one3 7 textSUM a) ?_)
  refine bodyPost_ret (v := .tuple #[.agg (tokV 7 textSUM a).toArray, .bool true]) (results_rowt rfl _ _ w.heap.size _ _ rfl rfl (run_loadVar_row (P := Tryz.prog) _ w.heap.size 185 185 (tokV 7 textSUM a).toArray (0, 0) _ (heap_setRow_at HE.out.1) Tryz.underlying185 rfl (tok_info3 7 textSUM a))) rfl ?_
  exact ⟨rfl, HE.out.2⟩
set_option maxRecDepth 20000 in
set_option maxHeartbeats 1000000 in
theorem sign_any {l : List UInt8} {w : World} {r a : Nat} (h : LexR l w r a) (he : Env w) (idx : Nat) (s : List UInt8) (hs : signsL[idx]? = some s) (hsl : 0 < s.length ∧ s.length ≤ 2) (hp : s.isPrefixOf (l.drop a) = true) (hn : ∀ j, j < idx → ∀ t, signsL[j]? = some t → t.isPrefixOf (l.drop a) = false) (ha : a ≤ l.length) (hb : l.length ≤ 1000) :
    Calls Tryz.prog 203 #[.pointer (some ⟨r, 0, none⟩)] w (LexNext l w r 8 (bs s) a s.length) := by
  have hr := heap_lt h
  obtain ⟨sb, so, sc, hsg, hsc⟩ := he.signs
  have H0 := hid (La.start h he)
  have hid20 : idx < 20 := (List.getElem?_eq_some_iff.1 hs).1
  have hsg0 := cell_keep hsg ((Below.refl w.heap.size w).alloc (Nat.le_refl _) (.cells tokZ.toArray 185))
  have HSC := hid hsc
  have HN := hid hn
  have HS := hid (show _ ∧ _ ∧ _ from ⟨hs, hp, hsl⟩)
  have HA := hid (show _ ∧ _ from ⟨ha, show a + s.length < 2 ^ 62 by omega⟩)
  clear h he hs hp hn hsl hsg hsc ha hb
  go_enter Tryz.func203, Tryz.ntmps203
  go_wp2_with fail
  clear hsg0
  generalize World.alloc _ _ = w0 at H0 ⊢
  go_loopw [8] (fun v wr => ∃ j : Nat, j ≤ idx ∧ v = .int .i64 j ∧ La l a w r wr) (fun v _ => 20 - (intOf v).toNat)
  case atStart => exact ⟨0, Nat.zero_le _, rfl, H0.out⟩
  case round =>
    obtain ⟨j, hj, rfl, hla⟩ := hrel
    have HL := hid hla
    have hj20 : j < 20 := by omega
    obtain ⟨t, ht⟩ : ∃ t, signsL[j]? = some t := ⟨_, List.getElem?_eq_getElem hj20⟩
    have c0 := cell_keep (HSC.out j t ht) (w' := wr) (by
      have := HL.out.low
      exact this)
    clear hla H0
    go_wp2_with fail
    refine (lexRest_any HL.out.at' HA.out.1).mono ?_
    rintro e w1 ⟨rfl, b1⟩
    have HL1 := hid (HL.out.keep b1)
    clear b1 HL c0
    have HPX := hid (fun w => prefix_any (l.drop a) t w)
    go_wp2_with fail
    refine (HPX.out _).mono ?_
    rintro e w2 ⟨rfl, rfl⟩
    rcases Nat.lt_or_ge j idx with hlt | hge
    · rw [HN.out j hlt t ht]
      go_wp2_with fail
      go_roundw
      case rel => exact ⟨j + 1, hlt, by go_num, HL1.out⟩
      case measure => simp [intOf]; omega
    · have hji : j = idx := Nat.le_antisymm hj hge
      have hts : t = s := by
        have := HS.out.1
        rw [← hji, ht] at this
        injection this
      subst hts
      rw [HS.out.2.1]
      have hss : (bs t).size = t.length := bs_size t
      obtain ⟨k, hk⟩ : ∃ k, k = t.length := ⟨_, rfl⟩
      rw [← hk] at hss
      have HK := hid hk
      clear hk
      go_wp2_with fail
      refine (tok_any HL1.out.at' 8 (bs t) k (by rw [HK.out]; exact HS.out.2.2.1) (by rw [HK.out]; exact HA.out.2)).mono ?_
      rintro e w7 ⟨rfl, h7, c7⟩
      have HE := hid (la_end HL1.out h7 c7 hr (tokV 8 (bs t) a).toArray)
      clear h7 c7
      go_wp2_with (refine wpList_store_row rfl 185 _ _ rfl w.heap.size (tokV 8 (bs t) a).toArray rfl rfl 185 _ HE.out.1 (tok_info3 8 (bs t) a) (by rfl) (tok_one3 8 (bs t) a) ?_)
      refine bodyPost_ret (v := .tuple #[.agg (tokV 8 (bs t) a).toArray, .bool true]) (results_rowt rfl _ _ w.heap.size _ _ rfl rfl (run_loadVar_row (P := Tryz.prog) _ w.heap.size 185 185 (tokV 8 (bs t) a).toArray (0, 0) _ (heap_setRow_at HE.out.1) Tryz.underlying185 rfl (tok_info3 8 (bs t) a))) rfl ?_
      refine ⟨rfl, ?_, HE.out.2.2⟩
      rw [← HK.out]
      exact HE.out.2.1
end Go.Proofs.YtpcjfgihglfdgaaGreatDoor

namespace Go.Proofs.YtpcjfgihglfdgaaGreatDoor
open Go.RowKit Go.Lib

set_option maxRecDepth 20000 in
set_option maxHeartbeats 1000000 in
theorem nextNum_any {l : List UInt8} {w : World} {r a : Nat} (h : LexR l w r a) (he : Env w) (b : UInt8) (hb : l[a]? = some b) (hd : digitB b = true) (k : Int) (s : ByteArray) (n : Nat)
    (hm : ∀ y, LexR l y r a → Env y → Calls Tryz.prog 205 #[.pointer (some ⟨r, 0, none⟩)] y (LexNext l y r k s a n)) :
    Calls Tryz.prog 149 #[.pointer (some ⟨r, 0, none⟩)] w (LexNext l w r k s a n) := by
  have hr := heap_lt h
  have H0 := hid (La.start h he)
  have hix := index_bs hb
  have HM := hid hm
  have HD := hid (fun w => lexDigit_b b w)
  have HWy := hid (fun w => lexWordy_any b w)
  have hlt : b.toNat < 256 := b.toNat_lt
  clear h he hb hm
  go_enter Tryz.func149, Tryz.ntmps149
  go_wp2_with fail
  generalize World.alloc _ _ = w0 at H0 ⊢
  have c0 := cell_of (i := 0) H0.out.at' rfl
  have c1 := cell_of (i := 1) H0.out.at' rfl
  go_quiet (fail)
  have H1 := hid (H0.out.keep (below_drewN (Below.refl w0.heap.size w0) nq))
  clear c0 c1 hix H0
  go_wp2_with fail
  refine (HD.out _).mono ?_
  rintro e w2 ⟨rfl, rfl⟩
  rw [hd]
  go_wp2_with fail
  refine (HM.out _ H1.out.at' H1.out.env).mono ?_
  rintro e w7 ⟨rfl, h7, c7⟩
  have HE := hid (la_end H1.out h7 c7 hr (tokV k s a).toArray)
  clear h7 c7 H1
  go_wp2_with (refine wpList_store_row rfl 185 _ _ rfl w.heap.size (tokV k s a).toArray rfl rfl 185 _ HE.out.1 (tok_info3 k s a) (by rfl) (tok_one3 k s a) ?_)
  refine bodyPost_ret (v := .tuple #[.agg (tokV k s a).toArray, .bool true]) (results_rowt rfl _ _ w.heap.size _ _ rfl rfl (run_loadVar_row (P := Tryz.prog) _ w.heap.size 185 185 (tokV k s a).toArray (0, 0) _ (heap_setRow_at HE.out.1) Tryz.underlying185 rfl (tok_info3 k s a))) rfl ?_
  exact ⟨rfl, HE.out.2⟩
set_option maxRecDepth 20000 in
set_option maxHeartbeats 1000000 in
theorem nextWord_any {l : List UInt8} {w : World} {r a : Nat} (h : LexR l w r a) (he : Env w) (b : UInt8) (hb : l[a]? = some b) (hd : digitB b = false) (hw : wordyB b = true) (hn : b.toNat ≠ 34 ∧ b.toNat ≠ 35 ∧ b.toNat ≠ 39 ∧ b.toNat ≠ 46) (k : Int) (s : ByteArray) (n : Nat)
    (hm : ∀ y, LexR l y r a → Env y → Calls Tryz.prog 210 #[.pointer (some ⟨r, 0, none⟩)] y (LexNext l y r k s a n)) :
    Calls Tryz.prog 149 #[.pointer (some ⟨r, 0, none⟩)] w (LexNext l w r k s a n) := by
  have hr := heap_lt h
  have H0 := hid (La.start h he)
  have hix := index_bs hb
  have HM := hid hm
  have HD := hid (fun w => lexDigit_b b w)
  have HWy := hid (fun w => lexWordy_any b w)
  have hlt : b.toNat < 256 := b.toNat_lt
  have n34 : ((b.toNat : Int) == 34) = false := ne_beq (by omega)
  have n35 : ((b.toNat : Int) == 35) = false := ne_beq (by omega)
  have n39 : ((b.toNat : Int) == 39) = false := ne_beq (by omega)
  have n46 : ((b.toNat : Int) == 46) = false := ne_beq (by omega)
  clear h he hb hm
  go_enter Tryz.func149, Tryz.ntmps149
  go_wp2_with fail
  generalize World.alloc _ _ = w0 at H0 ⊢
  have c0 := cell_of (i := 0) H0.out.at' rfl
  have c1 := cell_of (i := 1) H0.out.at' rfl
  go_quiet (fail)
  have H1 := hid (H0.out.keep (below_drewN (Below.refl w0.heap.size w0) nq))
  clear c0 c1 hix H0
  go_wp2_with fail
  refine (HD.out _).mono ?_
  rintro e w2 ⟨rfl, rfl⟩
  rw [hd]
  go_wp2_with fail
  refine (HWy.out _).mono ?_
  rintro e w2 ⟨rfl, rfl⟩
  rw [hw]
  go_wp2_with fail
  refine (HM.out _ H1.out.at' H1.out.env).mono ?_
  rintro e w7 ⟨rfl, h7, c7⟩
  have HE := hid (la_end H1.out h7 c7 hr (tokV k s a).toArray)
  clear h7 c7 H1
  go_wp2_with (refine wpList_store_row rfl 185 _ _ rfl w.heap.size (tokV k s a).toArray rfl rfl 185 _ HE.out.1 (tok_info3 k s a) (by rfl) (tok_one3 k s a) ?_)
  refine bodyPost_ret (v := .tuple #[.agg (tokV k s a).toArray, .bool true]) (results_rowt rfl _ _ w.heap.size _ _ rfl rfl (run_loadVar_row (P := Tryz.prog) _ w.heap.size 185 185 (tokV k s a).toArray (0, 0) _ (heap_setRow_at HE.out.1) Tryz.underlying185 rfl (tok_info3 k s a))) rfl ?_
  exact ⟨rfl, HE.out.2⟩
set_option maxRecDepth 20000 in
set_option maxHeartbeats 1000000 in
theorem nextSign_any {l : List UInt8} {w : World} {r a : Nat} (h : LexR l w r a) (he : Env w) (b : UInt8) (hb : l[a]? = some b) (hd : digitB b = false) (hw : wordyB b = false) (hn : b.toNat ≠ 34 ∧ b.toNat ≠ 35 ∧ b.toNat ≠ 39) (k : Int) (s : ByteArray) (n : Nat)
    (hm : ∀ y, LexR l y r a → Env y → Calls Tryz.prog 203 #[.pointer (some ⟨r, 0, none⟩)] y (LexNext l y r k s a n)) :
    Calls Tryz.prog 149 #[.pointer (some ⟨r, 0, none⟩)] w (LexNext l w r k s a n) := by
  have hr := heap_lt h
  have H0 := hid (La.start h he)
  have hix := index_bs hb
  have HM := hid hm
  have HD := hid (fun w => lexDigit_b b w)
  have HWy := hid (fun w => lexWordy_any b w)
  have hlt : b.toNat < 256 := b.toNat_lt
  have n34 : ((b.toNat : Int) == 34) = false := ne_beq (by omega)
  have n35 : ((b.toNat : Int) == 35) = false := ne_beq (by omega)
  have n39 : ((b.toNat : Int) == 39) = false := ne_beq (by omega)
  clear h he hb hm
  go_enter Tryz.func149, Tryz.ntmps149
  go_wp2_with fail
  generalize World.alloc _ _ = w0 at H0 ⊢
  have c0 := cell_of (i := 0) H0.out.at' rfl
  have c1 := cell_of (i := 1) H0.out.at' rfl
  go_quiet (fail)
  have H1 := hid (H0.out.keep (below_drewN (Below.refl w0.heap.size w0) nq))
  clear c0 c1 hix H0
  go_wp2_with fail
  refine (HD.out _).mono ?_
  rintro e w2 ⟨rfl, rfl⟩
  rw [hd]
  go_wp2_with fail
  refine (HWy.out _).mono ?_
  rintro e w2 ⟨rfl, rfl⟩
  rw [hw]
  go_wp2_with fail
  refine (HM.out _ H1.out.at' H1.out.env).mono ?_
  rintro e w7 ⟨rfl, h7, c7⟩
  have HE := hid (la_end H1.out h7 c7 hr (tokV k s a).toArray)
  clear h7 c7 H1
  go_wp2_with (refine wpList_store_row rfl 185 _ _ rfl w.heap.size (tokV k s a).toArray rfl rfl 185 _ HE.out.1 (tok_info3 k s a) (by rfl) (tok_one3 k s a) ?_)
  refine bodyPost_ret (v := .tuple #[.agg (tokV k s a).toArray, .bool true]) (results_rowt rfl _ _ w.heap.size _ _ rfl rfl (run_loadVar_row (P := Tryz.prog) _ w.heap.size 185 185 (tokV k s a).toArray (0, 0) _ (heap_setRow_at HE.out.1) Tryz.underlying185 rfl (tok_info3 k s a))) rfl ?_
  exact ⟨rfl, HE.out.2⟩
end Go.Proofs.YtpcjfgihglfdgaaGreatDoor

namespace Go.Proofs.YtpcjfgihglfdgaaGreatDoor
open Go.RowKit Go.Lib

/-- a piece stands at a place of a text -/
def Piece (l : List UInt8) (a : Nat) (k : Int) (s : ByteArray) (n : Nat) : Prop :=
  0 < n ∧ (∃ b, l[a]? = some b ∧ b ≠ 32) ∧ ∀ w r, LexR l w r a → Env w → Calls Tryz.prog 149 #[.pointer (some ⟨r, 0, none⟩)] w (LexNext l w r k s a n)
def Pieces (l : List UInt8) : Nat → List (Int × ByteArray × Nat) → Prop
  | a, [] => a = l.length
  | a, p :: ps => Piece l a p.1 p.2.1 p.2.2 ∧ Pieces l (a + p.2.2) ps
def toks : Nat → List (Int × ByteArray × Nat) → List (List Value)
  | _, [] => []
  | a, p :: ps => tokV p.1 p.2.1 a :: toks (a + p.2.2) ps
def ahead (ps : List (Int × ByteArray × Nat)) : Nat := (ps.map (·.2.2)).sum
theorem toks_append (a : Nat) (ps qs : List (Int × ByteArray × Nat)) : toks a (ps ++ qs) = toks a ps ++ toks (a + ahead ps) qs := by
  induction ps generalizing a with
  | nil => simp [toks, ahead]
  | cons p ps ih =>
    rw [List.cons_append, toks, toks, ih]
    simp [ahead, Nat.add_assoc]
theorem toks_three : ∀ (ps : List (Int × ByteArray × Nat)) (a : Nat), ∀ c ∈ toks a ps, c.length = 3
  | [], _, c, h => by cases h
  | p :: ps, a, c, h => by
    rcases List.mem_cons.1 h with rfl | h
    · rfl
    · exact toks_three ps _ c h
theorem toks_len : ∀ (ps : List (Int × ByteArray × Nat)) (a : Nat), (toks a ps).length = ps.length
  | [], _ => rfl
  | p :: ps, a => by rw [toks, List.length_cons, toks_len ps, List.length_cons]

/-- a row of pieces of the call's own -/
def TokOwn (w : World) (B : Nat) (v : Value) (L : List (List Value)) : Prop := w.ownsRow B 185 3 v L.length L.flatten
theorem TokOwn.nil (w : World) (B : Nat) : TokOwn w B (.slice none 0 0) [] := ⟨rfl, .inl ⟨rfl, rfl⟩⟩
theorem TokOwn.app {w : World} {B : Nat} {v : Value} {L : List (List Value)} (h : TokOwn w B v L) (hB : B ≤ w.heap.size) {m g : Nat} (hml : m = L.length) (hgs : w.heap.size = g) (hm : m ≤ 1000000) (k : Int) (s : ByteArray) (a : Nat) :
    ∃ b c w2, (Builtin.append_ #[180, 180] 180 #[v, .slice (some ⟨g, 0, none⟩) 1 1]).run Tryz.prog (w.alloc (.cells (tokV k s a).toArray 185)) = .ok (.slice b (m + 1) c) w2 ∧
      TokOwn w2 B (.slice b (m + 1) c) (L ++ [tokV k s a]) ∧ Chg (own v) w w2 := by
  subst hml hgs
  obtain ⟨i0, hi, hz0, hz1, hz2⟩ := info_parts tok_info
  obtain ⟨v', w2, h1, h2, h3, _, h5⟩ := run_append_own_at (P := Tryz.prog) (w.alloc (.cells (tokV k s a).toArray 185)) B 180 180 185 i0 (.agg #[.int .i64 0, .string ⟨#[]⟩, .int .i64 0]) 3 32 Tryz.underlying180 hi hz0 hz1 hz2 rfl (by decide) v L.length _ (h.alloc _)
    ⟨w.heap.size, 0, none⟩ 1 1 (tokV k s a) rfl (cells_new _ _ _) (by intro u hu; simp at hu; rcases hu with rfl | rfl | rfl <;> rfl) (by unfold maxLen; omega) (by omega) (by simp; omega)
  obtain ⟨b, c, rfl, _⟩ := ownsRow_view h2
  refine ⟨b, c, w2, h1, ?_, ((Chg.refl _ w).alloc _).grown h3 (fun k hk => .inl (by simp [own, hk]))⟩
  unfold TokOwn
  rw [List.length_append, List.flatten_append]
  simpa using h2

/-- what stands while the pieces are read -/
structure Tk (l : List UInt8) (ps : List (Int × ByteArray × Nat)) (w : World) (g : Nat) (v : Value) (y : World) (done rest : List (Int × ByteArray × Nat)) : Prop where
  all : ps = done ++ rest
  left : Pieces l (ahead done) rest
  at' : LexR l y w.heap.size (ahead done)
  row : TokOwn y (w.heap.size + 1) v (toks 0 done)
  low : Below w.heap.size w y
  many : g = rest.length
set_option maxRecDepth 20000 in
set_option maxHeartbeats 2000000 in
theorem tokens_any (l : List UInt8) (ps : List (Int × ByteArray × Nat)) (hps : Pieces l 0 ps) (hn : ps.length ≤ 1000) (hl : l.length ≤ 200) (w : World) (he : Env w) :
    Calls Tryz.prog 94 #[.string (bs l)] w fun e w' => (∃ v, e = .returned (.tuple #[v, .int .i64 0, .int .i64 0]) ∧ (∃ a c, v = .slice a ps.length c) ∧ RowIn w' 3 v (toks 0 ps)) ∧ Below w.heap.size w w' := by
  have b0 := (Below.refl w.heap.size w).alloc (Nat.le_refl _) (.cells #[.string (bs l), .int .i64 0] 240)
  have T0 := hid (show Tk l ps w ps.length (.slice none 0 0) (w.alloc (.cells #[.string (bs l), .int .i64 0] 240)) [] ps from
    ⟨rfl, hps, heap_alloc_new w _, TokOwn.nil _ _, b0, rfl⟩)
  have HE := hid he
  obtain ⟨n, hnl⟩ : ∃ n, n = l.length := ⟨_, rfl⟩
  have hsz : (bs l).size = n := by rw [bs_size, hnl]
  have hl200 : n ≤ 200 := by omega
  have HN := hid (show _ ∧ _ from ⟨hnl, hn⟩)
  clear hps hl he hn hnl b0
  go_enter Tryz.func94, Tryz.ntmps94
  go_wp2_with fail
  generalize World.alloc _ _ = w0 at T0 ⊢
  go_loopg [5] ps.length (fun gk v wr => ∃ va vc done rest, v = .slice va done.length vc ∧ Tk l ps w gk (.slice va done.length vc) wr done rest)
  case atStart => exact ⟨none, 0, [], ps, rfl, T0.out⟩
  case round =>
    obtain ⟨va, vc, done, rest, rfl, ht⟩ := hrel
    have HT := hid ht
    clear ht T0
    have c0 := cell_of (i := 0) HT.out.at' rfl
    have c1 := cell_of (i := 1) HT.out.at' rfl
    cases rest with
    | nil =>
      have hend : ahead done = n := by have := HT.out.left; rw [HN.out.1]; exact this
      rw [hend] at c1
      clear hend
      go_wp2_with fail
      go_ret3
      refine ⟨⟨_, rfl, ?_, ?_⟩, HT.out.low⟩
      · have : done.length = ps.length := by rw [HT.out.all, List.append_nil]
        exact ⟨va, vc, by rw [this]; rfl⟩
      · have := rowIn_of_own (toks_three done 0) HT.out.row
        rw [HT.out.all, List.append_nil]
        exact this
    | cons p rest =>
      obtain ⟨⟨hn0, ⟨b, hb, hb32⟩, hc⟩, hrest⟩ := HT.out.left
      have hlt : ahead done < n := by rw [HN.out.1]; exact (List.getElem?_eq_some_iff.1 hb).1
      have hix := index_bs hb
      have n32 : ((b.toNat : Int) == 32) = false := ne_beq (fun h => hb32 (UInt8.toNat_inj.1 (by have : (32 : UInt8).toNat = 32 := rfl; omega)))
      have HC := hid hc
      have HR := hid hrest
      obtain ⟨a, ha⟩ : ∃ a, a = ahead done := ⟨_, rfl⟩
      rw [← ha] at c1 hlt hix HC
      have HA := hid ha
      have hah : ahead (done ++ [p]) = ahead done + p.2.2 := by simp [ahead]
      clear hc hrest hb hb32 hn0 ha
      go_wp2_with fail
      refine (HC.out _ _ (HA.out ▸ HT.out.at') (HE.out.below HT.out.low)).mono ?_
      rintro e w1 ⟨rfl, h1, hc1⟩
      have hlow := fun g hg => (ownsRow_low HT.out.row g hg).1
      have hfar : ∀ g, (Value.slice va done.length vc).ownBlock = some g → g ∉ [w.heap.size] := fun g hg => by have := hlow g hg; simp only [List.mem_singleton]; omega
      have o1 : TokOwn w1 (w.heap.size + 1) (.slice va done.length vc) (toks 0 done) := hc1.owns HT.out.row hfar
      have hBs : w.heap.size + 1 ≤ w1.heap.size := Nat.le_trans (heap_lt HT.out.at') hc1.size
      have b1 := (Below.refl w1.heap.size w1).alloc (Nat.le_refl _) (.cells (tokV p.1 p.2.1 a).toArray 185)
      have o2 : TokOwn (w1.alloc (.cells (tokV p.1 p.2.1 a).toArray 185)) (w.heap.size + 1) (.slice va done.length vc) (toks 0 done) := (Chg.of_below (F := []) b1).owns o1 (by simp)
      have hm : done.length ≤ 1000000 := by
        have := congrArg List.length HT.out.all
        rw [List.length_append] at this
        have := HN.out.2
        omega
      obtain ⟨va', vc', w2, happ, hown, hchg⟩ := o2.app (by simp; omega) (m := done.length) (by rw [toks_len]) (g := w1.heap.size + 1) (by simp) hm p.1 p.2.1 a
      have c2 : Chg (w.heap.size :: own (.slice va done.length vc)) wr w2 := ((hc1.mono (by simp)).trans (Chg.of_below (F := []) b1) (by simp)).trans hchg (fun g hg => .inl (List.mem_cons_of_mem _ hg))
      have hF : ∀ x ∈ w.heap.size :: own (.slice va done.length vc), w.heap.size ≤ x := fun x hx => by
        rcases List.mem_cons.1 hx with rfl | hx
        · exact Nat.le_refl _
        · exact Nat.le_trans (Nat.le_succ _) (hlow x (by simpa [own] using hx))
      have bw2 : Below w.heap.size w w2 := HT.out.low.trans (c2.below hF HT.out.low.size)
      have hr2 : LexR l w2 w.heap.size (a + p.2.2) := hchg.heap (heap_alloc_keep h1 _) (fun h => hfar w.heap.size (by simpa [own] using h) (by simp))
      have H2 := hid (show Tk l ps w rest.length (.slice va' (done.length + 1) vc') w2 (done ++ [p]) rest from
        ⟨by rw [HT.out.all, List.append_assoc]; rfl, by rw [hah]; exact HR.out, by rw [hah, ← HA.out]; exact hr2, by rw [toks_append]; simpa [toks, HA.out] using hown, bw2, rfl⟩)
      have hmany : gk = rest.length + 1 := HT.out.many
      clear hown hr2 bw2 hF c2 o2 o1 b1 hm hfar hlow h1 hc1 hchg HT c0 c1 hBs
      go_wp2_with (at_builtin; refine wpList_append_run rfl _ _ _ rfl _ _ rfl rfl happ ?_)
      go_roundg rest.length
      case measure => omega
      case rel => exact ⟨va', vc', done ++ [p], rest, by rw [List.length_append]; rfl, by rw [List.length_append]; exact H2.out⟩
end Go.Proofs.YtpcjfgihglfdgaaGreatDoor

namespace Go.Proofs.YtpcjfgihglfdgaaGreatDoor
open Go.RowKit Go.Lib

theorem drop_get {l : List UInt8} {a : Nat} {b : UInt8} {R : List UInt8} (h : l.drop a = b :: R) : l[a]? = some b := by
  have := congrArg List.head? h
  rwa [List.head?_drop] at this
theorem drop_le {l : List UInt8} {a : Nat} {b : UInt8} {R : List UInt8} (h : l.drop a = b :: R) : a ≤ l.length := Nat.le_of_lt (List.getElem?_eq_some_iff.1 (drop_get h)).1
theorem piece_num {l : List UInt8} {a : Nat} {R : List UInt8} (hl : l.drop a = 49 :: R) (hA : ∀ b ∈ l, b.toNat < 128) (hd : ∀ b, R.head? = some b → digitB b = false) (h46 : R.head? ≠ some 46) (hb : l.length ≤ 1000) : Piece l a 1 (bs [49]) 1 :=
  ⟨by decide, ⟨49, drop_get hl, by decide⟩, fun _ _ h he => nextNum_any h he 49 (drop_get hl) (by decide) 1 (bs [49]) 1 (fun _ h he => number_any h he R hl hA hd h46 hb)⟩
theorem piece_ref {l : List UInt8} {a : Nat} (n : Nat) (h1 : 1 ≤ n) (h2 : n ≤ 33) {R : List UInt8} (hl : l.drop a = refB n ++ R) (hA : ∀ b ∈ l, b.toNat < 128) (hd : ∀ b, R.head? = some b → wordyB b = false) (h33 : R.head? ≠ some 33) (h40 : R.head? ≠ some 40) (h91 : R.head? ≠ some 91) (hb : l.length ≤ 1000) :
    Piece l a 5 (bs (refB n)) (refB n).length := by
  have hg : l[a]? = some 65 := drop_get (R := digs n ++ R) (by rw [hl]; rfl)
  exact ⟨(refB_len (by omega)).1, ⟨65, hg, by decide⟩, fun _ _ h he => nextWord_any h he 65 hg (by decide) (by decide) (by decide) 5 (bs (refB n)) _ (fun _ h he => wordRef_any h he n h1 h2 R hl hA hd h33 h40 h91 hb)⟩
theorem piece_sum {l : List UInt8} {a : Nat} {R : List UInt8} (hl : l.drop a = 83 :: 85 :: 77 :: 40 :: R) (hA : ∀ b ∈ l, b.toNat < 128) (hb : l.length ≤ 1000) : Piece l a 7 textSUM 3 :=
  ⟨by decide, ⟨83, drop_get hl, by decide⟩, fun _ _ h he => nextWord_any h he 83 (drop_get hl) (by decide) (by decide) (by decide) 7 textSUM 3 (fun _ h he => wordSum_any h he R hl hA hb)⟩
theorem not_prefix {t : List UInt8} {x c : UInt8} {R : List UInt8} (h : t.head? = some x) (hx : x ≠ c) : t.isPrefixOf (c :: R) = false := by
  cases t with
  | nil => cases h
  | cons y t =>
    simp only [List.head?_cons, Option.some.injEq] at h
    subst h
    simp [List.isPrefixOf, hx]
theorem piece_sign {l : List UInt8} {a : Nat} {R : List UInt8} (c : UInt8) (idx : Nat) (hs : signsL[idx]? = some [c]) (hn : ((signsL.take idx).all fun t => t.head?.any (· != c)) = true) (h32 : c ≠ 32) (hd : digitB c = false) (hw : wordyB c = false) (hq : c.toNat ≠ 34 ∧ c.toNat ≠ 35 ∧ c.toNat ≠ 39)
    (hl : l.drop a = c :: R) (hb : l.length ≤ 1000) : Piece l a 8 (bs [c]) 1 := by
  refine ⟨by decide, ⟨c, drop_get hl, h32⟩, fun _ _ h he => nextSign_any h he c (drop_get hl) hd hw hq 8 (bs [c]) 1 (fun _ h he => sign_any h he idx [c] hs ⟨by simp, by simp⟩ (by rw [hl]; simp [List.isPrefixOf]) ?_ (drop_le hl) hb)⟩
  intro j hj t ht
  have hm : t ∈ signsL.take idx := by
    have : (signsL.take idx)[j]? = some t := by rw [List.getElem?_take_of_lt hj]; exact ht
    exact List.mem_of_getElem? this
  have := List.all_eq_true.1 hn t hm
  rw [hl]
  cases hx : t.head? with
  | none => rw [hx] at this; cases this
  | some x =>
    rw [hx] at this
    exact not_prefix hx (by simpa using this)

/-- the formulas of the law, behind their '=' -/
def fOne : List UInt8 := [49]
def fPlus (n : Nat) : List UInt8 := refB n ++ [43, 49]
def fSum (i j : Nat) : List UInt8 := 83 :: 85 :: 77 :: 40 :: (refB i ++ 58 :: (refB j ++ [41]))
theorem refB_ascii {n : Nat} (h : n < 100) : ∀ b ∈ refB n, b.toNat < 128 := by
  intro b hb
  rcases List.mem_cons.1 hb with rfl | hb
  · decide
  · have := digit_range ((digs_fact h).1 b hb)
    omega
abbrev pRef (n : Nat) : Int × ByteArray × Nat := (5, bs (refB n), (refB n).length)
abbrev pSign (c : UInt8) : Int × ByteArray × Nat := (8, bs [c], 1)
abbrev pNum : Int × ByteArray × Nat := (1, bs [49], 1)
def psOne : List (Int × ByteArray × Nat) := [pNum]
def psPlus (n : Nat) : List (Int × ByteArray × Nat) := [pRef n, pSign 43, pNum]
def psRef (n : Nat) : List (Int × ByteArray × Nat) := [pRef n]
def psSum (i j : Nat) : List (Int × ByteArray × Nat) := [(7, textSUM, 3), pSign 40, pRef i, pSign 58, pRef j, pSign 41]
theorem pieces_one : Pieces fOne 0 psOne := ⟨piece_num (R := []) rfl (by decide) (by simp) (by simp) (by decide), rfl⟩
theorem pieces_ref (n : Nat) (h1 : 1 ≤ n) (h2 : n ≤ 33) : Pieces (refB n) 0 (psRef n) := by
  have hl := refB_len (n := n) (by omega)
  refine ⟨piece_ref n h1 h2 (R := []) (by simp) (refB_ascii (by omega)) (by simp) (by simp) (by simp) (by simp) (by omega), ?_⟩
  show 0 + (refB n).length = (refB n).length
  omega
theorem wordy_of {c b : UInt8} {R : List UInt8} (hw : wordyB c = false) (h : (c :: R).head? = some b) : wordyB b = false := by
  simp only [List.head?_cons, Option.some.injEq] at h
  subst h
  exact hw
theorem pieces_plus (n : Nat) (h1 : 1 ≤ n) (h2 : n ≤ 33) : Pieces (fPlus n) 0 (psPlus n) := by
  have hl := refB_len (n := n) (by omega)
  have hlen : (fPlus n).length = (refB n).length + 2 := by simp [fPlus]
  have hA : ∀ b ∈ fPlus n, b.toNat < 128 := by
    intro b hb
    rcases List.mem_append.1 hb with hb | hb
    · exact refB_ascii (by omega) b hb
    · simp at hb; rcases hb with rfl | rfl <;> decide
  have d1 : (fPlus n).drop (refB n).length = [43, 49] := List.drop_left
  have d2 : (fPlus n).drop ((refB n).length + 1) = [49] := by rw [← List.drop_drop, d1]; rfl
  refine ⟨piece_ref n h1 h2 (R := [43, 49]) rfl hA (fun b hb => wordy_of (by decide) hb) (by simp) (by simp) (by simp) (by omega), ?_⟩
  simp only [Nat.zero_add]
  refine ⟨piece_sign 43 7 rfl (by decide) (by decide) (by decide) (by decide) (by decide) d1 (by omega), ?_⟩
  refine ⟨piece_num (R := []) d2 hA (by simp) (by simp) (by omega), ?_⟩
  show (refB n).length + 1 + 1 = (fPlus n).length
  omega
theorem pieces_sum (i j : Nat) (h1 : 1 ≤ i) (h2 : i ≤ 33) (h3 : 1 ≤ j) (h4 : j ≤ 33) : Pieces (fSum i j) 0 (psSum i j) := by
  have hi := refB_len (n := i) (by omega)
  have hj := refB_len (n := j) (by omega)
  have hlen : (fSum i j).length = (refB i).length + (refB j).length + 6 := by simp [fSum]; omega
  have hA : ∀ b ∈ fSum i j, b.toNat < 128 := by
    intro b hb
    unfold fSum at hb
    simp only [List.mem_cons, List.mem_append, List.not_mem_nil, or_false] at hb
    rcases hb with rfl | rfl | rfl | rfl | hb | rfl | hb | rfl
    · decide
    · decide
    · decide
    · decide
    · exact refB_ascii (n := i) (by omega) b hb
    · decide
    · exact refB_ascii (n := j) (by omega) b hb
    · decide
  have d4 : (fSum i j).drop (3 + 1) = refB i ++ 58 :: (refB j ++ [41]) := rfl
  have d5 : (fSum i j).drop (3 + 1 + (refB i).length) = 58 :: (refB j ++ [41]) := by rw [← List.drop_drop, d4]; exact List.drop_left
  have d6 : (fSum i j).drop (3 + 1 + (refB i).length + 1) = refB j ++ [41] := by rw [← List.drop_drop, d5]; rfl
  have d7 : (fSum i j).drop (3 + 1 + (refB i).length + 1 + (refB j).length) = [41] := by rw [← List.drop_drop, d6]; exact List.drop_left
  refine ⟨piece_sum (R := refB i ++ 58 :: (refB j ++ [41])) rfl hA (by omega), ?_⟩
  simp only [Nat.zero_add]
  refine ⟨piece_sign 40 13 rfl (by decide) (by decide) (by decide) (by decide) (by decide) (R := refB i ++ 58 :: (refB j ++ [41])) rfl (by omega), ?_⟩
  refine ⟨piece_ref i h1 h2 (R := 58 :: (refB j ++ [41])) d4 hA (fun b hb => wordy_of (by decide) hb) (by simp) (by simp) (by simp) (by omega), ?_⟩
  refine ⟨piece_sign 58 17 rfl (by decide) (by decide) (by decide) (by decide) (by decide) d5 (by omega), ?_⟩
  refine ⟨piece_ref j h3 h4 (R := [41]) d6 hA (fun b hb => wordy_of (by decide) hb) (by simp) (by simp) (by simp) (by omega), ?_⟩
  refine ⟨piece_sign 41 14 rfl (by decide) (by decide) (by decide) (by decide) (by decide) d7 (by omega), ?_⟩
  show 3 + 1 + (refB i).length + 1 + (refB j).length + 1 = (fSum i j).length
  omega
end Go.Proofs.YtpcjfgihglfdgaaGreatDoor
