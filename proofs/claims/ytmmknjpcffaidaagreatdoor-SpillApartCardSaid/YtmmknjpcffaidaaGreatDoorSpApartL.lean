/- The law SpillApart: no two areas that are placed meet, no other cell is in one, and each spill is placed or blocked, once. Condition: utf8's tables lie as they were laid. -/
import Derived.Test.YtmmknjpcffaidaaGreatDoorSpLawK
namespace Go.Proofs.YtmmknjpcffaidaaGreatDoor
open Go.RowKit Go.Lib

def ApRel (w : World) (pn : Nat) (iv : Value) (wr : World) : Prop := ∃ i : Nat, iv = .int .i64 (i : Int) ∧ i ≤ pn ∧ Below w.heap.size w wr
def AkRel (w : World) (ga : Nat) (x : PSp) (n : Nat) (kv : Value) (wr : World) : Prop := ∃ k : Nat, kv = .int .i64 (k : Int) ∧ k ≤ n ∧ Ak w ga x wr
def ApEnd (w : World) (A : List PAt) (own : List PSp) (on : Nat) (iv kv nv : Value) (wr : World) : Prop := ∃ n : Nat, nv = .int .i64 (n : Int) ∧ iv = .int .i64 ((pN A own n : Nat) : Int) ∧ kv = .int .i64 ((qN A own n : Nat) : Int) ∧ n ≤ on ∧ Below w.heap.size w wr

set_option maxRecDepth 100000 in
set_option maxHeartbeats 8000000 in
theorem apart_any (w : World) (hT : Tabs w) (lv sv : Value) (L : List PAt) (z : List (Int × Int)) (hl : AtsIn w lv L) (hL : ∀ p, p ∈ L → SmallAt p) (hz : PairsIn w sv z) (hZ : ∀ n, n ∈ z → SmallPair n) :
    Calls Tryz.prog 4 #[lv, sv] w fun e w' => e = .returned (.bool true) ∧ Below w.heap.size w w' := by
  obtain ⟨A, hA⟩ : ∃ A, A = atsOf L := ⟨_, rfl⟩
  have HBO := hid (fun (y : World) (hb : Below w.heap.size w y) => by have := book_any y lv L (hl.below hb) hL; rwa [← hA] at this)
  have HSP := hid (fun (y : World) (hb : Below w.heap.size w y) => by have := spills_any y lv sv L z (hl.below hb) hL (hz.below hb) hZ; rwa [← hA] at this)
  have hok := atsOf_ok L
  have hpd := pd_of L z
  rw [← hA] at hok hpd
  obtain ⟨own, hown⟩ : ∃ own, own = ownOf A z := ⟨_, rfl⟩
  rw [← hown] at HSP hpd
  have HMAY := hid (show mayP A own by rw [hown]; exact own_mayP hok.rising z)
  have hsml : ∀ x, x ∈ own → SmallSp x := by rw [hown]; exact small_ownOf hok.two hok.rising z
  have HLEN := hid (show own.length ≤ 12 by rw [hown]; exact Nat.le_trans (ownOf_ok hok.rising z).few hok.few)
  have HPS := hid (small_placed (T := fun p => p ∈ A) hsml)
  have HQS := hid (small_blocked (T := fun p => p ∈ A) hsml)
  have HOS := hid hsml
  have HCS := hid (show ∀ c, c ∈ A → SmallAt c from fun c hc => small_two (hok.two c hc))
  have HALEN := hid hok.few
  have HPD := hid hpd
  have HAW := hid (awake_any w hT)
  have HT := hid hT
  obtain ⟨la, ln, lc, rfl⟩ : ∃ a n c, lv = .slice a n c := by obtain ⟨a, c, _, _, e, _⟩ := hl.view; exact ⟨_, _, _, e⟩
  obtain ⟨za, zn, zc, rfl⟩ : ∃ a n c, sv = .slice a n c := by obtain ⟨a, c, _, _, e, _⟩ := hz.view; exact ⟨_, _, _, e⟩
  clear hl hL hz hZ hA hok hown hT hpd hsml
  go_enter Tryz.func4, Tryz.ntmps4
  go_wp2_with fail
  refine HAW.out.mono ?_
  rintro e w1 ⟨rfl, b1⟩
  have HB1 := hid b1
  clear b1 HAW
  go_wp2_with fail
  refine (HBO.out _ HB1.out).mono ?_
  rintro e w2 ⟨⟨bv, rfl, hbk⟩, b2⟩
  have HB2 := hid (HB1.out.trans (b2.mono HB1.out.size))
  have HBK := hid hbk
  obtain ⟨⟨b, off, v0, v1, rfl, -⟩, -⟩ := hbk
  clear b2
  go_wp2_with fail
  have bA := (Below.refl w2.heap.size w2).alloc (Nat.le_refl _) (.cells #[.slice (some ⟨b, off, none⟩) 2 2, .slice none 0 0, .slice none 0 0, .slice none 0 0] 35)
  have gA := heap_alloc_new w2 (.cells #[.slice (some ⟨b, off, none⟩) 2 2, .slice none 0 0, .slice none 0 0, .slice none 0 0] 35)
  obtain ⟨g, hg⟩ : ∃ g, g = w2.heap.size := ⟨_, rfl⟩
  have L3 : Lw w (.agg #[.slice (some ⟨b, off, none⟩) 2 2, .slice none 0 0, .slice none 0 0, .slice none 0 0]) #[.slice (some ⟨b, off, none⟩) 2 2, .slice none 0 0, .slice none 0 0, .slice none 0 0] A g (w2.alloc (.cells #[.slice (some ⟨b, off, none⟩) 2 2, .slice none 0 0, .slice none 0 0, .slice none 0 0] 35)) := ⟨by rw [hg]; exact gA, HBK.out.below bA, (HT.out.below HB2.out).below bA, HB2.out.trans (bA.mono HB2.out.size)⟩
  rw [← hg]
  generalize World.alloc _ _ = w3 at L3 ⊢
  have HL3 := hid L3
  clear bA gA hg L3 HBK HB2 HB1
  refine (HSP.out _ HL3.out.low).mono ?_
  rintro e w4 ⟨⟨ov, rfl, ho, hcap⟩, b4⟩
  have HL4 := hid (HL3.out.keep b4)
  have HO4 := hid ho
  obtain ⟨oa, oc, _, _, rfl, -⟩ := ho.view
  obtain ⟨on, hon⟩ : ∃ on, on = own.length := ⟨_, rfl⟩
  rw [← hon] at HO4 ⊢
  have HON := hid hon
  clear b4 ho hon hcap HL3 HSP HBO
  have b0 := cell_of (i := 0) HL4.out.b rfl
  have b1 := cell_of (i := 1) HL4.out.b rfl
  have b2 := cell_of (i := 2) HL4.out.b rfl
  have b3 := cell_of (i := 3) HL4.out.b rfl
  go_wp2_with fail
  clear b0 b1 b2 b3
  refine (place_yes _ HL4.out.tabs _ _ A one1 own HL4.out.bk (HON.out ▸ HO4.out) HMAY.out (by have := HLEN.out; omega)).mono ?_
  rintro e w6 ⟨⟨pv, qv, rfl, hp, hq, hpc, hqc⟩, b6⟩
  have HL6 := hid (HL4.out.keep b6)
  have HO6 := hid (HO4.out.below b6)
  obtain ⟨P, hP⟩ : ∃ P, P = (placeP (fun p => p ∈ A) own).1 := ⟨_, rfl⟩
  obtain ⟨Q, hQ⟩ : ∃ Q, Q = (placeP (fun p => p ∈ A) own).2 := ⟨_, rfl⟩
  rw [← hP] at hp HPS HPD
  rw [← hQ] at hq HQS HPD
  have HP6 := hid hp
  have HQ6 := hid hq
  obtain ⟨pa, pc, _, _, rfl, -⟩ := hp.view
  obtain ⟨qa, qc, _, _, rfl, -⟩ := hq.view
  obtain ⟨pn, hpn⟩ : ∃ pn, pn = P.length := ⟨_, rfl⟩
  obtain ⟨qn, hqn⟩ : ∃ qn, qn = Q.length := ⟨_, rfl⟩
  rw [← hpn] at HP6 ⊢
  rw [← hqn] at HQ6 ⊢
  have HPN := hid hpn
  have HQN := hid hqn
  clear hp hq hpc hqc b6 hpn hqn hP hQ HL4 HO4
  have b0 := cell_of (i := 0) HL6.out.b rfl
  have b1 := cell_of (i := 1) HL6.out.b rfl
  have b2 := cell_of (i := 2) HL6.out.b rfl
  have b3 := cell_of (i := 3) HL6.out.b rfl
  go_wp2_with fail
  clear b0 b1 b2 b3
  refine (cells_any _ HL6.out.tabs _ A one1 HL6.out.bk).mono ?_
  rintro e w7 ⟨⟨cv, rfl, hc⟩, b7⟩
  have HLW := hid (HL6.out.keep b7).low
  have hov := (HO6.out.below b7).view
  have hpv := (HP6.out.below b7).view
  have hqv := (HQ6.out.below b7).view
  have hcv := hc.view
  obtain ⟨ca, cc, cb, co, rfl, hcl, hcw⟩ := hcv
  obtain ⟨_, _, ob, oo, eo, hol, how⟩ := hov
  obtain ⟨_, _, pb, po, ep, hpl, hpw⟩ := hpv
  obtain ⟨_, _, qb, qo, eq', hql, hqw⟩ := hqv
  injection eo with eo1 eo2 eo3
  injection ep with ep1 ep2 ep3
  injection eq' with eq1 eq2 eq3
  subst eo1 eo3 ep1 ep3 eq1 eq3
  obtain ⟨cn, hcn⟩ : ∃ cn, cn = A.length := ⟨_, rfl⟩
  rw [← hcn] at ⊢
  have HCN := hid hcn
  have HOW := hid how
  have HPW := hid hpw
  have HQW := hid hqw
  have HCW := hid hcw
  have hsum : (pn : Int) + (qn : Int) = (on : Int) := by have h1 := HPD.out.sum; rw [← HPN.out, ← HQN.out, ← HON.out] at h1; omega
  have hon12 : on ≤ 12 := by rw [HON.out]; exact HLEN.out
  have hpn12 : pn ≤ 12 := by omega
  have hqn12 : qn ≤ 12 := by omega
  have hcn12 : cn ≤ 12 := by rw [HCN.out]; exact HALEN.out
  clear hc how hpw hqw hcw hcl hol hpl hql eo2 ep2 eq2 b7 hcn HL6 HO6 HP6 HQ6
  go_wp2_with fail
  go_loopw [13] (fun iv y => ApRel w7 pn iv y) (fun iv _ => pn - (RowKit.intOf iv).toNat)
  case atStart => exact ⟨0, rfl, by omega, Below.refl _ _⟩
  case round =>
    obtain ⟨i, rfl, hi, hb⟩ := hrel
    have HB := hid hb
    clear hb
    by_cases hin : i < pn
    · obtain ⟨x, hx⟩ : ∃ x, P[i]? = some x := ⟨_, List.getElem?_eq_getElem (by rw [← HPN.out]; omega)⟩
      obtain ⟨rfl, k0, k1, k2, k3, k4⟩ := HPW.out i x hx
      have hd1 : ((i : Int) < (pn : Int)) = True := by rw [eq_iff_iff, iff_true]; omega
      have HX := hid hx
      have HROW := hid (show _ ∧ _ ∧ _ ∧ _ ∧ _ from ⟨k0, k1, k2, k3, k4⟩)
      have HAR := hid (fun (x : PSp) w => by have := refArea_any x w; unfold spV at this; exact this)
      have r0 := old_cell HB.out k0
      have r1 := old_cell HB.out k1
      have r2 := old_cell HB.out k2
      have r3 := old_cell HB.out k3
      have r4 := old_cell HB.out k4
      clear hx k0 k1 k2 k3 k4
      go_wp2_with fail
      refine (HAR.out x _).mono ?_
      rintro e w8 ⟨rfl, b8⟩
      have HB8 := hid (HB.out.trans (b8.mono HB.out.size))
      clear r0 r1 r2 r3 r4 b8
      go_wp2_with fail
      have hak := Ak.new (x := x) HB8.out
      obtain ⟨ga, hga⟩ : ∃ ga, ga = w8.heap.size := ⟨_, rfl⟩
      rw [← hga] at hak ⊢
      generalize World.alloc _ _ = w9 at hak ⊢
      have HAK := hid hak
      clear hak hga HB8
      go_loopw [15] (fun kv y => AkRel w7 ga x i kv y) (fun kv _ => i - (RowKit.intOf kv).toNat)
      case atStart => exact ⟨0, rfl, by omega, HAK.out⟩
      case round =>
        obtain ⟨k, rfl, hk, hak⟩ := hrel
        have HA := hid hak
        clear hak HAK
        by_cases hkn : k < i
        · obtain ⟨v, hv⟩ : ∃ v, P[k]? = some v := ⟨_, List.getElem?_eq_getElem (by rw [← HPN.out]; omega)⟩
          obtain ⟨-, k0, k1, k2, k3, k4⟩ := HPW.out k v hv
          have hd2 : ((k : Int) < (i : Int)) = True := by rw [eq_iff_iff, iff_true]; omega
          have HME := hid (fun w => by have := meet_any x v w; rw [decide_eq_false (HPD.out.noMeet HX.out hv hkn)] at this; unfold MeetPost spV at this; exact this)
          have hkp : k < pn := by omega
          have HKA := hid (fun (y : World) (h : Ak w7 ga x y) => show (y.cell? ⟨ga, 0, none⟩ = some (.int .i64 x.1.1) ∧ y.cell? ⟨ga, 1, none⟩ = some (.int .i64 x.1.2.1) ∧ y.cell? ⟨ga, 2, none⟩ = some (.int .i64 x.1.2.2) ∧ y.cell? ⟨ga, 3, none⟩ = some (.int .i64 x.2.1) ∧ y.cell? ⟨ga, 4, none⟩ = some (.int .i64 x.2.2)) ∧ (y.cell? ⟨pb, po + k * 5, none⟩ = some (.int .i64 v.1.1) ∧ y.cell? ⟨pb, po + k * 5 + 1, none⟩ = some (.int .i64 v.1.2.1) ∧ y.cell? ⟨pb, po + k * 5 + 2, none⟩ = some (.int .i64 v.1.2.2) ∧ y.cell? ⟨pb, po + k * 5 + 3, none⟩ = some (.int .i64 v.2.1) ∧ y.cell? ⟨pb, po + k * 5 + 4, none⟩ = some (.int .i64 v.2.2)) ∧ Ak w7 ga x y from ⟨⟨cell_of h.ab rfl, cell_of h.ab rfl, cell_of h.ab rfl, cell_of h.ab rfl, cell_of h.ab rfl⟩, ⟨h.old k0, h.old k1, h.old k2, h.old k3, h.old k4⟩, h⟩)
          have HS0 := hid (HKA.out wr.drew (HA.out.keep (Below.refl _ wr).drew))
          clear hv k0 k1 k2 k3 k4
          go_wp2_with fail
          go_region_held (fun y => (y.cell? ⟨ga, 0, none⟩ = some (.int .i64 x.1.1) ∧ y.cell? ⟨ga, 1, none⟩ = some (.int .i64 x.1.2.1) ∧ y.cell? ⟨ga, 2, none⟩ = some (.int .i64 x.1.2.2) ∧ y.cell? ⟨ga, 3, none⟩ = some (.int .i64 x.2.1) ∧ y.cell? ⟨ga, 4, none⟩ = some (.int .i64 x.2.2)) ∧ (y.cell? ⟨pb, po + k * 5, none⟩ = some (.int .i64 v.1.1) ∧ y.cell? ⟨pb, po + k * 5 + 1, none⟩ = some (.int .i64 v.1.2.1) ∧ y.cell? ⟨pb, po + k * 5 + 2, none⟩ = some (.int .i64 v.1.2.2) ∧ y.cell? ⟨pb, po + k * 5 + 3, none⟩ = some (.int .i64 v.2.1) ∧ y.cell? ⟨pb, po + k * 5 + 4, none⟩ = some (.int .i64 v.2.2)) ∧ Ak w7 ga x y) (first | with_reducible exact HS0.out | with_reducible exact HKA.out w5' HA5.out | with_reducible exact HKA.out w4' HA4.out | with_reducible exact HKA.out _ HA.out.ald | with_reducible exact HKA.out _ HA.out.dal | with_reducible exact HKA.out _ HA4.out.al | with_reducible exact HKA.out _ HA5.out.al | with_reducible exact HKA.out _ (HA5.out.store5 (Nat.ne_of_gt (heap_lt HA4.out.ab)) HA4.out.low.size) | with_reducible exact HKA.out _ (HA5.out.store5 (Nat.ne_of_gt (heap_lt HA.out.ab)) HA.out.low.size))
            (first | (go_at_call 21; refine (HAR.out v _).mono ?_; rintro e w4' ⟨rfl, b4⟩; have HA4 := hid (show Ak w7 ga x w4' from Ak.keep (by apply cv_of; assumption) b4); (first | (with_reducible have HZ4 := hid (zer_dnew b4)) | (with_reducible have HZ4 := hid (zer_newd b4)) | skip)) | (go_at_call 22; refine (HME.out _).mono ?_; rintro e w5' ⟨⟨z', rfl⟩, b5⟩; have HA5 := hid (show Ak w7 ga x w5' from Ak.keep (by apply cv_of; assumption) b5); (first | (have HZ := hid ((b5.block _ (heap_lt HZ4.out)).trans HZ4.out); have f0 := free_of (i := 0) HZ.out; have d0 := cell_of (i := 0) HZ.out rfl; have f1 := free_of (i := 1) HZ.out; have d1 := cell_of (i := 1) HZ.out rfl; have f2 := free_of (i := 2) HZ.out; have d2 := cell_of (i := 2) HZ.out rfl; have f3 := free_of (i := 3) HZ.out; have d3 := cell_of (i := 3) HZ.out rfl; have f4 := free_of (i := 4) HZ.out; have d4 := cell_of (i := 4) HZ.out rfl) | (with_reducible have HZ := hid (zer_new b5); have f0 := free_of (i := 0) HZ.out; have d0 := cell_of (i := 0) HZ.out rfl; have f1 := free_of (i := 1) HZ.out; have d1 := cell_of (i := 1) HZ.out rfl; have f2 := free_of (i := 2) HZ.out; have d2 := cell_of (i := 2) HZ.out rfl; have f3 := free_of (i := 3) HZ.out; have d3 := cell_of (i := 3) HZ.out rfl; have f4 := free_of (i := 4) HZ.out; have d4 := cell_of (i := 4) HZ.out rfl) | skip)))
          all_goals
            have HA6 := hid (cv_of ‹_ ∧ _ ∧ Ak w7 ga x _›)
            go_wp2_with fail
            go_roundw
            case rel => exact ⟨k + 1, by simp, by omega, HA6.out⟩
            case measure => simp [RowKit.intOf]; omega
        · obtain rfl : k = i := by omega
          have hd2 : ((k : Int) < (k : Int)) = False := by rw [eq_iff_iff, iff_false]; omega
          go_wp2_with fail
          go_loopw [18] (fun kv y => AkRel w7 ga x cn kv y) (fun kv _ => cn - (RowKit.intOf kv).toNat)
          case atStart => exact ⟨0, rfl, by omega, HA.out⟩
          case round =>
            obtain ⟨m, rfl, hm, hak⟩ := hrel
            have HA := hid hak
            clear hak
            by_cases hmn : m < cn
            · obtain ⟨c, hc⟩ : ∃ c, A[m]? = some c := ⟨_, List.getElem?_eq_getElem (by rw [← HCN.out]; omega)⟩
              obtain ⟨rfl, j0, j1, j2⟩ := HCW.out m c hc
              have hd3 : ((m : Int) < (cn : Int)) = True := by rw [eq_iff_iff, iff_true]; omega
              have hcm := List.mem_of_getElem? hc
              have hxm := List.mem_of_getElem? HX.out
              have hxs : SmallAt x.1 := (HPS.out x hxm).1
              have heq := fun w => eq_at c x.1 (HCS.out c hcm) hxs w
              have hha := fun w => has_any x c w
              obtain ⟨bo, hbo⟩ : ∃ bo, bo = decide (c = x.1) := ⟨_, rfl⟩
              have hbo2 : decide (hasP x c) = bo := by rw [hbo, Bool.eq_iff_iff, decide_eq_true_iff, decide_eq_true_iff]; exact HPD.out.cells hxm hcm
              rw [← hbo] at heq
              rw [hbo2] at hha
              unfold spV atV at hha
              unfold atV at heq
              have HHA := hid hha
              have hrow := HROW.out
              have HS0 := hid (show (wr.drew.cell? ⟨cb, co + m * 3, none⟩ = some (.int .i64 c.1) ∧ wr.drew.cell? ⟨cb, co + m * 3 + 1, none⟩ = some (.int .i64 c.2.1) ∧ wr.drew.cell? ⟨cb, co + m * 3 + 2, none⟩ = some (.int .i64 c.2.2)) ∧ ((wr.drew.cell? ⟨ga, 0, none⟩ = some (.int .i64 x.1.1) ∧ wr.drew.cell? ⟨ga, 1, none⟩ = some (.int .i64 x.1.2.1) ∧ wr.drew.cell? ⟨ga, 2, none⟩ = some (.int .i64 x.1.2.2) ∧ wr.drew.cell? ⟨ga, 3, none⟩ = some (.int .i64 x.2.1) ∧ wr.drew.cell? ⟨ga, 4, none⟩ = some (.int .i64 x.2.2)) ∧ (wr.drew.cell? ⟨pb, po + k * 5, none⟩ = some (.int .i64 x.1.1) ∧ wr.drew.cell? ⟨pb, po + k * 5 + 1, none⟩ = some (.int .i64 x.1.2.1) ∧ wr.drew.cell? ⟨pb, po + k * 5 + 2, none⟩ = some (.int .i64 x.1.2.2))) ∧ Ak w7 ga x wr.drew from ⟨⟨HA.out.old j0, HA.out.old j1, HA.out.old j2⟩, ⟨⟨cell_of HA.out.ab rfl, cell_of HA.out.ab rfl, cell_of HA.out.ab rfl, cell_of HA.out.ab rfl, cell_of HA.out.ab rfl⟩, ⟨HA.out.old hrow.1, HA.out.old hrow.2.1, HA.out.old hrow.2.2.1⟩⟩, HA.out.keep (Below.refl _ wr).drew⟩)
              have HKP := hid (fun (u y : World) (h : (u.cell? ⟨cb, co + m * 3, none⟩ = some (.int .i64 c.1) ∧ u.cell? ⟨cb, co + m * 3 + 1, none⟩ = some (.int .i64 c.2.1) ∧ u.cell? ⟨cb, co + m * 3 + 2, none⟩ = some (.int .i64 c.2.2)) ∧ ((u.cell? ⟨ga, 0, none⟩ = some (.int .i64 x.1.1) ∧ u.cell? ⟨ga, 1, none⟩ = some (.int .i64 x.1.2.1) ∧ u.cell? ⟨ga, 2, none⟩ = some (.int .i64 x.1.2.2) ∧ u.cell? ⟨ga, 3, none⟩ = some (.int .i64 x.2.1) ∧ u.cell? ⟨ga, 4, none⟩ = some (.int .i64 x.2.2)) ∧ (u.cell? ⟨pb, po + k * 5, none⟩ = some (.int .i64 x.1.1) ∧ u.cell? ⟨pb, po + k * 5 + 1, none⟩ = some (.int .i64 x.1.2.1) ∧ u.cell? ⟨pb, po + k * 5 + 2, none⟩ = some (.int .i64 x.1.2.2))) ∧ Ak w7 ga x u) (hb : Below u.heap.size u y) => show (y.cell? ⟨cb, co + m * 3, none⟩ = some (.int .i64 c.1) ∧ y.cell? ⟨cb, co + m * 3 + 1, none⟩ = some (.int .i64 c.2.1) ∧ y.cell? ⟨cb, co + m * 3 + 2, none⟩ = some (.int .i64 c.2.2)) ∧ ((y.cell? ⟨ga, 0, none⟩ = some (.int .i64 x.1.1) ∧ y.cell? ⟨ga, 1, none⟩ = some (.int .i64 x.1.2.1) ∧ y.cell? ⟨ga, 2, none⟩ = some (.int .i64 x.1.2.2) ∧ y.cell? ⟨ga, 3, none⟩ = some (.int .i64 x.2.1) ∧ y.cell? ⟨ga, 4, none⟩ = some (.int .i64 x.2.2)) ∧ (y.cell? ⟨pb, po + k * 5, none⟩ = some (.int .i64 x.1.1) ∧ y.cell? ⟨pb, po + k * 5 + 1, none⟩ = some (.int .i64 x.1.2.1) ∧ y.cell? ⟨pb, po + k * 5 + 2, none⟩ = some (.int .i64 x.1.2.2))) ∧ Ak w7 ga x y from ⟨⟨(h.2.2.keep hb).old j0, (h.2.2.keep hb).old j1, (h.2.2.keep hb).old j2⟩, ⟨⟨cell_of (h.2.2.keep hb).ab rfl, cell_of (h.2.2.keep hb).ab rfl, cell_of (h.2.2.keep hb).ab rfl, cell_of (h.2.2.keep hb).ab rfl, cell_of (h.2.2.keep hb).ab rfl⟩, ⟨(h.2.2.keep hb).old hrow.1, (h.2.2.keep hb).old hrow.2.1, (h.2.2.keep hb).old hrow.2.2.1⟩⟩, h.2.2.keep hb⟩)
              clear hc j0 j1 j2 hrow hcm hxm hxs hbo hbo2 hha
              cases bo
              · go_wp2_with fail
                go_region_held (fun y => (y.cell? ⟨cb, co + m * 3, none⟩ = some (.int .i64 c.1) ∧ y.cell? ⟨cb, co + m * 3 + 1, none⟩ = some (.int .i64 c.2.1) ∧ y.cell? ⟨cb, co + m * 3 + 2, none⟩ = some (.int .i64 c.2.2)) ∧ ((y.cell? ⟨ga, 0, none⟩ = some (.int .i64 x.1.1) ∧ y.cell? ⟨ga, 1, none⟩ = some (.int .i64 x.1.2.1) ∧ y.cell? ⟨ga, 2, none⟩ = some (.int .i64 x.1.2.2) ∧ y.cell? ⟨ga, 3, none⟩ = some (.int .i64 x.2.1) ∧ y.cell? ⟨ga, 4, none⟩ = some (.int .i64 x.2.2)) ∧ (y.cell? ⟨pb, po + k * 5, none⟩ = some (.int .i64 x.1.1) ∧ y.cell? ⟨pb, po + k * 5 + 1, none⟩ = some (.int .i64 x.1.2.1) ∧ y.cell? ⟨pb, po + k * 5 + 2, none⟩ = some (.int .i64 x.1.2.2))) ∧ Ak w7 ga x y) (first | exact HS0.out | (refine HKP.out _ _ ?_ ‹Below _ _ _›; assumption)) (first | (go_at_call 23; refine (HHA.out _).mono ?_; rintro e w4' ⟨rfl, b4⟩))
                have HA5 := hid (show Ak w7 ga x w4' by apply cv_of; assumption)
                clear HS0 HKP b4
                go_wp2_with fail
                go_roundw
                case rel => exact ⟨m + 1, by simp, by omega, HA5.out⟩
                case measure => simp [RowKit.intOf]; omega
              · go_wp2_with fail
                go_region_held (fun y => (y.cell? ⟨cb, co + m * 3, none⟩ = some (.int .i64 c.1) ∧ y.cell? ⟨cb, co + m * 3 + 1, none⟩ = some (.int .i64 c.2.1) ∧ y.cell? ⟨cb, co + m * 3 + 2, none⟩ = some (.int .i64 c.2.2)) ∧ ((y.cell? ⟨ga, 0, none⟩ = some (.int .i64 x.1.1) ∧ y.cell? ⟨ga, 1, none⟩ = some (.int .i64 x.1.2.1) ∧ y.cell? ⟨ga, 2, none⟩ = some (.int .i64 x.1.2.2) ∧ y.cell? ⟨ga, 3, none⟩ = some (.int .i64 x.2.1) ∧ y.cell? ⟨ga, 4, none⟩ = some (.int .i64 x.2.2)) ∧ (y.cell? ⟨pb, po + k * 5, none⟩ = some (.int .i64 x.1.1) ∧ y.cell? ⟨pb, po + k * 5 + 1, none⟩ = some (.int .i64 x.1.2.1) ∧ y.cell? ⟨pb, po + k * 5 + 2, none⟩ = some (.int .i64 x.1.2.2))) ∧ Ak w7 ga x y) (first | exact HS0.out | (refine HKP.out _ _ ?_ ‹Below _ _ _›; assumption)) (first | (go_at_call 23; refine (HHA.out _).mono ?_; rintro e w4' ⟨rfl, b4⟩))
                have HA5 := hid (show Ak w7 ga x w4' by apply cv_of; assumption)
                clear HS0 HKP b4
                go_wp2_with fail
                go_roundw
                case rel => exact ⟨m + 1, by simp, by omega, HA5.out⟩
                case measure => simp [RowKit.intOf]; omega
            · obtain rfl : cn = m := by omega
              have hd3 : ((cn : Int) < (cn : Int)) = False := by rw [eq_iff_iff, iff_false]; omega
              have HBE := hid HA.out.low
              go_wp2_with fail
              go_roundw
              case rel => exact ⟨k + 1, by simp, by omega, HBE.out⟩
              case measure => simp [RowKit.intOf]; omega
    · obtain rfl : pn = i := by omega
      have hd1 : ((pn : Int) < (pn : Int)) = False := by rw [eq_iff_iff, iff_false]; omega
      go_wp2_with fail
      go_loopw [19, 20, 21] (fun iv kv nv y => ApEnd w7 A own on iv kv nv y) (fun _ _ nv _ => on - (RowKit.intOf nv).toNat)
      case atStart => exact ⟨0, rfl, rfl, rfl, by omega, HB.out⟩
      case round =>
        obtain ⟨n, rfl, rfl, rfl, hn, hb⟩ := hrel
        have HBN := hid hb
        obtain ⟨pk', hpk⟩ : ∃ pk', pk' = pN A own n := ⟨_, rfl⟩
        obtain ⟨qk', hqk⟩ : ∃ qk', qk' = qN A own n := ⟨_, rfl⟩
        rw [← hpk, ← hqk]
        have hpl := HPD.out.pLe n
        have hql := HPD.out.qLe n
        rw [← hpk, ← HPN.out] at hpl
        rw [← hqk, ← HQN.out] at hql
        have HPK := hid hpk
        have HQK := hid hqk
        clear hb hpk hqk HB
        by_cases hnn : n < on
        · obtain ⟨x, hx⟩ : ∃ x, own[n]? = some x := ⟨_, List.getElem?_eq_getElem (by rw [← HON.out]; omega)⟩
          have hst := HPD.out.step hx
          rw [← HPK.out, ← HQK.out] at hst
          obtain ⟨rfl, k0, k1, k2, k3, k4⟩ := HOW.out n x hx
          have r0 := old_cell HBN.out k0
          have r1 := old_cell HBN.out k1
          have r2 := old_cell HBN.out k2
          have r3 := old_cell HBN.out k3
          have r4 := old_cell HBN.out k4
          have hxm := List.mem_of_getElem? hx
          have hd2 : ((n : Int) < (on : Int)) = True := by rw [eq_iff_iff, iff_true]; omega
          clear k0 k1 k2 k3 k4
          rcases hst with ⟨h1, -, h3, h4⟩ | ⟨h1, h2, h3, h4, -⟩
          · obtain ⟨rfl, y0, y1, y2, y3, y4⟩ := HPW.out pk' x h1
            have hpp : pk' < pn := by rw [HPN.out]; exact (List.getElem?_eq_some_iff.1 h1).1
            have hd3 : ((pk' : Int) < (pn : Int)) = True := by rw [eq_iff_iff, iff_true]; omega
            have z0 := old_cell HBN.out y0
            have z1 := old_cell HBN.out y1
            have z2 := old_cell HBN.out y2
            have z3 := old_cell HBN.out y3
            have z4 := old_cell HBN.out y4
            have heq := fun w => eq_sp x x (HOS.out x hxm) (HOS.out x hxm) w
            rw [decide_eq_true rfl] at heq
            unfold spV at heq
            have H3 := hid h3
            have H4 := hid h4
            have gw : IntKind.i64.wrap ((pk' : Int) + 1) = (pk' : Int) + 1 := IntWalk.i64_in _ (by omega)
            clear y0 y1 y2 y3 y4 h1 h3 h4 hx hxm
            go_wp2_with fail
            go_quiet (fail)
            clear heq r0 r1 r2 r3 r4 z0 z1 z2 z3 z4
            go_wp2_with fail
            go_roundw
            case rel => exact ⟨n + 1, by simp, by rw [H3.out, HPK.out]; simp, by rw [H4.out, HQK.out], by omega, below_drewN HBN.out _⟩
            case measure => simp [RowKit.intOf]; omega
          · obtain ⟨rfl, j0, j1, j2⟩ := HQW.out qk' x.1 h1
            have hqq : qk' < qn := by rw [HQN.out]; exact (List.getElem?_eq_some_iff.1 h1).1
            have hd4 : ((qn : Int) ≤ (qk' : Int)) = False := by rw [eq_iff_iff, iff_false]; omega
            have u0 := old_cell HBN.out j0
            have u1 := old_cell HBN.out j1
            have u2 := old_cell HBN.out j2
            have heqA := fun w => eq_at x.1 x.1 (HOS.out x hxm).1 (HOS.out x hxm).1 w
            rw [decide_eq_true rfl] at heqA
            unfold atV at heqA
            have HEA := hid heqA
            have H3 := hid h3
            have H4 := hid h4
            have gw : IntKind.i64.wrap ((qk' : Int) + 1) = (qk' : Int) + 1 := IntWalk.i64_in _ (by omega)
            have HRU := hid (show (_ ∧ _ ∧ _ ∧ _ ∧ _) ∧ _ ∧ _ ∧ _ from ⟨⟨r0, r1, r2, r3, r4⟩, u0, u1, u2⟩)
            clear j0 j1 j2 h1 h3 h4 hx u0 u1 u2 heqA
            by_cases hpp : pk' < pn
            · obtain ⟨v, hv⟩ : ∃ v, P[pk']? = some v := ⟨_, List.getElem?_eq_getElem (by rw [← HPN.out]; omega)⟩
              obtain ⟨rfl, y0, y1, y2, y3, y4⟩ := HPW.out pk' v hv
              have hd3 : ((pk' : Int) < (pn : Int)) = True := by rw [eq_iff_iff, iff_true]; omega
              have z0 := old_cell HBN.out y0
              have z1 := old_cell HBN.out y1
              have z2 := old_cell HBN.out y2
              have z3 := old_cell HBN.out y3
              have z4 := old_cell HBN.out y4
              have heq := fun w => eq_sp v x (HPS.out v (List.mem_of_getElem? hv)) (HOS.out x hxm) w
              rw [decide_eq_false (fun e => h2 (by rw [hv, e]))] at heq
              unfold spV at heq
              clear y0 y1 y2 y3 y4 h2 hv hxm
              go_wp2_with fail
              go_quiet (fail)
              clear heq r0 r1 r2 r3 r4 z0 z1 z2 z3 z4
              have hru := HRU.out
              obtain ⟨⟨r0, r1, r2, r3, r4⟩, u0, u1, u2⟩ := hru
              have heqA := HEA.out
              clear r3 r4
              go_wp2_with fail
              go_quiet (fail)
              clear heqA r0 r1 r2 u0 u1 u2
              go_wp2_with fail
              go_roundw
              case rel => exact ⟨n + 1, by simp, by rw [H3.out, HPK.out], by rw [H4.out, HQK.out]; simp, by omega, below_drewN HBN.out _⟩
              case measure => simp [RowKit.intOf]; omega
            · have hd3 : ((pk' : Int) < (pn : Int)) = False := by rw [eq_iff_iff, iff_false]; omega
              clear h2 hxm r0 r1 r2 r3 r4
              go_wp2_with fail
              go_quiet (fail)
              have hru := HRU.out
              obtain ⟨⟨r0, r1, r2, -, -⟩, u0, u1, u2⟩ := hru
              have heqA := HEA.out
              go_wp2_with fail
              go_quiet (fail)
              clear heqA r0 r1 r2 u0 u1 u2
              go_wp2_with fail
              go_roundw
              case rel => exact ⟨n + 1, by simp, by rw [H3.out, HPK.out], by rw [H4.out, HQK.out]; simp, by omega, below_drewN HBN.out _⟩
              case measure => simp [RowKit.intOf]; omega
        · have hd2 : ((n : Int) < (on : Int)) = False := by rw [eq_iff_iff, iff_false]; omega
          have e1 : pk' = pn := by rw [HPK.out, HPN.out]; exact HPD.out.pEnd (by rw [← HON.out]; omega)
          have e2 : qk' = qn := by rw [HQK.out, HQN.out]; exact HPD.out.qEnd (by rw [← HON.out]; omega)
          subst e1 e2
          have HW := hid (HLW.out.trans (HBN.out.mono HLW.out.size))
          clear hpl hql
          go_wp2_with fail
          go_ret
          exact ⟨rfl, HW.out⟩
end Go.Proofs.YtmmknjpcffaidaaGreatDoor
