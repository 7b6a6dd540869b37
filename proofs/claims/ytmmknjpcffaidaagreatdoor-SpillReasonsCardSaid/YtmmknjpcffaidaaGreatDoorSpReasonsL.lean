/- The law SpillReasons: each spill that is blocked is so by the sheet's edge, by a cell, or by one ahead of it that is placed. Condition: utf8's tables lie as they were laid. -/
import Derived.Test.YtmmknjpcffaidaaGreatDoorSpLawS
namespace Go.Proofs.YtmmknjpcffaidaaGreatDoor
open Go.RowKit Go.Lib

theorem ex_next {α : Type} {l : List α} {i : Nat} {c : α} (h : l[i]? = some c) (F : α → Prop) : (∃ a, a ∈ l.take (i + 1) ∧ F a) ↔ (∃ a, a ∈ l.take i ∧ F a) ∨ F c := by
  obtain ⟨hi, e⟩ := List.getElem?_eq_some_iff.1 h
  rw [List.take_succ_eq_append_getElem hi, e]
  constructor
  · rintro ⟨a, ha, hf⟩
    rcases List.mem_append.1 ha with ha | ha
    · exact .inl ⟨a, ha, hf⟩
    · simp only [List.mem_singleton] at ha
      exact .inr (ha ▸ hf)
  · rintro (⟨a, ha, hf⟩ | hf)
    · exact ⟨a, List.mem_append_left _ ha, hf⟩
    · exact ⟨c, by simp, hf⟩
/-- why stays, or comes -/
def HW (b0 : Bool) (X : Prop) (b : Bool) : Prop := b = true ↔ b0 = true ∨ X
theorem why_next {b0 b c : Bool} {X Y F : Prop} (hy : Y ↔ X ∨ F) (hw : b = true ↔ b0 = true ∨ X) (hb : c = true ↔ F) (hb0 : b = false := by rfl) : HW b0 Y c := by
  unfold HW
  rw [hy, ← or_assoc, ← hw, hb, hb0]
  simp
theorem why_on {b0 : Bool} {X Y F : Prop} (hy : Y ↔ X ∨ F) (hw : true = true ↔ b0 = true ∨ X) : HW b0 Y true := by
  unfold HW
  rw [hy, ← or_assoc, ← hw]
  simp
/-- what a cell, or one that is placed, says of why -/
def whyC (x : PSp) (c : PAt) : Prop := c ≠ x.1 ∧ hasP x c
def whyP (x : PSp) (y : PSp) : Prop := meetP x y ∧ aheadP y.1 x.1
theorem whyP_iff {x v : PSp} {mb ab : Bool} (h1 : mb = decide (meetP x v)) (h2 : ab = decide (aheadP v.1 x.1)) : whyP x v ↔ (mb && ab) = true := by
  rw [h1, h2]
  simp [whyP]
def RsRel (w : World) (A : List PAt) (own : List PSp) (on : Nat) (kv nv : Value) (wr : World) : Prop := ∃ n : Nat, nv = .int .i64 (n : Int) ∧ kv = .int .i64 ((qN A own n : Nat) : Int) ∧ n ≤ on ∧ Below w.heap.size w wr
def WhRel {α : Type} (w : World) (ga : Nat) (x : PSp) (b0 : Bool) (F : α → Prop) (l : List α) (m : Nat) (bv iv : Value) (wr : World) : Prop := ∃ (i : Nat) (b : Bool), iv = .int .i64 (i : Int) ∧ bv = .bool b ∧ i ≤ m ∧ (b = true ↔ b0 = true ∨ ∃ a, a ∈ l.take i ∧ F a) ∧ Ak w ga x wr

set_option maxRecDepth 100000 in
set_option maxHeartbeats 8000000 in
theorem reasons_any (w : World) (hT : Tabs w) (lv sv : Value) (L : List PAt) (z : List (Int × Int)) (hl : AtsIn w lv L) (hL : ∀ p, p ∈ L → SmallAt p) (hz : PairsIn w sv z) (hZ : ∀ n, n ∈ z → SmallPair n) :
    Calls Tryz.prog 5 #[lv, sv] w fun e w' => e = .returned (.bool true) ∧ Below w.heap.size w w' := by
  obtain ⟨A, hA⟩ : ∃ A, A = atsOf L := ⟨_, rfl⟩
  have HBO := hid (fun (y : World) (hb : Below w.heap.size w y) => by have := book_any y lv L (hl.below hb) hL; rwa [← hA] at this)
  have HSP := hid (fun (y : World) (hb : Below w.heap.size w y) => by have := spills_any y lv sv L z (hl.below hb) hL (hz.below hb) hZ; rwa [← hA] at this)
  have hok := atsOf_ok L
  have hpd := pd_of L z
  rw [← hA] at hok hpd
  obtain ⟨own, hown⟩ : ∃ own, own = ownOf A z := ⟨_, rfl⟩
  rw [← hown] at HSP hpd
  have HMAY := hid (show mayP A own by rw [hown]; exact own_mayP hok.rising z)
  have hsml : ∀ x, x ∈ own → SmallSp x := by rw [hown]; exact small_ownOf hok.two hok.rising z
  have HLEN := hid (show own.length ≤ 12 by rw [hown]; exact Nat.le_trans (ownOf_ok hok.rising z).few hok.few)
  have HPS := hid (small_placed (T := fun p => p ∈ A) hsml)
  have HQS := hid (small_blocked (T := fun p => p ∈ A) hsml)
  have HOS := hid hsml
  have HCS := hid (show ∀ c, c ∈ A → SmallAt c from fun c hc => small_two (hok.two c hc))
  have HALEN := hid hok.few
  have HPD := hid hpd
  have HAW := hid (awake_any w hT)
  have HT := hid hT
  obtain ⟨la, ln, lc, rfl⟩ : ∃ a n c, lv = .slice a n c := by obtain ⟨a, c, _, _, e, _⟩ := hl.view; exact ⟨_, _, _, e⟩
  obtain ⟨za, zn, zc, rfl⟩ : ∃ a n c, sv = .slice a n c := by obtain ⟨a, c, _, _, e, _⟩ := hz.view; exact ⟨_, _, _, e⟩
  clear hl hL hz hZ hA hok hown hT hpd hsml
  go_enter Tryz.func5, Tryz.ntmps5
  go_wp2_with fail
  refine HAW.out.mono ?_
  rintro e w1 ⟨rfl, b1⟩
  have HB1 := hid b1
  clear b1 HAW
  go_wp2_with fail
  refine (HBO.out _ HB1.out).mono ?_
  rintro e w2 ⟨⟨bv, rfl, hbk⟩, b2⟩
  have HB2 := hid (HB1.out.trans (b2.mono HB1.out.size))
  have HBK := hid hbk
  obtain ⟨⟨b, off, v0, v1, rfl, -⟩, -⟩ := hbk
  clear b2
  go_wp2_with fail
  have bA := (Below.refl w2.heap.size w2).alloc (Nat.le_refl _) (.cells #[.slice (some ⟨b, off, none⟩) 2 2, .slice none 0 0, .slice none 0 0, .slice none 0 0] 35)
  have gA := heap_alloc_new w2 (.cells #[.slice (some ⟨b, off, none⟩) 2 2, .slice none 0 0, .slice none 0 0, .slice none 0 0] 35)
  obtain ⟨g, hg⟩ : ∃ g, g = w2.heap.size := ⟨_, rfl⟩
  have L3 : Lw w (.agg #[.slice (some ⟨b, off, none⟩) 2 2, .slice none 0 0, .slice none 0 0, .slice none 0 0]) #[.slice (some ⟨b, off, none⟩) 2 2, .slice none 0 0, .slice none 0 0, .slice none 0 0] A g (w2.alloc (.cells #[.slice (some ⟨b, off, none⟩) 2 2, .slice none 0 0, .slice none 0 0, .slice none 0 0] 35)) := ⟨by rw [hg]; exact gA, HBK.out.below bA, (HT.out.below HB2.out).below bA, HB2.out.trans (bA.mono HB2.out.size)⟩
  rw [← hg]
  generalize World.alloc _ _ = w3 at L3 ⊢
  have HL3 := hid L3
  clear bA gA hg L3 HBK HB2 HB1
  refine (HSP.out _ HL3.out.low).mono ?_
  rintro e w4 ⟨⟨ov, rfl, ho, hcap⟩, b4⟩
  have HL4 := hid (HL3.out.keep b4)
  have HO4 := hid ho
  obtain ⟨oa, oc, _, _, rfl, -⟩ := ho.view
  obtain ⟨on, hon⟩ : ∃ on, on = own.length := ⟨_, rfl⟩
  rw [← hon] at HO4 ⊢
  have HON := hid hon
  clear b4 ho hon hcap HL3 HSP HBO
  have b0 := cell_of (i := 0) HL4.out.b rfl
  have b1 := cell_of (i := 1) HL4.out.b rfl
  have b2 := cell_of (i := 2) HL4.out.b rfl
  have b3 := cell_of (i := 3) HL4.out.b rfl
  go_wp2_with fail
  clear b0 b1 b2 b3
  refine (place_yes _ HL4.out.tabs _ _ A one1 own HL4.out.bk (HON.out ▸ HO4.out) HMAY.out (by have := HLEN.out; omega)).mono ?_
  rintro e w6 ⟨⟨pv, qv, rfl, hp, hq, hpc, hqc⟩, b6⟩
  have HL6 := hid (HL4.out.keep b6)
  have HO6 := hid (HO4.out.below b6)
  obtain ⟨P, hP⟩ : ∃ P, P = (placeP (fun p => p ∈ A) own).1 := ⟨_, rfl⟩
  obtain ⟨Q, hQ⟩ : ∃ Q, Q = (placeP (fun p => p ∈ A) own).2 := ⟨_, rfl⟩
  rw [← hP] at hp HPS HPD
  rw [← hQ] at hq HQS HPD
  have HP6 := hid hp
  have HQ6 := hid hq
  obtain ⟨pa, pc, _, _, rfl, -⟩ := hp.view
  obtain ⟨qa, qc, _, _, rfl, -⟩ := hq.view
  obtain ⟨pn, hpn⟩ : ∃ pn, pn = P.length := ⟨_, rfl⟩
  obtain ⟨qn, hqn⟩ : ∃ qn, qn = Q.length := ⟨_, rfl⟩
  rw [← hpn] at HP6 ⊢
  rw [← hqn] at HQ6 ⊢
  have HPN := hid hpn
  have HQN := hid hqn
  clear hp hq hpc hqc b6 hpn hqn hP hQ HL4 HO4
  have b0 := cell_of (i := 0) HL6.out.b rfl
  have b1 := cell_of (i := 1) HL6.out.b rfl
  have b2 := cell_of (i := 2) HL6.out.b rfl
  have b3 := cell_of (i := 3) HL6.out.b rfl
  go_wp2_with fail
  clear b0 b1 b2 b3
  refine (cells_any _ HL6.out.tabs _ A one1 HL6.out.bk).mono ?_
  rintro e w7 ⟨⟨cv, rfl, hc⟩, b7⟩
  have HLW := hid (HL6.out.keep b7).low
  have hov := (HO6.out.below b7).view
  have hpv := (HP6.out.below b7).view
  have hqv := (HQ6.out.below b7).view
  have hcv := hc.view
  obtain ⟨ca, cc, cb, co, rfl, hcl, hcw⟩ := hcv
  obtain ⟨_, _, ob, oo, eo, hol, how⟩ := hov
  obtain ⟨_, _, pb, po, ep, hpl, hpw⟩ := hpv
  obtain ⟨_, _, qb, qo, eq', hql, hqw⟩ := hqv
  injection eo with eo1 eo2 eo3
  injection ep with ep1 ep2 ep3
  injection eq' with eq1 eq2 eq3
  subst eo1 eo3 ep1 ep3 eq1 eq3
  obtain ⟨cn, hcn⟩ : ∃ cn, cn = A.length := ⟨_, rfl⟩
  rw [← hcn] at ⊢
  have HCN := hid hcn
  have HOW := hid how
  have HPW := hid hpw
  have HQW := hid hqw
  have HCW := hid hcw
  have hsum : (pn : Int) + (qn : Int) = (on : Int) := by have h1 := HPD.out.sum; rw [← HPN.out, ← HQN.out, ← HON.out] at h1; omega
  have hon12 : on ≤ 12 := by rw [HON.out]; exact HLEN.out
  have hpn12 : pn ≤ 12 := by omega
  have hqn12 : qn ≤ 12 := by omega
  have hcn12 : cn ≤ 12 := by rw [HCN.out]; exact HALEN.out
  clear hc how hpw hqw hcw hcl hol hpl hql eo2 ep2 eq2 b7 hcn HL6 HO6 HP6 HQ6
  go_wp2_with fail
  go_loopw [13, 14] (fun kv nv y => RsRel w7 A own on kv nv y) (fun _ nv _ => on - (RowKit.intOf nv).toNat)
  case atStart => exact ⟨0, rfl, rfl, by omega, Below.refl _ _⟩
  case round =>
    obtain ⟨n, rfl, rfl, hn, hb⟩ := hrel
    have HB := hid hb
    obtain ⟨kq, hkq⟩ : ∃ kq, kq = qN A own n := ⟨_, rfl⟩
    rw [← hkq]
    have hql := HPD.out.qLe n
    rw [← hkq, ← HQN.out] at hql
    have HKQ := hid hkq
    clear hb hkq
    by_cases hnn : n < on
    · have hd1 : ((n : Int) < (on : Int)) = True := by rw [eq_iff_iff, iff_true]; omega
      by_cases hqq : kq < qn
      · have hd2 : ((kq : Int) < (qn : Int)) = True := by rw [eq_iff_iff, iff_true]; omega
        obtain ⟨x, hx⟩ : ∃ x, own[n]? = some x := ⟨_, List.getElem?_eq_getElem (by rw [← HON.out]; omega)⟩
        obtain ⟨q, hq⟩ : ∃ q, Q[kq]? = some q := ⟨_, List.getElem?_eq_getElem (by rw [← HQN.out]; omega)⟩
        have hst := HPD.out.step hx
        rw [← HKQ.out] at hst
        obtain ⟨rfl, k0, k1, k2, k3, k4⟩ := HOW.out n x hx
        obtain ⟨rfl, j0, j1, j2⟩ := HQW.out kq q hq
        have r0 := old_cell HB.out k0
        have r1 := old_cell HB.out k1
        have r2 := old_cell HB.out k2
        have r3 := old_cell HB.out k3
        have r4 := old_cell HB.out k4
        have u0 := old_cell HB.out j0
        have u1 := old_cell HB.out j1
        have u2 := old_cell HB.out j2
        have hxm := List.mem_of_getElem? hx
        have HSX := hid (HOS.out x hxm).1
        have HSQ := hid (HQS.out q (List.mem_of_getElem? hq))
        have HROW := hid (show _ ∧ _ ∧ _ from ⟨k0, k1, k2⟩)
        clear k0 k1 k2 k3 k4 j0 j1 j2
        rcases hst with ⟨-, h2, -, h4⟩ | ⟨h1, -, -, h4, h5⟩
        · have hne : ¬ x.1 = q := fun e => h2 (by rw [hq, e])
          have heq := eqat_sp x.1 q HSX.out HSQ.out (decide_eq_false hne).symm
          have H4 := hid h4
          clear h2 h4 hne hx hq hxm HROW
          go_wp2_with fail
          go_quiet (fail)
          clear heq r0 r1 r2 r3 r4 u0 u1 u2
          go_wp2_with fail
          go_roundw
          case rel => exact ⟨n + 1, by simp, by rw [H4.out, HKQ.out], by omega, below_drewN HB.out _⟩
          case measure => simp [RowKit.intOf]; omega
        · have hxq : x.1 = q := by rw [h1] at hq; exact Option.some.inj hq
          have heq := eqat_sp x.1 q HSX.out HSQ.out (decide_eq_true hxq).symm
          have hsz := HPD.out.size x hxm
          have hin := HPD.out.two _ (HPD.out.here x hxm)
          unfold InTwo at hin
          have H4 := hid h4
          have H5 := hid h5
          have HXM := hid hxm
          have HAR := hid area_sp
          have gw : IntKind.i64.wrap ((kq : Int) + 1) = (kq : Int) + 1 := IntWalk.i64_in _ (by omega)
          have gw1 : IntKind.i64.wrap (x.1.2.1 + x.2.1) = x.1.2.1 + x.2.1 := IntWalk.i64_in _ (by omega)
          have gw2 : IntKind.i64.wrap (x.1.2.2 + x.2.2) = x.1.2.2 + x.2.2 := IntWalk.i64_in _ (by omega)
          clear h1 h4 h5 hxq hx hq hxm hsz hin
          go_wp2_with fail
          go_quiet (fail)
          clear heq u0 u1 u2
          go_wp2_with fail
          refine (HAR.out x _).mono ?_
          rintro e w8 ⟨rfl, b8⟩
          have HB8 := hid ((below_drewN HB.out nq).trans (b8.mono (below_drewN HB.out nq).size))
          clear r0 r1 r2 r3 r4 b8
          have hak := Ak.new (x := x) HB8.out
          by_cases c1 : 200 < x.1.2.1 + x.2.1
          · have hc1 : (200 < x.1.2.1 + x.2.1) = True := by rw [eq_iff_iff, iff_true]; exact c1
            have HW0 := hid (show true = true ↔ (200 < x.1.2.1 + x.2.1 ∨ 52 < x.1.2.2 + x.2.2) by simp [c1])
            clear c1
            go_wp2_with fail
            obtain ⟨ga, hga⟩ : ∃ ga, ga = w8.heap.size := ⟨_, rfl⟩
            rw [← hga] at hak ⊢
            generalize World.alloc _ _ = w9 at hak ⊢
            have HAK := hid hak
            clear hak hga HB8 gw1 gw2 hc1
            go_loopw [16, 17] (fun bv iv y => WhRel w7 ga x true (whyC x) A cn bv iv y) (fun _ iv _ => cn - (RowKit.intOf iv).toNat)
            case atStart => exact ⟨0, true, rfl, rfl, by omega, by simp, HAK.out⟩
            case round =>
              obtain ⟨i, b, rfl, rfl, hi, hw, hak⟩ := hrel
              obtain rfl : b = true := hw.2 (.inl rfl)
              have HA := hid hak
              have HWB := hid hw
              clear hak hw HAK
              by_cases hin : i < cn
              · obtain ⟨c, hc⟩ : ∃ c, A[i]? = some c := ⟨_, List.getElem?_eq_getElem (by rw [← HCN.out]; omega)⟩
                obtain ⟨rfl, j0, j1, j2⟩ := HCW.out i c hc
                have hd3 : ((i : Int) < (cn : Int)) = True := by rw [eq_iff_iff, iff_true]; omega
                have hcm := List.mem_of_getElem? hc
                have HEX := hid (ex_next hc (whyC x))
                have hrow := HROW.out
                have HSC := hid (HCS.out c hcm)
                clear hrow hcm hc j0 j1 j2
                go_wp2_with fail
                go_quiet (fail)
                go_wp2_with fail
                go_roundw
                case rel => exact ⟨i + 1, true, by simp, rfl, by omega, by simp, HA.out.keep (below_drewN (Below.refl _ _) _)⟩
                case measure => simp [RowKit.intOf]; omega
              · obtain rfl : cn = i := by omega
                have hd3 : ((cn : Int) < (cn : Int)) = False := by rw [eq_iff_iff, iff_false]; omega
                clear HWB
                go_wp2_with fail
                go_loopw [16, 18] (fun bv iv y => WhRel w7 ga x true (whyP x) P pn bv iv y) (fun _ iv _ => pn - (RowKit.intOf iv).toNat)
                case atStart => exact ⟨0, true, rfl, rfl, by omega, by simp, HA.out⟩
                case round =>
                  obtain ⟨i, b', rfl, rfl, hi, hw, hak⟩ := hrel
                  obtain rfl : b' = true := hw.2 (.inl rfl)
                  have HWB := hid hw
                  clear HA hw
                  have HA := hid hak
                  clear hak
                  by_cases hin : i < pn
                  · obtain ⟨v, hv⟩ : ∃ v, P[i]? = some v := ⟨_, List.getElem?_eq_getElem (by rw [← HPN.out]; omega)⟩
                    obtain ⟨rfl, k0, k1, k2, k3, k4⟩ := HPW.out i v hv
                    have hd3 : ((i : Int) < (pn : Int)) = True := by rw [eq_iff_iff, iff_true]; omega
                    have HEX := hid (ex_next hv (whyP x))
                    obtain ⟨mb, hmb⟩ : ∃ mb, mb = decide (meetP x v) := ⟨_, rfl⟩
                    obtain ⟨ab, hab⟩ : ∃ ab, ab = decide (aheadP v.1 x.1) := ⟨_, rfl⟩
                    have HME := hid (meet_sp x v hmb)
                    have HAH := hid (ahead_sp v.1 x.1 hab)
                    have HFX := hid (whyP_iff hmb hab)
                    have HKB := hid (show ∀ y : World, Ak w7 ga x y → (y.cell? ⟨pb, po + i * 5, none⟩ = some (.int .i64 v.1.1) ∧ y.cell? ⟨pb, po + i * 5 + 1, none⟩ = some (.int .i64 v.1.2.1) ∧ y.cell? ⟨pb, po + i * 5 + 2, none⟩ = some (.int .i64 v.1.2.2)) ∧ (y.cell? ⟨ob, oo + n * 5, none⟩ = some (.int .i64 x.1.1) ∧ y.cell? ⟨ob, oo + n * 5 + 1, none⟩ = some (.int .i64 x.1.2.1) ∧ y.cell? ⟨ob, oo + n * 5 + 2, none⟩ = some (.int .i64 x.1.2.2)) ∧ Ak w7 ga x y from fun y h => ⟨⟨h.old k0, h.old k1, h.old k2⟩, ⟨h.old HROW.out.1, h.old HROW.out.2.1, h.old HROW.out.2.2⟩, h⟩)
                    clear hmb hab
                    have HKA := hid (fun (y : World) (h : Ak w7 ga x y) => show (y.cell? ⟨ga, 0, none⟩ = some (.int .i64 x.1.1) ∧ y.cell? ⟨ga, 1, none⟩ = some (.int .i64 x.1.2.1) ∧ y.cell? ⟨ga, 2, none⟩ = some (.int .i64 x.1.2.2) ∧ y.cell? ⟨ga, 3, none⟩ = some (.int .i64 x.2.1) ∧ y.cell? ⟨ga, 4, none⟩ = some (.int .i64 x.2.2)) ∧ (y.cell? ⟨pb, po + i * 5, none⟩ = some (.int .i64 v.1.1) ∧ y.cell? ⟨pb, po + i * 5 + 1, none⟩ = some (.int .i64 v.1.2.1) ∧ y.cell? ⟨pb, po + i * 5 + 2, none⟩ = some (.int .i64 v.1.2.2) ∧ y.cell? ⟨pb, po + i * 5 + 3, none⟩ = some (.int .i64 v.2.1) ∧ y.cell? ⟨pb, po + i * 5 + 4, none⟩ = some (.int .i64 v.2.2)) ∧ Ak w7 ga x y from ⟨⟨cell_of h.ab rfl, cell_of h.ab rfl, cell_of h.ab rfl, cell_of h.ab rfl, cell_of h.ab rfl⟩, ⟨h.old k0, h.old k1, h.old k2, h.old k3, h.old k4⟩, h⟩)
                    have HS0 := hid (HKA.out wr.drew (HA.out.keep (Below.refl _ wr).drew))
                    clear hv k0 k1 k2 k3 k4
                    go_wp2_with fail
                    go_region_held (fun y => (y.cell? ⟨ga, 0, none⟩ = some (.int .i64 x.1.1) ∧ y.cell? ⟨ga, 1, none⟩ = some (.int .i64 x.1.2.1) ∧ y.cell? ⟨ga, 2, none⟩ = some (.int .i64 x.1.2.2) ∧ y.cell? ⟨ga, 3, none⟩ = some (.int .i64 x.2.1) ∧ y.cell? ⟨ga, 4, none⟩ = some (.int .i64 x.2.2)) ∧ (y.cell? ⟨pb, po + i * 5, none⟩ = some (.int .i64 v.1.1) ∧ y.cell? ⟨pb, po + i * 5 + 1, none⟩ = some (.int .i64 v.1.2.1) ∧ y.cell? ⟨pb, po + i * 5 + 2, none⟩ = some (.int .i64 v.1.2.2) ∧ y.cell? ⟨pb, po + i * 5 + 3, none⟩ = some (.int .i64 v.2.1) ∧ y.cell? ⟨pb, po + i * 5 + 4, none⟩ = some (.int .i64 v.2.2)) ∧ Ak w7 ga x y) (first | with_reducible exact HS0.out | with_reducible exact HKA.out w5' HA5.out | with_reducible exact HKA.out w4' HA4.out | with_reducible exact HKA.out _ HA.out.ald | with_reducible exact HKA.out _ HA.out.dal | with_reducible exact HKA.out _ HA4.out.al | with_reducible exact HKA.out _ HA5.out.al | with_reducible exact HKA.out _ (HA5.out.store5 (Nat.ne_of_gt (heap_lt HA4.out.ab)) HA4.out.low.size) | with_reducible exact HKA.out _ (HA5.out.store5 (Nat.ne_of_gt (heap_lt HA.out.ab)) HA.out.low.size))
                      (first | (go_at_call 21; refine (HAR.out v _).mono ?_; rintro e w4' ⟨rfl, b4⟩; have HA4 := hid (show Ak w7 ga x w4' from Ak.keep (by apply cv_of; assumption) b4); (first | (with_reducible have HZ4 := hid (zer_dnew b4)) | (with_reducible have HZ4 := hid (zer_newd b4)) | skip)) | (go_at_call 22; refine (HME.out _).mono ?_; rintro e w5' ⟨⟨z', rfl⟩, b5⟩; have HA5 := hid (show Ak w7 ga x w5' from Ak.keep (by apply cv_of; assumption) b5); (first | (have HZ := hid ((b5.block _ (heap_lt HZ4.out)).trans HZ4.out); have f0 := free_of (i := 0) HZ.out; have d0 := cell_of (i := 0) HZ.out rfl; have f1 := free_of (i := 1) HZ.out; have d1 := cell_of (i := 1) HZ.out rfl; have f2 := free_of (i := 2) HZ.out; have d2 := cell_of (i := 2) HZ.out rfl; have f3 := free_of (i := 3) HZ.out; have d3 := cell_of (i := 3) HZ.out rfl; have f4 := free_of (i := 4) HZ.out; have d4 := cell_of (i := 4) HZ.out rfl) | (with_reducible have HZ := hid (zer_new b5); have f0 := free_of (i := 0) HZ.out; have d0 := cell_of (i := 0) HZ.out rfl; have f1 := free_of (i := 1) HZ.out; have d1 := cell_of (i := 1) HZ.out rfl; have f2 := free_of (i := 2) HZ.out; have d2 := cell_of (i := 2) HZ.out rfl; have f3 := free_of (i := 3) HZ.out; have d3 := cell_of (i := 3) HZ.out rfl; have f4 := free_of (i := 4) HZ.out; have d4 := cell_of (i := 4) HZ.out rfl) | skip)))
                    all_goals
                      have HA6 := hid (cv_of ‹_ ∧ _ ∧ Ak w7 ga x _›)
                      clear ‹_ ∧ _ ∧ Ak w7 ga x _›
                      go_wp2_with fail
                      have HS1 := hid (HKB.out _ (HA6.out.keep (Below.refl _ _).drew))
                      go_region_held (fun y => (y.cell? ⟨pb, po + i * 5, none⟩ = some (.int .i64 v.1.1) ∧ y.cell? ⟨pb, po + i * 5 + 1, none⟩ = some (.int .i64 v.1.2.1) ∧ y.cell? ⟨pb, po + i * 5 + 2, none⟩ = some (.int .i64 v.1.2.2)) ∧ (y.cell? ⟨ob, oo + n * 5, none⟩ = some (.int .i64 x.1.1) ∧ y.cell? ⟨ob, oo + n * 5 + 1, none⟩ = some (.int .i64 x.1.2.1) ∧ y.cell? ⟨ob, oo + n * 5 + 2, none⟩ = some (.int .i64 x.1.2.2)) ∧ Ak w7 ga x y) (first | with_reducible exact HS1.out | with_reducible exact HKB.out w7' HA7.out) (first | (go_at_call 24; refine (HAH.out _).mono ?_; rintro e w7' ⟨rfl, b7⟩; have HA7 := hid (show Ak w7 ga x w7' from Ak.keep (by apply cv_of; with_reducible assumption) b7)))
                      clear b7 HS1 ‹_ ∧ _ ∧ Ak w7 ga x _›
                      go_wp2_with fail
                      go_roundw
                      case rel => exact ⟨i + 1, true, by simp, rfl, by omega, by simp, HA7.out⟩
                      case measure => simp [RowKit.intOf]; omega

                  · obtain rfl : pn = i := by omega
                    have hd3 : ((pn : Int) < (pn : Int)) = False := by rw [eq_iff_iff, iff_false]; omega
                    have HBE := hid HA.out.low
                    go_wp2_with fail
                    go_roundw
                    case rel => exact ⟨n + 1, by simp, by rw [H4.out, HKQ.out]; simp, by omega, HBE.out⟩
                    case measure => simp [RowKit.intOf]; omega
          · have hc1 : (200 < x.1.2.1 + x.2.1) = False := by rw [eq_iff_iff, iff_false]; exact c1
            obtain ⟨b0, hb0⟩ : ∃ b0, b0 = decide (52 < x.1.2.2 + x.2.2) := ⟨_, rfl⟩
            have hc2 : (52 < x.1.2.2 + x.2.2) = (b0 = true) := by rw [hb0]; simp
            have HW0 := hid (show b0 = true ↔ (200 < x.1.2.1 + x.2.1 ∨ 52 < x.1.2.2 + x.2.2) by rw [hb0]; simp [c1])
            clear c1 hb0
            go_wp2_with fail
            obtain ⟨ga, hga⟩ : ∃ ga, ga = w8.heap.size := ⟨_, rfl⟩
            rw [← hga] at hak ⊢
            generalize World.alloc _ _ = w9 at hak ⊢
            have HAK := hid hak
            clear hak hga HB8 gw1 gw2 hc1 hc2
            go_loopw [16, 17] (fun bv iv y => WhRel w7 ga x b0 (whyC x) A cn bv iv y) (fun _ iv _ => cn - (RowKit.intOf iv).toNat)
            case atStart => exact ⟨0, b0, rfl, rfl, by omega, by simp, HAK.out⟩
            case round =>
              obtain ⟨i, b, rfl, rfl, hi, hw, hak⟩ := hrel
              have HA := hid hak
              have HWB := hid hw
              clear hak hw HAK
              by_cases hin : i < cn
              · obtain ⟨c, hc⟩ : ∃ c, A[i]? = some c := ⟨_, List.getElem?_eq_getElem (by rw [← HCN.out]; omega)⟩
                obtain ⟨rfl, j0, j1, j2⟩ := HCW.out i c hc
                have hd3 : ((i : Int) < (cn : Int)) = True := by rw [eq_iff_iff, iff_true]; omega
                have hcm := List.mem_of_getElem? hc
                have HEX := hid (ex_next hc (whyC x))
                have hrow := HROW.out
                have HSC := hid (HCS.out c hcm)
                cases b with
                | true =>
                  have HRW := hid (why_on HEX.out HWB.out)
                  clear hrow hcm hc j0 j1 j2
                  go_wp2_with fail
                  go_quiet (fail)
                  go_wp2_with fail
                  go_roundw
                  case rel => exact ⟨i + 1, true, by simp, rfl, by omega, HRW.out, HA.out.keep (below_drewN (Below.refl _ _) _)⟩
                  case measure => simp [RowKit.intOf]; omega
                | false =>
                  by_cases he : c = x.1
                  · have HRW := hid (why_next (c := false) HEX.out HWB.out (by simp [whyC, he]))
                    have heq := eqat_sp c x.1 HSC.out HSX.out (decide_eq_true he).symm
                    have r0 := HA.out.old hrow.1
                    have r1 := HA.out.old hrow.2.1
                    have r2 := HA.out.old hrow.2.2
                    have v0 := HA.out.old j0
                    have v1 := HA.out.old j1
                    have v2 := HA.out.old j2
                    clear hrow hcm hc j0 j1 j2 he
                    go_wp2_with fail
                    go_quiet (fail)
                    clear heq r0 r1 r2 v0 v1 v2
                    go_wp2_with fail
                    go_roundw
                    case rel => exact ⟨i + 1, false, by simp, rfl, by omega, HRW.out, HA.out.keep (below_drewN (Below.refl _ _) _)⟩
                    case measure => simp [RowKit.intOf]; omega
                  · have heq := eqat_sp c x.1 HSC.out HSX.out (decide_eq_false he).symm
                    obtain ⟨bb, hbb⟩ : ∃ bb, bb = decide (hasP x c) := ⟨_, rfl⟩
                    have HHA := hid (has_sp x c hbb)
                    have HRW := hid (why_next (c := bb) HEX.out HWB.out (by rw [hbb]; simp [whyC, he]))
                    have HKA := hid (fun (y : World) (h : Ak w7 ga x y) => show (y.cell? ⟨cb, co + i * 3, none⟩ = some (.int .i64 c.1) ∧ y.cell? ⟨cb, co + i * 3 + 1, none⟩ = some (.int .i64 c.2.1) ∧ y.cell? ⟨cb, co + i * 3 + 2, none⟩ = some (.int .i64 c.2.2)) ∧ ((y.cell? ⟨ga, 0, none⟩ = some (.int .i64 x.1.1) ∧ y.cell? ⟨ga, 1, none⟩ = some (.int .i64 x.1.2.1) ∧ y.cell? ⟨ga, 2, none⟩ = some (.int .i64 x.1.2.2) ∧ y.cell? ⟨ga, 3, none⟩ = some (.int .i64 x.2.1) ∧ y.cell? ⟨ga, 4, none⟩ = some (.int .i64 x.2.2)) ∧ (y.cell? ⟨ob, oo + n * 5, none⟩ = some (.int .i64 x.1.1) ∧ y.cell? ⟨ob, oo + n * 5 + 1, none⟩ = some (.int .i64 x.1.2.1) ∧ y.cell? ⟨ob, oo + n * 5 + 2, none⟩ = some (.int .i64 x.1.2.2))) ∧ Ak w7 ga x y from ⟨⟨h.old j0, h.old j1, h.old j2⟩, ⟨⟨cell_of h.ab rfl, cell_of h.ab rfl, cell_of h.ab rfl, cell_of h.ab rfl, cell_of h.ab rfl⟩, ⟨h.old hrow.1, h.old hrow.2.1, h.old hrow.2.2⟩⟩, h⟩)
                    have HS0 := hid (HKA.out wr.drew (HA.out.keep (Below.refl _ wr).drew))
                    clear hrow hcm hc j0 j1 j2 he hbb
                    go_wp2_with fail
                    go_region_held (fun y => (y.cell? ⟨cb, co + i * 3, none⟩ = some (.int .i64 c.1) ∧ y.cell? ⟨cb, co + i * 3 + 1, none⟩ = some (.int .i64 c.2.1) ∧ y.cell? ⟨cb, co + i * 3 + 2, none⟩ = some (.int .i64 c.2.2)) ∧ ((y.cell? ⟨ga, 0, none⟩ = some (.int .i64 x.1.1) ∧ y.cell? ⟨ga, 1, none⟩ = some (.int .i64 x.1.2.1) ∧ y.cell? ⟨ga, 2, none⟩ = some (.int .i64 x.1.2.2) ∧ y.cell? ⟨ga, 3, none⟩ = some (.int .i64 x.2.1) ∧ y.cell? ⟨ga, 4, none⟩ = some (.int .i64 x.2.2)) ∧ (y.cell? ⟨ob, oo + n * 5, none⟩ = some (.int .i64 x.1.1) ∧ y.cell? ⟨ob, oo + n * 5 + 1, none⟩ = some (.int .i64 x.1.2.1) ∧ y.cell? ⟨ob, oo + n * 5 + 2, none⟩ = some (.int .i64 x.1.2.2))) ∧ Ak w7 ga x y) (first | with_reducible exact HS0.out | with_reducible exact HKA.out w4' HA5.out) (first | (go_at_call 23; refine (HHA.out _).mono ?_; rintro e w4' ⟨rfl, b4⟩; have HA5 := hid (show Ak w7 ga x w4' from Ak.keep (by apply cv_of; with_reducible assumption) b4)))
                    clear heq HS0 b4 ‹_ ∧ _ ∧ Ak w7 ga x _›
                    go_wp2_with fail
                    go_roundw
                    case rel => exact ⟨i + 1, bb, by simp, rfl, by omega, HRW.out, HA5.out⟩
                    case measure => simp [RowKit.intOf]; omega
              · obtain rfl : cn = i := by omega
                have hd3 : ((cn : Int) < (cn : Int)) = False := by rw [eq_iff_iff, iff_false]; omega
                have HWC := hid (show b = true ↔ b0 = true ∨ ∃ a, a ∈ A ∧ whyC x a by have h := HWB.out; rwa [List.take_of_length_le (by rw [← HCN.out]; omega)] at h)
                clear HWB
                go_wp2_with fail
                go_loopw [16, 18] (fun bv iv y => WhRel w7 ga x b (whyP x) P pn bv iv y) (fun _ iv _ => pn - (RowKit.intOf iv).toNat)
                case atStart => exact ⟨0, b, rfl, rfl, by omega, by simp, HA.out⟩
                case round =>
                  obtain ⟨i, b', rfl, rfl, hi, hw, hak⟩ := hrel
                  have HWB := hid hw
                  clear HA hw
                  have HA := hid hak
                  clear hak
                  by_cases hin : i < pn
                  · obtain ⟨v, hv⟩ : ∃ v, P[i]? = some v := ⟨_, List.getElem?_eq_getElem (by rw [← HPN.out]; omega)⟩
                    obtain ⟨rfl, k0, k1, k2, k3, k4⟩ := HPW.out i v hv
                    have hd3 : ((i : Int) < (pn : Int)) = True := by rw [eq_iff_iff, iff_true]; omega
                    have HEX := hid (ex_next hv (whyP x))
                    obtain ⟨mb, hmb⟩ : ∃ mb, mb = decide (meetP x v) := ⟨_, rfl⟩
                    obtain ⟨ab, hab⟩ : ∃ ab, ab = decide (aheadP v.1 x.1) := ⟨_, rfl⟩
                    have HME := hid (meet_sp x v hmb)
                    have HAH := hid (ahead_sp v.1 x.1 hab)
                    have HFX := hid (whyP_iff hmb hab)
                    have HKB := hid (show ∀ y : World, Ak w7 ga x y → (y.cell? ⟨pb, po + i * 5, none⟩ = some (.int .i64 v.1.1) ∧ y.cell? ⟨pb, po + i * 5 + 1, none⟩ = some (.int .i64 v.1.2.1) ∧ y.cell? ⟨pb, po + i * 5 + 2, none⟩ = some (.int .i64 v.1.2.2)) ∧ (y.cell? ⟨ob, oo + n * 5, none⟩ = some (.int .i64 x.1.1) ∧ y.cell? ⟨ob, oo + n * 5 + 1, none⟩ = some (.int .i64 x.1.2.1) ∧ y.cell? ⟨ob, oo + n * 5 + 2, none⟩ = some (.int .i64 x.1.2.2)) ∧ Ak w7 ga x y from fun y h => ⟨⟨h.old k0, h.old k1, h.old k2⟩, ⟨h.old HROW.out.1, h.old HROW.out.2.1, h.old HROW.out.2.2⟩, h⟩)
                    clear hmb hab
                    have HKA := hid (fun (y : World) (h : Ak w7 ga x y) => show (y.cell? ⟨ga, 0, none⟩ = some (.int .i64 x.1.1) ∧ y.cell? ⟨ga, 1, none⟩ = some (.int .i64 x.1.2.1) ∧ y.cell? ⟨ga, 2, none⟩ = some (.int .i64 x.1.2.2) ∧ y.cell? ⟨ga, 3, none⟩ = some (.int .i64 x.2.1) ∧ y.cell? ⟨ga, 4, none⟩ = some (.int .i64 x.2.2)) ∧ (y.cell? ⟨pb, po + i * 5, none⟩ = some (.int .i64 v.1.1) ∧ y.cell? ⟨pb, po + i * 5 + 1, none⟩ = some (.int .i64 v.1.2.1) ∧ y.cell? ⟨pb, po + i * 5 + 2, none⟩ = some (.int .i64 v.1.2.2) ∧ y.cell? ⟨pb, po + i * 5 + 3, none⟩ = some (.int .i64 v.2.1) ∧ y.cell? ⟨pb, po + i * 5 + 4, none⟩ = some (.int .i64 v.2.2)) ∧ Ak w7 ga x y from ⟨⟨cell_of h.ab rfl, cell_of h.ab rfl, cell_of h.ab rfl, cell_of h.ab rfl, cell_of h.ab rfl⟩, ⟨h.old k0, h.old k1, h.old k2, h.old k3, h.old k4⟩, h⟩)
                    have HS0 := hid (HKA.out wr.drew (HA.out.keep (Below.refl _ wr).drew))
                    clear hv k0 k1 k2 k3 k4
                    go_wp2_with fail
                    go_region_held (fun y => (y.cell? ⟨ga, 0, none⟩ = some (.int .i64 x.1.1) ∧ y.cell? ⟨ga, 1, none⟩ = some (.int .i64 x.1.2.1) ∧ y.cell? ⟨ga, 2, none⟩ = some (.int .i64 x.1.2.2) ∧ y.cell? ⟨ga, 3, none⟩ = some (.int .i64 x.2.1) ∧ y.cell? ⟨ga, 4, none⟩ = some (.int .i64 x.2.2)) ∧ (y.cell? ⟨pb, po + i * 5, none⟩ = some (.int .i64 v.1.1) ∧ y.cell? ⟨pb, po + i * 5 + 1, none⟩ = some (.int .i64 v.1.2.1) ∧ y.cell? ⟨pb, po + i * 5 + 2, none⟩ = some (.int .i64 v.1.2.2) ∧ y.cell? ⟨pb, po + i * 5 + 3, none⟩ = some (.int .i64 v.2.1) ∧ y.cell? ⟨pb, po + i * 5 + 4, none⟩ = some (.int .i64 v.2.2)) ∧ Ak w7 ga x y) (first | with_reducible exact HS0.out | with_reducible exact HKA.out w5' HA5.out | with_reducible exact HKA.out w4' HA4.out | with_reducible exact HKA.out _ HA.out.ald | with_reducible exact HKA.out _ HA.out.dal | with_reducible exact HKA.out _ HA4.out.al | with_reducible exact HKA.out _ HA5.out.al | with_reducible exact HKA.out _ (HA5.out.store5 (Nat.ne_of_gt (heap_lt HA4.out.ab)) HA4.out.low.size) | with_reducible exact HKA.out _ (HA5.out.store5 (Nat.ne_of_gt (heap_lt HA.out.ab)) HA.out.low.size))
                      (first | (go_at_call 21; refine (HAR.out v _).mono ?_; rintro e w4' ⟨rfl, b4⟩; have HA4 := hid (show Ak w7 ga x w4' from Ak.keep (by apply cv_of; assumption) b4); (first | (with_reducible have HZ4 := hid (zer_dnew b4)) | (with_reducible have HZ4 := hid (zer_newd b4)) | skip)) | (go_at_call 22; refine (HME.out _).mono ?_; rintro e w5' ⟨⟨z', rfl⟩, b5⟩; have HA5 := hid (show Ak w7 ga x w5' from Ak.keep (by apply cv_of; assumption) b5); (first | (have HZ := hid ((b5.block _ (heap_lt HZ4.out)).trans HZ4.out); have f0 := free_of (i := 0) HZ.out; have d0 := cell_of (i := 0) HZ.out rfl; have f1 := free_of (i := 1) HZ.out; have d1 := cell_of (i := 1) HZ.out rfl; have f2 := free_of (i := 2) HZ.out; have d2 := cell_of (i := 2) HZ.out rfl; have f3 := free_of (i := 3) HZ.out; have d3 := cell_of (i := 3) HZ.out rfl; have f4 := free_of (i := 4) HZ.out; have d4 := cell_of (i := 4) HZ.out rfl) | (with_reducible have HZ := hid (zer_new b5); have f0 := free_of (i := 0) HZ.out; have d0 := cell_of (i := 0) HZ.out rfl; have f1 := free_of (i := 1) HZ.out; have d1 := cell_of (i := 1) HZ.out rfl; have f2 := free_of (i := 2) HZ.out; have d2 := cell_of (i := 2) HZ.out rfl; have f3 := free_of (i := 3) HZ.out; have d3 := cell_of (i := 3) HZ.out rfl; have f4 := free_of (i := 4) HZ.out; have d4 := cell_of (i := 4) HZ.out rfl) | skip)))
                    all_goals
                      have HA6 := hid (cv_of ‹_ ∧ _ ∧ Ak w7 ga x _›)
                      clear ‹_ ∧ _ ∧ Ak w7 ga x _›
                      go_wp2_with fail
                      have HS1 := hid (HKB.out _ (HA6.out.keep (Below.refl _ _).drew))
                      go_region_held (fun y => (y.cell? ⟨pb, po + i * 5, none⟩ = some (.int .i64 v.1.1) ∧ y.cell? ⟨pb, po + i * 5 + 1, none⟩ = some (.int .i64 v.1.2.1) ∧ y.cell? ⟨pb, po + i * 5 + 2, none⟩ = some (.int .i64 v.1.2.2)) ∧ (y.cell? ⟨ob, oo + n * 5, none⟩ = some (.int .i64 x.1.1) ∧ y.cell? ⟨ob, oo + n * 5 + 1, none⟩ = some (.int .i64 x.1.2.1) ∧ y.cell? ⟨ob, oo + n * 5 + 2, none⟩ = some (.int .i64 x.1.2.2)) ∧ Ak w7 ga x y) (first | with_reducible exact HS1.out | with_reducible exact HKB.out w7' HA7.out) (first | (go_at_call 24; refine (HAH.out _).mono ?_; rintro e w7' ⟨rfl, b7⟩; have HA7 := hid (show Ak w7 ga x w7' from Ak.keep (by apply cv_of; with_reducible assumption) b7)))
                      clear b7 HS1 ‹_ ∧ _ ∧ Ak w7 ga x _›
                      cases b' with
                      | true =>
                        have HRW := hid (why_on HEX.out HWB.out)
                        go_wp2_with fail
                        go_roundw
                        case rel => exact ⟨i + 1, true, by simp, rfl, by omega, HRW.out, HA7.out⟩
                        case measure => simp [RowKit.intOf]; omega
                      | false =>
                        have HRW := hid (why_next (c := mb && ab) HEX.out HWB.out HFX.out.symm)
                        cases mb with
                        | true =>
                          go_wp2_with fail
                          go_roundw
                          case rel => exact ⟨i + 1, ab, by simp, rfl, by omega, HRW.out, HA7.out⟩
                          case measure => simp [RowKit.intOf]; omega
                        | false =>
                          go_wp2_with fail
                          go_roundw
                          case rel => exact ⟨i + 1, false, by simp, rfl, by omega, HRW.out, HA7.out⟩
                          case measure => simp [RowKit.intOf]; omega

                  · obtain rfl : pn = i := by omega
                    have hd3 : ((pn : Int) < (pn : Int)) = False := by rw [eq_iff_iff, iff_false]; omega
                    have hbt : b' = true := by
                      have h := HWB.out
                      rw [List.take_of_length_le (by rw [← HPN.out]; omega)] at h
                      refine h.2 ?_
                      rcases H5.out with h5 | ⟨c, h5, h6, h7⟩ | ⟨y, h5, h6⟩
                      · exact .inl (HWC.out.2 (.inl (HW0.out.2 h5)))
                      · exact .inl (HWC.out.2 (.inr ⟨c, h5, h6, h7⟩))
                      · exact .inr ⟨y, h5, h6⟩
                    subst hbt
                    have HBE := hid HA.out.low
                    go_wp2_with fail
                    go_roundw
                    case rel => exact ⟨n + 1, by simp, by rw [H4.out, HKQ.out]; simp, by omega, HBE.out⟩
                    case measure => simp [RowKit.intOf]; omega
      · obtain rfl : kq = qn := by omega
        have hd2 : ((kq : Int) < (kq : Int)) = False := by rw [eq_iff_iff, iff_false]; omega
        have HW := hid (HLW.out.trans (HB.out.mono HLW.out.size))
        go_wp2_with fail
        go_ret
        exact ⟨rfl, HW.out⟩
    · have hd1 : ((n : Int) < (on : Int)) = False := by rw [eq_iff_iff, iff_false]; omega
      have e2 : kq = qn := by rw [HKQ.out, HQN.out]; exact HPD.out.qEnd (by rw [← HON.out]; omega)
      subst e2
      have HW := hid (HLW.out.trans (HB.out.mono HLW.out.size))
      clear hql
      go_wp2_with fail
      go_ret
      exact ⟨rfl, HW.out⟩
end Go.Proofs.YtmmknjpcffaidaaGreatDoor
