/- The law SpillCover: a place is covered by the one spill whose area has it. Condition: utf8's tables lie as they were laid. -/
import Derived.Test.YtmmknjpcffaidaaGreatDoorSpMore
import Derived.Test.YtmmknjpcffaidaaGreatDoorSpLawP
namespace Go.Proofs.YtmmknjpcffaidaaGreatDoor
open Go.RowKit Go.Lib

theorem small_getD {P : List PSp} (h : ∀ x, x ∈ P → SmallSp x) (p : PAt) : SmallSp ((coverP P p).getD zeroSp) := by
  cases hc : coverP P p with
  | none => exact (by decide : SmallSp zeroSp)
  | some x => exact h x (List.mem_of_find?_eq_some hc)

/-- the memory of the law behind its first call of Cover: the place, the answer -/
structure Ckl (w : World) (gy gc : Nat) (yp : PAt) (cc : PSp) (y : World) : Prop where
  yb : y.heap[gy]? = some (.cells #[.int .i64 yp.1, .int .i64 yp.2.1, .int .i64 yp.2.2] 25 (0, 0))
  cb : y.heap[gc]? = some (.cells #[.int .i64 cc.1.1, .int .i64 cc.1.2.1, .int .i64 cc.1.2.2, .int .i64 cc.2.1, .int .i64 cc.2.2] 27 (0, 0))
  low : Below w.heap.size w y
theorem Ckl.keep {w y z : World} {gy gc : Nat} {yp : PAt} {cc : PSp} (h : Ckl w gy gc yp cc y) (hb : Below y.heap.size y z) : Ckl w gy gc yp cc z :=
  ⟨(hb.block _ (heap_lt h.yb)).trans h.yb, (hb.block _ (heap_lt h.cb)).trans h.cb, h.low.trans (hb.mono h.low.size)⟩
def ClRel (w : World) (gy gc : Nat) (yp : PAt) (cc : PSp) (P : List PSp) (nv iv : Value) (wr : World) : Prop := ∃ i : Nat, iv = .int .i64 (i : Int) ∧ nv = .int .i64 ((manyP (P.take i) yp : Nat) : Int) ∧ i ≤ P.length ∧ Ckl w gy gc yp cc wr
/-- a spill's cells, a place's cells -/
def ScC (y : World) (rb ro : Nat) (x : PSp) : Prop := y.cell? ⟨rb, ro, none⟩ = some (.int .i64 x.1.1) ∧ y.cell? ⟨rb, ro + 1, none⟩ = some (.int .i64 x.1.2.1) ∧ y.cell? ⟨rb, ro + 2, none⟩ = some (.int .i64 x.1.2.2) ∧ y.cell? ⟨rb, ro + 3, none⟩ = some (.int .i64 x.2.1) ∧ y.cell? ⟨rb, ro + 4, none⟩ = some (.int .i64 x.2.2)
theorem ck_keep {w y z : World} {gy gc : Nat} {yp : PAt} {cc : PSp} {a b c d e f g h : Addr} {u1 u2 u3 u4 u5 u6 u7 u8 : Value} (hS : (y.cell? a = some u1 ∧ y.cell? b = some u2 ∧ y.cell? c = some u3) ∧ (y.cell? d = some u4 ∧ y.cell? e = some u5 ∧ y.cell? f = some u6 ∧ y.cell? g = some u7 ∧ y.cell? h = some u8) ∧ Ckl w gy gc yp cc y) (hb : Below y.heap.size y z) :
    (z.cell? a = some u1 ∧ z.cell? b = some u2 ∧ z.cell? c = some u3) ∧ (z.cell? d = some u4 ∧ z.cell? e = some u5 ∧ z.cell? f = some u6 ∧ z.cell? g = some u7 ∧ z.cell? h = some u8) ∧ Ckl w gy gc yp cc z := by
  have k : ∀ {p : Addr} {u : Value}, y.cell? p = some u → z.cell? p = some u := fun {p u} hc => (hb.cell (World.block_lt_of_cell? _ _ hc)).trans hc
  obtain ⟨⟨h1, h2, h3⟩, ⟨h4, h5, h6, h7, h8⟩, h9⟩ := hS
  exact ⟨⟨k h1, k h2, k h3⟩, ⟨k h4, k h5, k h6, k h7, k h8⟩, h9.keep hb⟩

set_option maxRecDepth 100000 in
set_option maxHeartbeats 4000000 in
theorem coverL_any (w : World) (hT : Tabs w) (lv sv : Value) (L : List PAt) (z : List (Int × Int)) (a : PAt) (hl : AtsIn w lv L) (hL : ∀ p, p ∈ L → SmallAt p) (hz : PairsIn w sv z) (hZ : ∀ n, n ∈ z → SmallPair n) (ha : SmallAt a) :
    Calls Tryz.prog 8 #[lv, sv, atV a] w fun e w' => e = .returned (.bool true) ∧ Below w.heap.size w w' := by
  obtain ⟨A, hA⟩ : ∃ A, A = atsOf L := ⟨_, rfl⟩
  have HBO := hid (fun (y : World) (hb : Below w.heap.size w y) => by have := book_any y lv L (hl.below hb) hL; rwa [← hA] at this)
  have HSP := hid (fun (y : World) (hb : Below w.heap.size w y) => by have := spills_any y lv sv L z (hl.below hb) hL (hz.below hb) hZ; rwa [← hA] at this)
  have hok := atsOf_ok L
  have hpd := pd_of L z
  rw [← hA] at hok hpd
  obtain ⟨own, hown⟩ : ∃ own, own = ownOf A z := ⟨_, rfl⟩
  rw [← hown] at HSP hpd
  have HMAY := hid (show mayP A own by rw [hown]; exact own_mayP hok.rising z)
  have hsml : ∀ x, x ∈ own → SmallSp x := by rw [hown]; exact small_ownOf hok.two hok.rising z
  have HLEN := hid (show own.length ≤ 12 by rw [hown]; exact Nat.le_trans (ownOf_ok hok.rising z).few hok.few)
  have HPS := hid (small_placed (T := fun p => p ∈ A) hsml)
  have HPD := hid hpd
  have HAW := hid (fun (y : World) (hb : Below w.heap.size w y) => awake_any y (hT.below hb))
  have HT := hid hT
  obtain ⟨la, ln, lc, rfl⟩ : ∃ a n c, lv = .slice a n c := by obtain ⟨a, c, _, _, e, _⟩ := hl.view; exact ⟨_, _, _, e⟩
  obtain ⟨za, zn, zc, rfl⟩ : ∃ a n c, sv = .slice a n c := by obtain ⟨a, c, _, _, e, _⟩ := hz.view; exact ⟨_, _, _, e⟩
  clear hl hL hz hZ hA hok hown hT hpd hsml
  have hs1 := ha.1.1
  have hs2 := ha.1.2
  have hs3 := ha.2.1.1
  have hs4 := ha.2.1.2
  have hs5 := ha.2.2.1
  have hs6 := ha.2.2.2
  clear ha
  have bA := (Below.refl w.heap.size w).alloc (Nat.le_refl _) (.cells #[.int .i64 a.1, .int .i64 a.2.1, .int .i64 a.2.2] 25)
  have gA := heap_alloc_new w (.cells #[.int .i64 a.1, .int .i64 a.2.1, .int .i64 a.2.2] 25)
  obtain ⟨ga, hga⟩ : ∃ ga, ga = w.heap.size := ⟨_, rfl⟩
  rw [← hga] at gA
  have HGA := hid gA
  have HBA := hid bA
  have HWGA := hid hga
  clear gA bA
  unfold atV
  go_enter Tryz.func8, Tryz.ntmps8
  go_wp2_with fail
  rw [← hga]
  generalize World.alloc _ _ = w0 at HGA HBA ⊢
  clear hga
  refine (HAW.out w0 HBA.out).mono ?_
  rintro e w1 ⟨rfl, b1⟩
  have HB1 := hid (HBA.out.trans (b1.mono HBA.out.size))
  have HGA1 := hid ((b1.block _ (heap_lt HGA.out)).trans HGA.out)
  clear b1 HAW HGA HBA
  go_wp2_with fail
  refine (HBO.out _ HB1.out).mono ?_
  rintro e w2 ⟨⟨bv, rfl, hbk⟩, b2⟩
  have HB2 := hid (HB1.out.trans (b2.mono HB1.out.size))
  have HGA2 := hid ((b2.block _ (heap_lt HGA1.out)).trans HGA1.out)
  have HBK := hid hbk
  obtain ⟨⟨b, off, v0, v1, rfl, -⟩, -⟩ := hbk
  clear b2
  go_wp2_with fail
  refine (HSP.out _ HB2.out).mono ?_
  rintro e w4 ⟨⟨ov, rfl, ho, hcap⟩, b4⟩
  have HB4 := hid (HB2.out.trans (b4.mono HB2.out.size))
  have HGA4 := hid ((b4.block _ (heap_lt HGA2.out)).trans HGA2.out)
  have HBK4 := hid (HBK.out.below b4)
  have HO4 := hid ho
  obtain ⟨oa, oc, ob, oo, rfl, -⟩ := ho.view
  obtain ⟨on, hon⟩ : ∃ on, on = own.length := ⟨_, rfl⟩
  rw [← hon] at HO4 ⊢
  have HON := hid hon
  clear b4 ho hon hcap HSP HBO HB1 HB2 HBK
  go_wp2_with fail
  refine (place_yes _ (HT.out.below HB4.out) _ _ A one1 own HBK4.out (HON.out ▸ HO4.out) HMAY.out (by have := HLEN.out; omega)).mono ?_
  rintro e w6 ⟨⟨pv, qv, rfl, hp, hq, hpc, hqc⟩, b6⟩
  have HB6 := hid (HB4.out.trans (b6.mono HB4.out.size))
  have HA6 := hid (show _ ∧ _ ∧ _ from ⟨cell_of (i := 0) ((b6.block _ (heap_lt HGA4.out)).trans HGA4.out) rfl, cell_of (i := 1) ((b6.block _ (heap_lt HGA4.out)).trans HGA4.out) rfl, cell_of (i := 2) ((b6.block _ (heap_lt HGA4.out)).trans HGA4.out) rfl⟩)
  clear hq hpc hqc b6 HO4 HBK4 HB4
  obtain ⟨P, hP⟩ : ∃ P, P = (placeP (fun p => p ∈ A) own).1 := ⟨_, rfl⟩
  rw [← hP] at hp HPS HPD
  have HP := hid hp
  clear hP
  obtain ⟨pa, pc, pb, po, rfl, hpl, hpw⟩ := hp.view
  obtain ⟨pn, hpn⟩ : ∃ pn, pn = P.length := ⟨_, rfl⟩
  rw [← hpn] at hpl HP ⊢
  have HPN := hid hpn
  have HPW := hid hpw
  clear hp hpn hpw
  -- the place, out of three picks
  obtain ⟨yp, hyp⟩ : ∃ yp : PAt, yp = (pk a.1 2, pk a.2.1 12, pk a.2.2 10) := ⟨_, rfl⟩
  have HY := hid hyp
  have HPK := hid (fun (c n : Int) (w : World) h1 h2 h3 h4 => pick_any c n w h1 h2 h3 h4)
  have HCV := hid (fun (y : World) (hb : Below w6.heap.size w6 y) => by have := cover_any y _ P (HP.out.below hb) yp; unfold spV atV at this; exact this)
  have HSY := hid (show SmallAt yp by
    have e0 := pk_range a.1 2 (by omega)
    have e1 := pk_range a.2.1 12 (by omega)
    have e2 := pk_range a.2.2 10 (by omega)
    rw [hyp]
    unfold SmallAt
    dsimp only
    omega)
  clear hyp
  obtain ⟨k0', k1', k2'⟩ := HA6.out
  go_wp2_with fail
  apply one_end (A := fun y => y.heap[w6.heap.size]? = some (.cells #[.int .i64 yp.1, .int .i64 yp.2.1, .int .i64 yp.2.2] 25 (0, 0)) ∧ Below w6.heap.size w6 y)
  · intro key
    go_region_held (fun y => y.cell? ⟨ga, 0, none⟩ = some (.int .i64 a.1) ∧ y.cell? ⟨ga, 1, none⟩ = some (.int .i64 a.2.1) ∧ y.cell? ⟨ga, 2, none⟩ = some (.int .i64 a.2.2)) (go_keep) (first | (go_at_call 13; refine (HPK.out _ _ _ (by omega) (by omega) (by omega) (by omega)).mono ?_; rintro e w1 ⟨rfl, rfl⟩))
    all_goals rw [show pk a.1 2 = yp.1 by rw [HY.out], show pk a.2.1 12 = yp.2.1 by rw [HY.out], show pk a.2.2 10 = yp.2.2 by rw [HY.out]]
    all_goals exact key _ ⟨heap_alloc_new w6 _, ((Below.refl _ w6).alloc (Nat.le_refl _) _).drew⟩
  · rintro w7 ⟨G7, B7⟩
    have HG7 := hid G7
    have HB7 := hid B7
    obtain ⟨gy, hgy⟩ : ∃ gy, gy = w6.heap.size := ⟨_, rfl⟩
    rw [← hgy] at G7 HG7 ⊢
    clear hgy
    have y0 := cell_of (i := 0) G7 rfl
    have y1 := cell_of (i := 1) G7 rfl
    have y2 := cell_of (i := 2) G7 rfl
    clear k0' k1' k2' B7 G7
    go_wp2_with fail
    refine (HCV.out _ HB7.out).mono ?_
    rintro e w8 ⟨rfl, b8⟩
    obtain ⟨cv, hcv⟩ : ∃ cv, cv = coverP P yp := ⟨_, rfl⟩
    rw [← hcv]
    obtain ⟨cc, hcc⟩ : ∃ cc, cc = cv.getD zeroSp := ⟨_, rfl⟩
    rw [← hcc]
    obtain ⟨bo, hbo⟩ : ∃ bo, bo = cv.isSome := ⟨_, rfl⟩
    rw [← hbo]
    have HG8 := hid ((b8.block _ (heap_lt HG7.out)).trans HG7.out)
    have HB8 := hid (HB7.out.trans (b8.mono HB7.out.size))
    have HCC := hid (show cc = (coverP P yp).getD zeroSp by rw [hcc, hcv])
    have HBO := hid (show bo = (coverP P yp).isSome by rw [hbo, hcv])
    clear hcv hcc hbo y0 y1 y2 HG7 HB7 b8
    go_wp2_with fail
    have bC := (Below.refl w8.heap.size w8).alloc (Nat.le_refl _) (.cells #[.int .i64 cc.1.1, .int .i64 cc.1.2.1, .int .i64 cc.1.2.2, .int .i64 cc.2.1, .int .i64 cc.2.2] 27)
    have gC := heap_alloc_new w8 (.cells #[.int .i64 cc.1.1, .int .i64 cc.1.2.1, .int .i64 cc.1.2.2, .int .i64 cc.2.1, .int .i64 cc.2.2] 27)
    obtain ⟨gc, hgc⟩ : ∃ gc, gc = w8.heap.size := ⟨_, rfl⟩
    rw [← hgc] at gC ⊢
    have HCK := hid (show Ckl w6 gy gc yp cc (w8.alloc (.cells #[.int .i64 cc.1.1, .int .i64 cc.1.2.1, .int .i64 cc.1.2.2, .int .i64 cc.2.1, .int .i64 cc.2.2] 27)) from ⟨(bC.block _ (heap_lt HG8.out)).trans HG8.out, gC, HB8.out.trans (bC.mono HB8.out.size)⟩)
    generalize World.alloc _ _ = w9 at HCK ⊢
    clear bC gC hgc HG8 HB8
    go_loopw [14, 15] (fun nv iv z => ClRel w6 gy gc yp cc P nv iv z) (fun _ iv _ => pn - (RowKit.intOf iv).toNat)
    case atStart => exact ⟨0, rfl, rfl, by omega, HCK.out⟩
    case round =>
      obtain ⟨i, rfl, rfl, hi, hck⟩ := hrel
      rw [← HPN.out] at hi
      have HCKR := hid hck
      have hpn12 : pn ≤ 12 := by have h1 := HPD.out.sum; have h2 := HLEN.out; have h3 := HPN.out; omega
      obtain ⟨n, hn⟩ : ∃ n, n = manyP (P.take i) yp := ⟨_, rfl⟩
      have hn12 : n ≤ 12 := by rw [hn]; unfold manyP; have h1 := List.countP_le_length (p := fun x => decide (hasP x yp)) (l := P.take i); rw [List.length_take] at h1; omega
      rw [← hn]
      have HN := hid hn
      clear hck hn HCK
      by_cases hin : i < pn
      · obtain ⟨x, hx⟩ : ∃ x, P[i]? = some x := ⟨_, List.getElem?_eq_getElem (by rw [← HPN.out]; omega)⟩
        obtain ⟨rfl, k0, k1, k2, k3, k4⟩ := HPW.out i x hx
        have hd1 : ((i : Int) < (pn : Int)) = True := by rw [eq_iff_iff, iff_true]; omega
        have hxm := List.mem_of_getElem? hx
        have HXX := hid (fun w => by have := eq_sp x x (HPS.out x hxm) (HPS.out x hxm) w; rw [decide_eq_true rfl] at this; unfold spV at this; exact this)
        have HCS := hid (fun (y : World) (hb : Below w6.heap.size w6 y) => by have := cover_any y _ P (HP.out.below hb) x.1; rw [HPD.out.coverSelf hxm] at this; unfold spV atV at this; exact this)
        have HAR := hid (fun w => by have := refArea_any x w; unfold spV at this; exact this)
        have HX := hid hx
        have hmn := manyP_next (p := yp) hx
        rw [← HN.out] at hmn
        have HS0 := hid (show (wr.drew.cell? ⟨gy, 0, none⟩ = some (.int .i64 yp.1) ∧ wr.drew.cell? ⟨gy, 1, none⟩ = some (.int .i64 yp.2.1) ∧ wr.drew.cell? ⟨gy, 2, none⟩ = some (.int .i64 yp.2.2)) ∧ (wr.drew.cell? ⟨pb, po + i * 5, none⟩ = some (.int .i64 x.1.1) ∧ wr.drew.cell? ⟨pb, po + i * 5 + 1, none⟩ = some (.int .i64 x.1.2.1) ∧ wr.drew.cell? ⟨pb, po + i * 5 + 2, none⟩ = some (.int .i64 x.1.2.2) ∧ wr.drew.cell? ⟨pb, po + i * 5 + 3, none⟩ = some (.int .i64 x.2.1) ∧ wr.drew.cell? ⟨pb, po + i * 5 + 4, none⟩ = some (.int .i64 x.2.2)) ∧ Ckl w6 gy gc yp cc wr.drew from
          ck_keep (y := wr) ⟨⟨cell_of HCKR.out.yb rfl, cell_of HCKR.out.yb rfl, cell_of HCKR.out.yb rfl⟩, ⟨(HCKR.out.low.cell (World.block_lt_of_cell? _ _ k0)).trans k0, (HCKR.out.low.cell (World.block_lt_of_cell? _ _ k1)).trans k1, (HCKR.out.low.cell (World.block_lt_of_cell? _ _ k2)).trans k2, (HCKR.out.low.cell (World.block_lt_of_cell? _ _ k3)).trans k3, (HCKR.out.low.cell (World.block_lt_of_cell? _ _ k4)).trans k4⟩, HCKR.out⟩ (Below.refl _ wr).drew)
        by_cases hh : hasP x yp
        · rw [if_pos hh] at hmn
          have HMN := hid hmn
          have HHA := hid (fun w => by have := has_any x yp w; rw [decide_eq_true hh] at this; unfold spV atV at this; exact this)
          have hec : cc = x := by rw [HCC.out, HPD.out.cover hxm hh]; rfl
          have HCX := hid (fun w => by have := eq_sp cc x (hec ▸ HPS.out x hxm) (HPS.out x hxm) w; rw [decide_eq_true hec] at this; unfold spV at this; exact this)
          clear hec
          clear hx hxm hmn hh
          go_wp2_with fail
          go_region_held (fun y => (y.cell? ⟨gy, 0, none⟩ = some (.int .i64 yp.1) ∧ y.cell? ⟨gy, 1, none⟩ = some (.int .i64 yp.2.1) ∧ y.cell? ⟨gy, 2, none⟩ = some (.int .i64 yp.2.2)) ∧ (y.cell? ⟨pb, po + i * 5, none⟩ = some (.int .i64 x.1.1) ∧ y.cell? ⟨pb, po + i * 5 + 1, none⟩ = some (.int .i64 x.1.2.1) ∧ y.cell? ⟨pb, po + i * 5 + 2, none⟩ = some (.int .i64 x.1.2.2) ∧ y.cell? ⟨pb, po + i * 5 + 3, none⟩ = some (.int .i64 x.2.1) ∧ y.cell? ⟨pb, po + i * 5 + 4, none⟩ = some (.int .i64 x.2.2)) ∧ Ckl w6 gy gc yp cc y) (first | exact HS0.out | (refine ck_keep ?_ ‹Below _ _ _›; assumption)) (first | (go_at_call 21; refine (HAR.out _).mono ?_; rintro e w3 ⟨rfl, b3⟩) | (go_at_call 23; refine (HHA.out _).mono ?_; rintro e w4 ⟨rfl, b4⟩))
          have HCK4 := hid (show Ckl w6 gy gc yp cc w4 by apply cv_of; assumption)
          clear HS0 b3 b4
          have c0 := cell_of (i := 0) HCK4.out.cb rfl
          have c1 := cell_of (i := 1) HCK4.out.cb rfl
          have c2 := cell_of (i := 2) HCK4.out.cb rfl
          have c3 := cell_of (i := 3) HCK4.out.cb rfl
          have c4 := cell_of (i := 4) HCK4.out.cb rfl
          have r0 := (HCK4.out.low.cell (World.block_lt_of_cell? _ _ k0)).trans k0
          have r1 := (HCK4.out.low.cell (World.block_lt_of_cell? _ _ k1)).trans k1
          have r2 := (HCK4.out.low.cell (World.block_lt_of_cell? _ _ k2)).trans k2
          have r3 := (HCK4.out.low.cell (World.block_lt_of_cell? _ _ k3)).trans k3
          have r4 := (HCK4.out.low.cell (World.block_lt_of_cell? _ _ k4)).trans k4
          have heq := HCX.out
          have gw : IntKind.i64.wrap ((n : Int) + 1) = (n : Int) + 1 := IntWalk.i64_in _ (by omega)
          clear ‹_ ∧ _ ∧ Ckl w6 gy gc yp cc w4›
          go_wp2_with fail
          go_quiet (fail)
          clear heq c0 c1 c2 c3 c4 r0 r1 r2 r3 r4 gw
          have HCK4' := hid (HCK4.out.keep (below_drewN (Below.refl w4.heap.size w4) nq))
          have r0 := (HCK4'.out.low.cell (World.block_lt_of_cell? _ _ k0)).trans k0
          have r1 := (HCK4'.out.low.cell (World.block_lt_of_cell? _ _ k1)).trans k1
          have r2 := (HCK4'.out.low.cell (World.block_lt_of_cell? _ _ k2)).trans k2
          go_wp2_with fail
          refine (HCS.out _ HCK4'.out.low).mono ?_
          rintro e w5' ⟨rfl, b5⟩
          have HCK5 := hid (HCK4'.out.keep b5)
          clear b5 r0 r1 r2
          go_wp2_with fail
          have bD := (Below.refl w5'.heap.size w5').alloc (Nat.le_refl _) (.cells #[.int .i64 x.1.1, .int .i64 x.1.2.1, .int .i64 x.1.2.2, .int .i64 x.2.1, .int .i64 x.2.2] 27)
          have gD := heap_alloc_new w5' (.cells #[.int .i64 x.1.1, .int .i64 x.1.2.1, .int .i64 x.1.2.2, .int .i64 x.2.1, .int .i64 x.2.2] 27)
          have HCK6 := hid (HCK5.out.keep bD)
          obtain ⟨gd, hgd⟩ : ∃ gd, gd = w5'.heap.size := ⟨_, rfl⟩
          rw [← hgd] at gD ⊢
          generalize World.alloc _ _ = w6' at gD HCK6 ⊢
          have r0 := (HCK6.out.low.cell (World.block_lt_of_cell? _ _ k0)).trans k0
          have r1 := (HCK6.out.low.cell (World.block_lt_of_cell? _ _ k1)).trans k1
          have r2 := (HCK6.out.low.cell (World.block_lt_of_cell? _ _ k2)).trans k2
          have r3 := (HCK6.out.low.cell (World.block_lt_of_cell? _ _ k3)).trans k3
          have r4 := (HCK6.out.low.cell (World.block_lt_of_cell? _ _ k4)).trans k4
          have d0 := cell_of (i := 0) gD rfl
          have d1 := cell_of (i := 1) gD rfl
          have d2 := cell_of (i := 2) gD rfl
          have d3 := cell_of (i := 3) gD rfl
          have d4 := cell_of (i := 4) gD rfl
          have heq := HXX.out
          clear bD gD hgd HCK5
          go_quiet (fail)
          clear heq r0 r1 r2 r3 r4 d0 d1 d2 d3 d4
          go_wp2_with fail
          go_roundw
          case rel => exact ⟨i + 1, by simp, by rw [HMN.out]; simp, by rw [← HPN.out]; omega, HCK6.out.keep (below_drewN (Below.refl _ _) _)⟩
          case measure => simp [RowKit.intOf]; omega
        · rw [if_neg hh] at hmn
          have HMN := hid (show manyP (P.take (i + 1)) yp = n by omega)
          have HHA := hid (fun w => by have := has_any x yp w; rw [decide_eq_false hh] at this; unfold spV atV at this; exact this)
          clear hx hxm hmn hh
          go_wp2_with fail
          go_region_held (fun y => (y.cell? ⟨gy, 0, none⟩ = some (.int .i64 yp.1) ∧ y.cell? ⟨gy, 1, none⟩ = some (.int .i64 yp.2.1) ∧ y.cell? ⟨gy, 2, none⟩ = some (.int .i64 yp.2.2)) ∧ (y.cell? ⟨pb, po + i * 5, none⟩ = some (.int .i64 x.1.1) ∧ y.cell? ⟨pb, po + i * 5 + 1, none⟩ = some (.int .i64 x.1.2.1) ∧ y.cell? ⟨pb, po + i * 5 + 2, none⟩ = some (.int .i64 x.1.2.2) ∧ y.cell? ⟨pb, po + i * 5 + 3, none⟩ = some (.int .i64 x.2.1) ∧ y.cell? ⟨pb, po + i * 5 + 4, none⟩ = some (.int .i64 x.2.2)) ∧ Ckl w6 gy gc yp cc y) (first | exact HS0.out | (refine ck_keep ?_ ‹Below _ _ _›; assumption)) (first | (go_at_call 21; refine (HAR.out _).mono ?_; rintro e w3 ⟨rfl, b3⟩) | (go_at_call 23; refine (HHA.out _).mono ?_; rintro e w4 ⟨rfl, b4⟩))
          have HCK4 := hid (show Ckl w6 gy gc yp cc w4 by apply cv_of; assumption)
          clear HS0 b3 b4 ‹_ ∧ _ ∧ Ckl w6 gy gc yp cc w4›
          have r0 := (HCK4.out.low.cell (World.block_lt_of_cell? _ _ k0)).trans k0
          have r1 := (HCK4.out.low.cell (World.block_lt_of_cell? _ _ k1)).trans k1
          have r2 := (HCK4.out.low.cell (World.block_lt_of_cell? _ _ k2)).trans k2
          go_wp2_with fail
          refine (HCS.out _ HCK4.out.low).mono ?_
          rintro e w5' ⟨rfl, b5⟩
          have HCK5 := hid (HCK4.out.keep b5)
          clear b5 r0 r1 r2
          go_wp2_with fail
          have bD := (Below.refl w5'.heap.size w5').alloc (Nat.le_refl _) (.cells #[.int .i64 x.1.1, .int .i64 x.1.2.1, .int .i64 x.1.2.2, .int .i64 x.2.1, .int .i64 x.2.2] 27)
          have gD := heap_alloc_new w5' (.cells #[.int .i64 x.1.1, .int .i64 x.1.2.1, .int .i64 x.1.2.2, .int .i64 x.2.1, .int .i64 x.2.2] 27)
          have HCK6 := hid (HCK5.out.keep bD)
          obtain ⟨gd, hgd⟩ : ∃ gd, gd = w5'.heap.size := ⟨_, rfl⟩
          rw [← hgd] at gD ⊢
          generalize World.alloc _ _ = w6' at gD HCK6 ⊢
          have r0 := (HCK6.out.low.cell (World.block_lt_of_cell? _ _ k0)).trans k0
          have r1 := (HCK6.out.low.cell (World.block_lt_of_cell? _ _ k1)).trans k1
          have r2 := (HCK6.out.low.cell (World.block_lt_of_cell? _ _ k2)).trans k2
          have r3 := (HCK6.out.low.cell (World.block_lt_of_cell? _ _ k3)).trans k3
          have r4 := (HCK6.out.low.cell (World.block_lt_of_cell? _ _ k4)).trans k4
          have d0 := cell_of (i := 0) gD rfl
          have d1 := cell_of (i := 1) gD rfl
          have d2 := cell_of (i := 2) gD rfl
          have d3 := cell_of (i := 3) gD rfl
          have d4 := cell_of (i := 4) gD rfl
          have heq := HXX.out
          clear bD gD hgd HCK5
          go_quiet (fail)
          clear heq r0 r1 r2 r3 r4 d0 d1 d2 d3 d4
          go_wp2_with fail
          go_roundw
          case rel => exact ⟨i + 1, by simp, by rw [HMN.out], by rw [← HPN.out]; omega, HCK6.out.keep (below_drewN (Below.refl _ _) _)⟩
          case measure => simp [RowKit.intOf]; omega
      · obtain rfl : i = pn := by omega
        have hd1 : ((i : Int) < (i : Int)) = False := by rw [eq_iff_iff, iff_false]; omega
        have hm := HPD.out.many yp
        have hcm := coverP_many (l := P) (p := yp)
        have hn2 : n = manyP P yp := by rw [HN.out, List.take_of_length_le (by rw [← HPN.out]; omega)]
        rw [← hn2] at hm hcm
        have c0 := cell_of (i := 0) HCKR.out.cb rfl
        have c1 := cell_of (i := 1) HCKR.out.cb rfl
        have c2 := cell_of (i := 2) HCKR.out.cb rfl
        have c3 := cell_of (i := 3) HCKR.out.cb rfl
        have c4 := cell_of (i := 4) HCKR.out.cb rfl
        by_cases hn0 : n = 0
        · have hbo : bo = false := by rw [HBO.out, hcm]; simp [hn0]
          have hcc : cc = zeroSp := by
            rw [HCC.out]
            cases h : coverP P yp with
            | none => rfl
            | some v => rw [← HBO.out] at hcm; rw [HBO.out, h] at hbo; cases hbo
          have heq := fun w => by have := eq_sp zeroSp zeroSp (by decide) (by decide) w; rw [decide_eq_true rfl] at this; unfold spV zeroSp at this; exact this
          dsimp only at heq
          subst hbo hn0
          rw [hcc] at c0 c1 c2 c3 c4
          unfold zeroSp at c0 c1 c2 c3 c4
          clear hcc hm hcm hn2
          go_wp2_with fail
          go_ret
          exact ⟨rfl, HB6.out.trans (HCKR.out.low.mono HB6.out.size)⟩
        · obtain rfl : n = 1 := by omega
          have hbo : bo = true := by rw [HBO.out, hcm]; simp
          subst hbo
          clear hm hcm hn2 hn0
          go_wp2_with fail
          go_ret
          exact ⟨rfl, HB6.out.trans (HCKR.out.low.mono HB6.out.size)⟩
end Go.Proofs.YtmmknjpcffaidaaGreatDoor
