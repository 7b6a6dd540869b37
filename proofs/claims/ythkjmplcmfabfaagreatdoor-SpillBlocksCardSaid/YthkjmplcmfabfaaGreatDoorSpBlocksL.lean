/- The law SpillBlocks: an input that is put into a place of an area that is placed blocks it; what stands ahead of it stays placed; taken out again, all is as it was. Condition: utf8's tables lie as they were laid. -/
import Derived.Test.YthkjmplcmfabfaaGreatDoorSpLw
import Derived.Test.YthkjmplcmfabfaaGreatDoorSpLawQ
import Derived.Test.YthkjmplcmfabfaaGreatDoorSpSetG
import Derived.Test.YthkjmplcmfabfaaGreatDoorSpReadX
namespace Go.Proofs.YthkjmplcmfabfaaGreatDoor
open Go.RowKit Go.Lib

theorem old_cell {w y : World} (h : Below w.heap.size w y) {p : Addr} {u : Value} (hc : w.cell? p = some u) : y.cell? p = some u := (h.cell (World.block_lt_of_cell? _ _ hc)).trans hc
/-- what stands while the law goes: its spill, its place -/
structure Bl (w : World) (x : PSp) (a : PAt) (gx ga : Nat) (y : World) : Prop where
  xb : y.heap[gx]? = some (.cells #[.int .i64 x.1.1, .int .i64 x.1.2.1, .int .i64 x.1.2.2, .int .i64 x.2.1, .int .i64 x.2.2] 40 (0, 0))
  ab : y.heap[ga]? = some (.cells #[.int .i64 a.1, .int .i64 a.2.1, .int .i64 a.2.2] 38 (0, 0))
  low : Below w.heap.size w y
theorem Bl.keep {w y z : World} {x : PSp} {a : PAt} {gx ga : Nat} (h : Bl w x a gx ga y) (hb : Below y.heap.size y z) : Bl w x a gx ga z :=
  ⟨(hb.block _ (heap_lt h.xb)).trans h.xb, (hb.block _ (heap_lt h.ab)).trans h.ab, h.low.trans (hb.mono h.low.size)⟩

/-- .. and all that it has read -/
structure Bm (w : World) (x : PSp) (a : PAt) (gx ga : Nat) (A : List PAt) (own P R : List PSp) (Q Z : List PAt) (cv : Value) (cc : Array Value) (gc : Nat) (ov pv rv qv tv : Value) (y : World) : Prop where
  bl : Bl w x a gx ga y
  cb : y.heap[gc]? = some (.cells cc 30 (0, 0))
  bk : BookAt y cv (putP a A) (txPut one1 a textX)
  o : SpsIn y ov own
  p : SpsIn y pv P
  r : SpsIn y rv R
  q : AtsIn y qv Q
  t : AtsIn y tv Z
theorem Bm.keep {w y z : World} {x : PSp} {a : PAt} {gx ga : Nat} {A : List PAt} {own P R : List PSp} {Q Z : List PAt} {cv : Value} {cc : Array Value} {gc : Nat} {ov pv rv qv tv : Value} (h : Bm w x a gx ga A own P R Q Z cv cc gc ov pv rv qv tv y) (hb : Below y.heap.size y z) : Bm w x a gx ga A own P R Q Z cv cc gc ov pv rv qv tv z :=
  ⟨h.bl.keep hb, (hb.block _ (heap_lt h.cb)).trans h.cb, h.bk.below hb, h.o.below hb, h.p.below hb, h.r.below hb, h.q.below hb, h.t.below hb⟩
theorem inOk_x : InOk textX := fun w _ => input_x w
def BsRel (w : World) (x : PSp) (Z : List PAt) (nv iv : Value) (wr : World) : Prop := ∃ i : Nat, iv = .int .i64 (i : Int) ∧ i ≤ Z.length ∧ nv = .bool (decide (x.1 ∈ Z.take i)) ∧ Below w.heap.size w wr
def BrRel (w : World) (n : Nat) (iv : Value) (wr : World) : Prop := ∃ i : Nat, iv = .int .i64 (i : Int) ∧ i ≤ n ∧ Below w.heap.size w wr
def BpRel (w : World) (x : PSp) (P : List PSp) (n : Nat) (iv : Value) (wr : World) : Prop := ∃ i : Nat, iv = .int .i64 (i : Int) ∧ i ≤ n ∧ (∀ y, y ∈ P.take i → y ≠ x) ∧ Below w.heap.size w wr

set_option maxRecDepth 100000 in
set_option maxHeartbeats 8000000 in
theorem blocks_any (w : World) (hT : Tabs w) (lv sv : Value) (L : List PAt) (z : List (Int × Int)) (which place : Int) (hl : AtsIn w lv L) (hL : ∀ p, p ∈ L → SmallAt p) (hz : PairsIn w sv z) (hZ : ∀ n, n ∈ z → SmallPair n)
    (hw1 : -9223372036854775808 ≤ which) (hw2 : which ≤ 9223372036854775807) (hp1 : -9223372036854775808 ≤ place) (hp2 : place ≤ 9223372036854775807) :
    Calls Tryz.prog 3 #[lv, sv, .int .i64 which, .int .i64 place] w fun e w' => e = .returned (.bool true) ∧ Below w.heap.size w w' := by
  obtain ⟨A, hA⟩ : ∃ A, A = atsOf L := ⟨_, rfl⟩
  have HBO := hid (fun (y : World) (hb : Below w.heap.size w y) => by have := book_any y lv L (hl.below hb) hL; rwa [← hA] at this)
  have HSP := hid (fun (y : World) (hb : Below w.heap.size w y) => by have := spills_any y lv sv L z (hl.below hb) hL (hz.below hb) hZ; rwa [← hA] at this)
  have hok := atsOf_ok L
  have hpd := pd_of L z
  rw [← hA] at hok hpd
  obtain ⟨own, hown⟩ : ∃ own, own = ownOf A z := ⟨_, rfl⟩
  rw [← hown] at HSP hpd
  have HMAY := hid (show mayP A own by rw [hown]; exact own_mayP hok.rising z)
  have hsml : ∀ x, x ∈ own → SmallSp x := by rw [hown]; exact small_ownOf hok.two hok.rising z
  have HLEN := hid (show own.length ≤ 12 by rw [hown]; exact Nat.le_trans (ownOf_ok hok.rising z).few hok.few)
  have HPS := hid (small_placed (T := fun p => p ∈ A) hsml)
  have HQS := hid (small_blocked (T := fun p => p ∈ A) hsml)
  have HOS := hid hsml
  have HCS := hid (show ∀ c, c ∈ A → SmallAt c from fun c hc => small_two (hok.two c hc))
  have HALEN := hid hok.few
  have HPD := hid hpd
  have HAW := hid (awake_any w hT)
  have HT := hid hT
  obtain ⟨la, ln, lc, rfl⟩ : ∃ a n c, lv = .slice a n c := by obtain ⟨a, c, _, _, e, _⟩ := hl.view; exact ⟨_, _, _, e⟩
  obtain ⟨za, zn, zc, rfl⟩ : ∃ a n c, sv = .slice a n c := by obtain ⟨a, c, _, _, e, _⟩ := hz.view; exact ⟨_, _, _, e⟩
  clear hl hL hz hZ hA hok hown hT hpd hsml
  go_enter Tryz.func3, Tryz.ntmps3
  go_wp2_with fail
  refine HAW.out.mono ?_
  rintro e w1 ⟨rfl, b1⟩
  have HB1 := hid b1
  clear b1 HAW
  go_wp2_with fail
  refine (HBO.out _ HB1.out).mono ?_
  rintro e w2 ⟨⟨bv, rfl, hbk⟩, b2⟩
  have HB2 := hid (HB1.out.trans (b2.mono HB1.out.size))
  have HBK := hid hbk
  obtain ⟨⟨b, off, bc, v0, v1, hbc, rfl, -⟩, -⟩ := hbk
  clear b2
  go_wp2_with fail
  have bA := (Below.refl w2.heap.size w2).alloc (Nat.le_refl _) (.cells #[.slice (some ⟨b, off, none⟩) 2 bc, .slice none 0 0, .slice none 0 0, .slice none 0 0] 30)
  have gA := heap_alloc_new w2 (.cells #[.slice (some ⟨b, off, none⟩) 2 bc, .slice none 0 0, .slice none 0 0, .slice none 0 0] 30)
  obtain ⟨g, hg⟩ : ∃ g, g = w2.heap.size := ⟨_, rfl⟩
  have L3 : Lw w (.agg #[.slice (some ⟨b, off, none⟩) 2 bc, .slice none 0 0, .slice none 0 0, .slice none 0 0]) #[.slice (some ⟨b, off, none⟩) 2 bc, .slice none 0 0, .slice none 0 0, .slice none 0 0] A g (w2.alloc (.cells #[.slice (some ⟨b, off, none⟩) 2 bc, .slice none 0 0, .slice none 0 0, .slice none 0 0] 30)) := ⟨by rw [hg]; exact gA, HBK.out.below bA, (HT.out.below HB2.out).below bA, HB2.out.trans (bA.mono HB2.out.size)⟩
  rw [← hg]
  generalize World.alloc _ _ = w3 at L3 ⊢
  have HL3 := hid L3
  clear bA gA hg L3 HBK HB2 HB1
  refine (HSP.out _ HL3.out.low).mono ?_
  rintro e w4 ⟨⟨ov, rfl, ho, hcap⟩, b4⟩
  have HL4 := hid (HL3.out.keep b4)
  have HO4 := hid ho
  obtain ⟨oa, oc, _, _, rfl, -⟩ := ho.view
  obtain ⟨on, hon⟩ : ∃ on, on = own.length := ⟨_, rfl⟩
  rw [← hon] at HO4 ⊢
  have HON := hid hon
  clear b4 ho hon hcap HL3 HSP HBO
  have b0 := cell_of (i := 0) HL4.out.b rfl
  have b1 := cell_of (i := 1) HL4.out.b rfl
  have b2 := cell_of (i := 2) HL4.out.b rfl
  have b3 := cell_of (i := 3) HL4.out.b rfl
  go_wp2_with fail
  clear b0 b1 b2 b3
  refine (place_yes _ HL4.out.tabs _ _ A one1 own HL4.out.bk (HON.out ▸ HO4.out) HMAY.out (by have := HLEN.out; omega)).mono ?_
  rintro e w6 ⟨⟨pv, qv, rfl, hp, hq, hpc, hqc⟩, b6⟩
  have HL6 := hid (HL4.out.keep b6)
  have HO6 := hid (HO4.out.below b6)
  obtain ⟨P, hP⟩ : ∃ P, P = (placeP (fun p => p ∈ A) own).1 := ⟨_, rfl⟩
  obtain ⟨Q, hQ⟩ : ∃ Q, Q = (placeP (fun p => p ∈ A) own).2 := ⟨_, rfl⟩
  rw [← hP] at hp HPS HPD
  rw [← hQ] at hq HQS HPD
  have HP6 := hid hp
  have HQ6 := hid hq
  obtain ⟨pa, pc, _, _, rfl, -⟩ := hp.view
  obtain ⟨qa, qc, _, _, rfl, -⟩ := hq.view
  obtain ⟨pn, hpn⟩ : ∃ pn, pn = P.length := ⟨_, rfl⟩
  obtain ⟨qn, hqn⟩ : ∃ qn, qn = Q.length := ⟨_, rfl⟩
  rw [← hpn] at HP6 ⊢
  rw [← hqn] at HQ6 ⊢
  have HPN := hid hpn
  have HQN := hid hqn
  clear hp hq hpc hqc b6 hpn hqn hP hQ HL4 HO4
  by_cases h0 : pn = 0
  · have h0' : (pn : Int) = 0 := by omega
    go_wp2_with fail
    go_ret
    exact ⟨rfl, HL6.out.low⟩
  · have h0' : ¬ ((pn : Int) = 0) := by omega
    have hon12 : on ≤ 12 := by rw [HON.out]; exact HLEN.out
    have hpn12 : pn ≤ 12 := by have h1 := HPD.out.sum; rw [← HPN.out, ← HQN.out, ← HON.out] at h1; omega
    go_wp2_with fail
    refine (pick_any which pn _ hw1 hw2 (by omega) (by omega)).mono ?_
    rintro e w7 ⟨rfl, rfl⟩
    obtain ⟨j, hj⟩ : ∃ j : Nat, pk which pn = (j : Int) := Int.eq_ofNat_of_zero_le (pk_range which pn (by omega)).1
    have hjn : j < pn := by have := (pk_range which pn (by omega)).2; omega
    rw [hj]
    clear hj
    obtain ⟨x, hx⟩ : ∃ x, P[j]? = some x := ⟨_, List.getElem?_eq_getElem (by rw [← HPN.out]; omega)⟩
    have hpv := HP6.out.view
    obtain ⟨_, _, pb, po, ep, hpl, hpw⟩ := hpv
    injection ep with ep1 ep2 ep3
    subst ep1 ep3
    obtain ⟨rfl, k0, k1, k2, k3, k4⟩ := hpw j x hx
    have HPW := hid hpw
    have HXM := hid (show x ∈ P from List.mem_of_getElem? hx)
    clear hpw ep2 hpl hx
    have hd1 : ((j : Int) < (pn : Int)) := by omega
    obtain ⟨m, hm⟩ : ∃ m : Int, m = x.2.1 * x.2.2 := ⟨_, rfl⟩
    have hsz := HPD.out.size x (HPD.out.mem HXM.out).1
    have hm1 : 1 ≤ m := by rw [hm]; exact Int.le_trans (by decide) (Int.mul_le_mul hsz.1 hsz.2.2.1 (by omega) (by omega))
    have hm2 : m ≤ 25 := by rw [hm]; exact Int.le_trans (Int.mul_le_mul hsz.2.1 hsz.2.2.2 (by omega) (by omega)) (by decide)
    have gw : IntKind.i64.wrap (x.2.1 * x.2.2) = m := by rw [← hm, IntKind.wrap_i64]; omega
    have gw1 : IntKind.i64.wrap (m - 1) = m - 1 := by rw [IntKind.wrap_i64]; omega
    have HM := hid hm
    have HSZ := hid hsz
    clear hm hsz
    by_cases hme : m = 1
    · have HME := hid (HL6.out.low.alloc HL6.out.low.size (.cells #[.int .i64 x.1.1, .int .i64 x.1.2.1, .int .i64 x.1.2.2, .int .i64 x.2.1, .int .i64 x.2.2] 40))
      go_wp2_with fail
      go_ret
      exact ⟨rfl, HME.out⟩
    · go_wp2_with fail
      obtain ⟨gx, hgx⟩ : ∃ gx, gx = w6.heap.size := ⟨_, rfl⟩
      have hxb := heap_alloc_new w6 (.cells #[.int .i64 x.1.1, .int .i64 x.1.2.1, .int .i64 x.1.2.2, .int .i64 x.2.1, .int .i64 x.2.2] 40)
      have b7 := (Below.refl w6.heap.size w6).alloc (Nat.le_refl _) (.cells #[.int .i64 x.1.1, .int .i64 x.1.2.1, .int .i64 x.1.2.2, .int .i64 x.2.1, .int .i64 x.2.2] 40)
      rw [← hgx] at hxb ⊢
      have HL7 := hid (HL6.out.keep b7)
      have HO7 := hid (HO6.out.below b7)
      have HP7 := hid (HP6.out.below b7)
      have HQ7 := hid (HQ6.out.below b7)
      generalize World.alloc _ _ = w7 at hxb HL7 HO7 HP7 HQ7 ⊢
      have HXB := hid hxb
      clear b7 hxb hgx HL6 HO6 HP6 HQ6 k0 k1 k2 k3 k4
      refine (pick_any place (m - 1) _ hp1 hp2 (by omega) (by omega)).mono ?_
      rintro e w8 ⟨rfl, rfl⟩
      obtain ⟨kk, hkk⟩ : ∃ kk : Int, kk = 1 + pk place (m - 1) := ⟨_, rfl⟩
      have hk1 : 1 ≤ kk ∧ kk < m := by have := pk_range place (m - 1) (by omega); omega
      have gw2 : IntKind.i64.wrap (1 + pk place (m - 1)) = kk := by rw [← hkk, IntKind.wrap_i64]; omega
      clear hkk
      have c0 := cell_of (i := 0) HXB.out rfl
      have c1 := cell_of (i := 1) HXB.out rfl
      have c2 := cell_of (i := 2) HXB.out rfl
      have c3 := cell_of (i := 3) HXB.out rfl
      have c4 := cell_of (i := 4) HXB.out rfl
      go_wp2_with fail
      have hmk : kk < x.2.1 * x.2.2 := by rw [← HM.out]; exact hk1.2
      have hta := tile_at hk1.1 hmk HSZ.out.2.2.1
      obtain ⟨q, hq⟩ : ∃ q, q = kk / x.2.2 := ⟨_, rfl⟩
      obtain ⟨t, ht⟩ : ∃ t, t = kk % x.2.2 := ⟨_, rfl⟩
      have gq : kk.tdiv x.2.2 = q := by rw [hq]; exact tdiv_at (by omega)
      have gt : kk.tmod x.2.2 = t := by rw [ht]; exact tmod_at (by omega)
      rw [← hq, ← ht] at hta
      obtain ⟨r, hr⟩ : ∃ r, r = x.1.2.1 + q := ⟨_, rfl⟩
      obtain ⟨c, hc⟩ : ∃ c, c = x.1.2.2 + t := ⟨_, rfl⟩
      rw [← hr, ← hc] at hta
      have hcell := HPD.out.cell HXM.out hta.1 hta.2
      have HTA := hid hta
      have HCE := hid hcell
      have hz : ¬ (x.2.2 = 0) := by have := HSZ.out.2.2.1; omega
      have h2 := hcell.1
      have hqt : 0 ≤ q ∧ q ≤ 5 ∧ 0 ≤ t ∧ t ≤ 5 := by have h1 := hta.1; have h2 := HSZ.out; unfold tileP at h1; dsimp only at h1; omega
      have hsm := (HPS.out x HXM.out).1
      have gq2 : IntKind.i64.wrap q = q := by rw [IntKind.wrap_i64]; omega
      have gt2 : IntKind.i64.wrap t = t := by rw [IntKind.wrap_i64]; omega
      have gr : IntKind.i64.wrap (x.1.2.1 + q) = r := by rw [← hr, IntKind.wrap_i64]; unfold InTwo at h2; dsimp only at h2; omega
      have gc : IntKind.i64.wrap (x.1.2.2 + t) = c := by rw [← hc, IntKind.wrap_i64]; unfold InTwo at h2; dsimp only at h2; omega
      have hne : w7.heap.size ≠ gx := Nat.ne_of_gt (heap_lt HXB.out)
      clear h2 hsm hmk hta hcell hq ht hr hc hqt
      go_region_held (fun y => y.cell? ⟨gx, 0, none⟩ = some (.int .i64 x.1.1) ∧ y.cell? ⟨gx, 1, none⟩ = some (.int .i64 x.1.2.1) ∧ y.cell? ⟨gx, 2, none⟩ = some (.int .i64 x.1.2.2) ∧ y.cell? ⟨gx, 4, none⟩ = some (.int .i64 x.2.2)) (go_keep) (fail)
      clear c0 c1 c2 c3 c4
      have b8 := ((Below.refl w7.heap.size w7).alloc (Nat.le_refl _) (.cells #[.int .i64 x.1.1, .int .i64 r, .int .i64 c] 38)).drew
      have hab : (w7.alloc (.cells #[.int .i64 x.1.1, .int .i64 r, .int .i64 c] 38)).drew.heap[w7.heap.size]? = _ := heap_alloc_new w7 (.cells #[.int .i64 x.1.1, .int .i64 r, .int .i64 c] 38)
      obtain ⟨ga, hga⟩ : ∃ ga, ga = w7.heap.size := ⟨_, rfl⟩
      rw [← hga] at hab ⊢
      have HL8 := hid (HL7.out.keep b8)
      have HO8 := hid (HO7.out.below b8)
      have HP8 := hid (HP7.out.below b8)
      have HQ8 := hid (HQ7.out.below b8)
      have HB8 := hid (show Bl w x (x.1.1, r, c) gx ga _ from ⟨(b8.block _ (heap_lt HXB.out)).trans HXB.out, hab, HL8.out.low⟩)
      generalize World.drew _ = w8 at HL8 HO8 HP8 HQ8 HB8 ⊢
      clear b8 hab hga HL7 HO7 HP7 HQ7 HXB hne gq gt gq2 gt2 gr gc hz gw gw1 gw2
      have b0 := cell_of (i := 0) HL8.out.b rfl
      have b1 := cell_of (i := 1) HL8.out.b rfl
      have b2 := cell_of (i := 2) HL8.out.b rfl
      have b3 := cell_of (i := 3) HL8.out.b rfl
      have a0 := cell_of (i := 0) HB8.out.ab rfl
      have a1 := cell_of (i := 1) HB8.out.ab rfl
      have a2 := cell_of (i := 2) HB8.out.ab rfl
      go_wp2_with fail
      clear b0 b1 b2 b3 a0 a1 a2
      have hset := setIn_any w8 HL8.out.tabs _ A one1 HL8.out.bk (x.1.1, r, c) HCE.out.1 HCE.out.2 HALEN.out textX inOk_x (by simp)
      unfold atV at hset
      dsimp only at hset
      refine hset.mono ?_
      clear hset
      rintro e w9 ⟨⟨cv, rfl, hcb⟩, b9⟩
      have HCB := hid hcb
      obtain ⟨⟨cb, co, cbc, cv0, cv1, hcbc, rfl, -⟩, -⟩ := hcb
      go_wp2_with fail
      have b10 := b9.alloc b9.size (.cells #[.slice (some ⟨cb, co, none⟩) 2 cbc, .slice none 0 0, .slice none 0 0, .slice none 0 0] 30)
      have hcc := heap_alloc_new w9 (.cells #[.slice (some ⟨cb, co, none⟩) 2 cbc, .slice none 0 0, .slice none 0 0, .slice none 0 0] 30)
      have HK10 := hid (HCB.out.below ((Below.refl w9.heap.size w9).alloc (Nat.le_refl _) (.cells #[.slice (some ⟨cb, co, none⟩) 2 cbc, .slice none 0 0, .slice none 0 0, .slice none 0 0] 30)))
      obtain ⟨gc, hgc⟩ : ∃ gc, gc = w9.heap.size := ⟨_, rfl⟩
      rw [← hgc] at hcc ⊢
      have HBL := hid (HB8.out.keep b10)
      have HO10 := hid (HO8.out.below b10)
      have HP10 := hid (HP8.out.below b10)
      have HQ10 := hid (HQ8.out.below b10)
      have HTB := hid (HT.out.below HBL.out.low)
      generalize World.alloc w9 _ = w10 at hcc HK10 HBL HO10 HP10 HQ10 HTB ⊢
      have HCC := hid hcc
      clear b9 b10 hgc hcc HCB HL8 HO8 HP8 HQ8 HB8
      refine (place_yes _ HTB.out _ _ (putP (x.1.1, r, c) A) (txPut one1 (x.1.1, r, c) textX) own HK10.out (HON.out ▸ HO10.out) (mayP_put HMAY.out) (by have := HLEN.out; omega)).mono ?_
      rintro e w11 ⟨⟨rv, tv, rfl, hrv, htv, -, -⟩, b11⟩
      rw [mem_put] at hrv htv
      have hbk := HPD.out.block HXM.out HTA.out.1 HTA.out.2
      obtain ⟨R, hR⟩ : ∃ R, R = (placeP (fun p => p ∈ A ∨ p = (x.1.1, r, c)) own).1 := ⟨_, rfl⟩
      obtain ⟨Z, hZ⟩ : ∃ Z, Z = (placeP (fun p => p ∈ A ∨ p = (x.1.1, r, c)) own).2 := ⟨_, rfl⟩
      have HRS := hid (small_placed (T := fun p => p ∈ A ∨ p = (x.1.1, r, c)) HOS.out)
      have HZS := hid (small_blocked (T := fun p => p ∈ A ∨ p = (x.1.1, r, c)) HOS.out)
      rw [← hR] at hrv hbk HRS
      rw [← hZ] at htv hbk HZS
      have HBK := hid hbk
      obtain ⟨ra, rc, rb, ro, rfl, hrl, hrw⟩ := hrv.view
      obtain ⟨ta, tc, tb, tf, rfl, htl, htw⟩ := htv.view
      obtain ⟨rn, hrn⟩ : ∃ rn, rn = R.length := ⟨_, rfl⟩
      obtain ⟨tn, htn⟩ : ∃ tn, tn = Z.length := ⟨_, rfl⟩
      have HM11 := hid (show Bm w x (x.1.1, r, c) gx ga A own P R Q Z (.agg #[.slice (some ⟨cb, co, none⟩) 2 cbc, .slice none 0 0, .slice none 0 0, .slice none 0 0]) #[.slice (some ⟨cb, co, none⟩) 2 cbc, .slice none 0 0, .slice none 0 0, .slice none 0 0] gc (.slice oa on oc) (.slice (some ⟨pb, po, none⟩) pn pc) (.slice ra rn rc) (.slice qa qn qc) (.slice ta tn tc) w11 from ⟨HBL.out.keep b11, (b11.block _ (heap_lt HCC.out)).trans HCC.out, HK10.out.below b11, HON.out ▸ HO10.out.below b11, HP10.out.below b11, hrn ▸ hrv, HQ10.out.below b11, htn ▸ htv⟩)
      rw [← hrn, ← htn]
      have HRN := hid hrn
      have HTN := hid htn
      have hsum : (rn : Int) + (tn : Int) = (on : Int) := by have h1 := HBK.out.sum; rw [← HRN.out, ← HTN.out, ← HON.out] at h1; omega
      have hsum2 : IntKind.i64.wrap ((rn : Int) + (tn : Int)) = (on : Int) := by rw [hsum, IntKind.wrap_i64]; omega
      have hrn12 : rn ≤ 12 := by omega
      have htn12 : tn ≤ 12 := by omega
      have HRW := hid hrw
      have HTW := hid htw
      clear hR hZ hrv htv hrl htl hrw htw hrn htn hbk b11 HK10 HBL HO10 HP10 HQ10 HTB HCC hsum
      go_wp2_with fail
      have hxc : w11.cell? ⟨gx, 0, none⟩ = some (.int .i64 x.1.1) ∧ w11.cell? ⟨gx, 1, none⟩ = some (.int .i64 x.1.2.1) ∧ w11.cell? ⟨gx, 2, none⟩ = some (.int .i64 x.1.2.2) ∧ w11.cell? ⟨gx, 3, none⟩ = some (.int .i64 x.2.1) ∧ w11.cell? ⟨gx, 4, none⟩ = some (.int .i64 x.2.2) := ⟨cell_of HM11.out.bl.xb rfl, cell_of HM11.out.bl.xb rfl, cell_of HM11.out.bl.xb rfl, cell_of HM11.out.bl.xb rfl, cell_of HM11.out.bl.xb rfl⟩
      have hac : w11.cell? ⟨ga, 0, none⟩ = some (.int .i64 x.1.1) ∧ w11.cell? ⟨ga, 1, none⟩ = some (.int .i64 r) ∧ w11.cell? ⟨ga, 2, none⟩ = some (.int .i64 c) := ⟨cell_of HM11.out.bl.ab rfl, cell_of HM11.out.bl.ab rfl, cell_of HM11.out.bl.ab rfl⟩
      have HXC := hid hxc
      have HAC := hid hac
      have hxsm := HPS.out x HXM.out
      have HXS := hid hxsm
      clear hxc hac hxsm hsum2
      go_loopw [24, 25] (fun nv iv y => BsRel w11 x Z nv iv y) (fun _ iv _ => tn - (RowKit.intOf iv).toNat)
      case atStart => exact ⟨0, rfl, by omega, by simp, Below.refl _ _⟩
      case round =>
        obtain ⟨i, rfl, hi, rfl, hb⟩ := hrel
        rw [← HTN.out] at hi
        have HB := hid hb
        clear hb
        by_cases hin : i < tn
        · obtain ⟨d, hd⟩ : ∃ d, Z[i]? = some d := ⟨_, List.getElem?_eq_getElem (by rw [← HTN.out]; omega)⟩
          obtain ⟨rfl, y0, y1, y2⟩ := HTW.out i d hd
          have e0 := old_cell HB.out y0
          have e1 := old_cell HB.out y1
          have e2 := old_cell HB.out y2
          have x0 := old_cell HB.out HXC.out.1
          have x1 := old_cell HB.out HXC.out.2.1
          have x2 := old_cell HB.out HXC.out.2.2.1
          have heq := fun w => eq_at d x.1 (HZS.out d (List.mem_of_getElem? hd)) HXS.out.1 w
          obtain ⟨bo, hbo⟩ : ∃ bo, bo = decide (d = x.1) := ⟨_, rfl⟩
          rw [← hbo] at heq
          unfold atV at heq
          obtain ⟨nb, hnb⟩ : ∃ nb, nb = decide (x.1 ∈ Z.take i) := ⟨_, rfl⟩
          rw [← hnb]
          have hnx : decide (x.1 ∈ Z.take (i + 1)) = (nb || bo) := by
            obtain ⟨hlt, e⟩ := List.getElem?_eq_some_iff.1 hd
            rw [List.take_succ_eq_append_getElem hlt, e, hnb, hbo, Bool.eq_iff_iff]
            simp only [Bool.or_eq_true, decide_eq_true_iff, List.mem_append, List.mem_singleton]
            exact or_congr Iff.rfl eq_comm
          have HNX := hid hnx
          have hd2 : ((i : Int) < (tn : Int)) = True := by rw [eq_iff_iff, iff_true]; omega
          clear y0 y1 y2 hd hbo hnb hnx
          cases nb
          · go_wp2_with fail
            go_quiet (fail)
            clear heq e0 e1 e2 x0 x1 x2
            go_wp2_with fail
            go_roundw
            case rel => exact ⟨i + 1, by simp, by rw [← HTN.out]; omega, by rw [HNX.out]; rfl, below_drewN HB.out _⟩
            case measure => simp [RowKit.intOf]; omega
          · go_wp2_with fail
            go_quiet (fail)
            clear heq e0 e1 e2 x0 x1 x2
            go_wp2_with fail
            go_roundw
            case rel => exact ⟨i + 1, by simp, by rw [← HTN.out]; omega, by rw [HNX.out]; rfl, below_drewN HB.out _⟩
            case measure => simp [RowKit.intOf]; omega
        · obtain rfl : tn = i := by omega
          have hd2 : ((tn : Int) < (tn : Int)) = False := by rw [eq_iff_iff, iff_false]; omega
          rw [decide_eq_true (show x.1 ∈ Z.take tn by rw [HTN.out, List.take_length]; exact HBK.out.now)]
          go_wp2_with fail
          go_loopw [26] (fun iv y => BrRel w11 rn iv y) (fun iv _ => rn - (RowKit.intOf iv).toNat)
          case atStart => exact ⟨0, rfl, by omega, HB.out⟩
          case round =>
            obtain ⟨i, rfl, hi, hb⟩ := hrel
            have HB2 := hid hb
            clear hb HB
            by_cases hin : i < rn
            · obtain ⟨v, hv⟩ : ∃ v, R[i]? = some v := ⟨_, List.getElem?_eq_getElem (by rw [← HRN.out]; omega)⟩
              obtain ⟨rfl, y0, y1, y2, y3, y4⟩ := HRW.out i v hv
              have hvm := List.mem_of_getElem? hv
              have heq := fun w => eq_sp v x (HRS.out v hvm) HXS.out w
              rw [decide_eq_false (HBK.out.not v hvm).1] at heq
              unfold spV at heq
              have hha := fun w => has_any v (x.1.1, r, c) w
              rw [decide_eq_false (HBK.out.not v hvm).2] at hha
              unfold spV atV at hha
              dsimp only at hha
              have HHA := hid hha
              have har := fun w => refArea_any v w
              unfold spV at har
              have HAR := hid har
              have HYC := hid (show w11.cell? ⟨rb, ro + i * 5, none⟩ = some (.int .i64 v.1.1) ∧ w11.cell? ⟨rb, ro + i * 5 + 1, none⟩ = some (.int .i64 v.1.2.1) ∧ w11.cell? ⟨rb, ro + i * 5 + 2, none⟩ = some (.int .i64 v.1.2.2) ∧ w11.cell? ⟨rb, ro + i * 5 + 3, none⟩ = some (.int .i64 v.2.1) ∧ w11.cell? ⟨rb, ro + i * 5 + 4, none⟩ = some (.int .i64 v.2.2) from ⟨y0, y1, y2, y3, y4⟩)
              have HKP := hid (fun (y : World) (hb : Below w11.heap.size w11 y) => show (y.cell? ⟨rb, ro + i * 5, none⟩ = some (.int .i64 v.1.1) ∧ y.cell? ⟨rb, ro + i * 5 + 1, none⟩ = some (.int .i64 v.1.2.1) ∧ y.cell? ⟨rb, ro + i * 5 + 2, none⟩ = some (.int .i64 v.1.2.2) ∧ y.cell? ⟨rb, ro + i * 5 + 3, none⟩ = some (.int .i64 v.2.1) ∧ y.cell? ⟨rb, ro + i * 5 + 4, none⟩ = some (.int .i64 v.2.2)) ∧ (y.cell? ⟨gx, 0, none⟩ = some (.int .i64 x.1.1) ∧ y.cell? ⟨gx, 1, none⟩ = some (.int .i64 x.1.2.1) ∧ y.cell? ⟨gx, 2, none⟩ = some (.int .i64 x.1.2.2) ∧ y.cell? ⟨gx, 3, none⟩ = some (.int .i64 x.2.1) ∧ y.cell? ⟨gx, 4, none⟩ = some (.int .i64 x.2.2)) ∧ (y.cell? ⟨ga, 0, none⟩ = some (.int .i64 x.1.1) ∧ y.cell? ⟨ga, 1, none⟩ = some (.int .i64 r) ∧ y.cell? ⟨ga, 2, none⟩ = some (.int .i64 c)) ∧ Below w11.heap.size w11 y from ⟨⟨old_cell hb HYC.out.1, old_cell hb HYC.out.2.1, old_cell hb HYC.out.2.2.1, old_cell hb HYC.out.2.2.2.1, old_cell hb HYC.out.2.2.2.2⟩, ⟨old_cell hb HXC.out.1, old_cell hb HXC.out.2.1, old_cell hb HXC.out.2.2.1, old_cell hb HXC.out.2.2.2.1, old_cell hb HXC.out.2.2.2.2⟩, ⟨old_cell hb HAC.out.1, old_cell hb HAC.out.2.1, old_cell hb HAC.out.2.2⟩, hb⟩)
              have HS0 := hid (HKP.out wr.drew HB2.out.drew)
              have hd2 : ((i : Int) < (rn : Int)) = True := by rw [eq_iff_iff, iff_true]; omega
              clear y0 y1 y2 y3 y4 hv hvm hha har
              go_wp2_with fail
              go_region_held (fun y => (y.cell? ⟨rb, ro + i * 5, none⟩ = some (.int .i64 v.1.1) ∧ y.cell? ⟨rb, ro + i * 5 + 1, none⟩ = some (.int .i64 v.1.2.1) ∧ y.cell? ⟨rb, ro + i * 5 + 2, none⟩ = some (.int .i64 v.1.2.2) ∧ y.cell? ⟨rb, ro + i * 5 + 3, none⟩ = some (.int .i64 v.2.1) ∧ y.cell? ⟨rb, ro + i * 5 + 4, none⟩ = some (.int .i64 v.2.2)) ∧ (y.cell? ⟨gx, 0, none⟩ = some (.int .i64 x.1.1) ∧ y.cell? ⟨gx, 1, none⟩ = some (.int .i64 x.1.2.1) ∧ y.cell? ⟨gx, 2, none⟩ = some (.int .i64 x.1.2.2) ∧ y.cell? ⟨gx, 3, none⟩ = some (.int .i64 x.2.1) ∧ y.cell? ⟨gx, 4, none⟩ = some (.int .i64 x.2.2)) ∧ (y.cell? ⟨ga, 0, none⟩ = some (.int .i64 x.1.1) ∧ y.cell? ⟨ga, 1, none⟩ = some (.int .i64 r) ∧ y.cell? ⟨ga, 2, none⟩ = some (.int .i64 c)) ∧ Below w11.heap.size w11 y) (first | with_reducible exact HS0.out | with_reducible exact HKP.out _ HA4.out | with_reducible exact HKP.out _ HA5.out) (first | (go_at_call 11; refine (HAR.out _).mono ?_; rintro e w4' ⟨rfl, b4⟩; have HA4 := hid (HB2.out.drew.trans (b4.mono HB2.out.drew.size)); clear b4) | (go_at_call 10; refine (HHA.out _).mono ?_; rintro e w5' ⟨rfl, b5⟩; have HA5 := hid (HA4.out.trans (b5.mono HA4.out.size)); clear b5))
              clear heq HS0 HKP HHA HAR
              go_wp2_with fail
              go_roundw
              case rel => exact ⟨i + 1, by simp, by omega, HA5.out⟩
              case measure => simp [RowKit.intOf]; omega
            · obtain rfl : rn = i := by omega
              have hd2 : ((rn : Int) < (rn : Int)) = False := by rw [eq_iff_iff, iff_false]; omega
              go_wp2_with fail
              have hpw2 : ∀ (i : Nat) (y : PSp), P[i]? = some y → w11.cell? ⟨pb, po + i * 5, none⟩ = some (.int .i64 y.1.1) ∧ w11.cell? ⟨pb, po + i * 5 + 1, none⟩ = some (.int .i64 y.1.2.1) ∧ w11.cell? ⟨pb, po + i * 5 + 2, none⟩ = some (.int .i64 y.1.2.2) ∧ w11.cell? ⟨pb, po + i * 5 + 3, none⟩ = some (.int .i64 y.2.1) ∧ w11.cell? ⟨pb, po + i * 5 + 4, none⟩ = some (.int .i64 y.2.2) := fun i y hy => by
                obtain ⟨ao, c', b', o', e, -, hw⟩ := HM11.out.p.view
                obtain ⟨h0, h1⟩ := hw i y hy
                injection e with e1 e2 e3
                rw [h0] at e1
                injection e1 with e1
                injection e1 with e1 e4
                subst e1 e4
                exact h1
              have HPW2 := hid hpw2
              clear hpw2 HPW HTW HZS
              go_loopw [27] (fun iv y => BpRel w11 x P pn iv y) (fun iv _ => pn - (RowKit.intOf iv).toNat)
              case atStart => exact ⟨0, rfl, by omega, by simp, HB2.out⟩
              case round =>
                obtain ⟨i, rfl, hi, hne, hb⟩ := hrel
                have HB3 := hid hb
                have HNE := hid hne
                clear hb hne HB2
                by_cases hip : i < pn
                · obtain ⟨y, hy⟩ : ∃ y, P[i]? = some y := ⟨_, List.getElem?_eq_getElem (by rw [← HPN.out]; omega)⟩
                  obtain ⟨y0, y1, y2, y3, y4⟩ := HPW2.out i y hy
                  have e0 := old_cell HB3.out y0
                  have e1 := old_cell HB3.out y1
                  have e2 := old_cell HB3.out y2
                  have e3 := old_cell HB3.out y3
                  have e4 := old_cell HB3.out y4
                  have x0 := old_cell HB3.out HXC.out.1
                  have x1 := old_cell HB3.out HXC.out.2.1
                  have x2 := old_cell HB3.out HXC.out.2.2.1
                  have x3 := old_cell HB3.out HXC.out.2.2.2.1
                  have x4 := old_cell HB3.out HXC.out.2.2.2.2
                  have heq := fun w => eq_sp y x (HPS.out y (List.mem_of_getElem? hy)) HXS.out w
                  have hd3 : ((i : Int) < (pn : Int)) = True := by rw [eq_iff_iff, iff_true]; omega
                  have HY := hid hy
                  clear y0 y1 y2 y3 y4 hy
                  by_cases hyx : y = x
                  · rw [decide_eq_true hyx] at heq
                    unfold spV at heq
                    clear hyx
                    go_wp2_with fail
                    go_quiet (fail)
                    clear heq e0 e1 e2 e3 e4 x0 x1 x2 x3 x4
                    have HM12 := hid (fun n => HM11.out.keep (below_drewN HB3.out n))
                    have hmw := HM11.out.keep HB3.out
                    have b0 := cell_of (i := 0) hmw.cb rfl
                    have b1 := cell_of (i := 1) hmw.cb rfl
                    have b2 := cell_of (i := 2) hmw.cb rfl
                    have b3 := cell_of (i := 3) hmw.cb rfl
                    have a0 := cell_of (i := 0) hmw.bl.ab rfl
                    have a1 := cell_of (i := 1) hmw.bl.ab rfl
                    have a2 := cell_of (i := 2) hmw.bl.ab rfl
                    clear hmw
                    go_wp2_with fail
                    clear b0 b1 b2 b3 a0 a1 a2
                    have hset2 := fun n => setOut_any (wr.drewN n) (HT.out.below (HM12.out n).bl.low) _ A (txPut one1 (x.1.1, r, c) textX) (x.1.1, r, c) (HM12.out n).bk HCE.out.1 HCE.out.2 HPD.out.rise
                    unfold atV at hset2
                    dsimp only at hset2
                    refine (hset2 _).mono ?_
                    clear hset2
                    rintro e w13 ⟨⟨dv, rfl, hdb⟩, b13⟩
                    have HDB := hid hdb
                    have HM13 := hid ((HM12.out _).keep b13)
                    obtain ⟨⟨db, dof, dbc, dv0, dv1, hdbc, rfl, -⟩, -⟩ := hdb
                    clear b13 HM12
                    go_wp2_with fail
                    have b14 := (Below.refl w13.heap.size w13).alloc (Nat.le_refl _) (.cells #[.slice (some ⟨db, dof, none⟩) 2 dbc, .slice none 0 0, .slice none 0 0, .slice none 0 0] 30)
                    have HD14 := hid (HDB.out.below b14)
                    have HM14 := hid (HM13.out.keep b14)
                    generalize World.alloc w13 _ = w14 at HD14 HM14 ⊢
                    clear b14 HDB HM13
                    refine (place_yes _ (HT.out.below HM14.out.bl.low) _ _ A (txPut one1 (x.1.1, r, c) textX) own HD14.out (HON.out ▸ HM14.out.o) HMAY.out (by have := HLEN.out; omega)).mono ?_
                    rintro e w15 ⟨⟨uv, vv, rfl, hu, hv, -, -⟩, b15⟩
                    rw [← HPD.out.eP] at hu
                    rw [← HPD.out.eQ] at hv
                    have HU := hid hu
                    have HV := hid hv
                    have HM15 := hid (HM14.out.keep b15)
                    clear hu hv b15 HM14 HD14
                    go_wp2_with fail
                    refine (spsame_any _ _ _ P P HU.out HM15.out.p HPS.out HPS.out).mono ?_
                    rw [decide_eq_true rfl]
                    rintro e w16 ⟨rfl, b16⟩
                    have HV16 := hid (HV.out.below b16)
                    have HM16 := hid (HM15.out.keep b16)
                    clear b16 HU HV HM15
                    go_wp2_with fail
                    refine (atsame_any _ _ _ Q Q HV16.out HM16.out.q HQS.out HQS.out).mono ?_
                    rw [decide_eq_true rfl]
                    rintro e w17 ⟨rfl, b17⟩
                    have HW := hid ((HM16.out.keep b17).bl.low)
                    clear b17 HV16 HM16
                    go_wp2_with fail
                    go_ret
                    exact ⟨rfl, HW.out⟩
                  · rw [decide_eq_false hyx] at heq
                    unfold spV at heq
                    have hnx : ∀ u, u ∈ P.take (i + 1) → u ≠ x := by
                      obtain ⟨hlt, e⟩ := List.getElem?_eq_some_iff.1 HY.out
                      rw [List.take_succ_eq_append_getElem hlt, e]
                      intro u hu
                      rcases List.mem_append.1 hu with hu | hu
                      · exact HNE.out u hu
                      · simp only [List.mem_singleton] at hu
                        exact hu ▸ hyx
                    have hry := HBK.out.ahead i y hnx HY.out
                    have HNX := hid hnx
                    have hir : i < rn := by rw [HRN.out]; exact (List.getElem?_eq_some_iff.1 hry).1
                    obtain ⟨rfl, z0, z1, z2, z3, z4⟩ := HRW.out i y hry
                    have heq2 := fun w => eq_sp y y (HPS.out y (List.mem_of_getElem? HY.out)) (HPS.out y (List.mem_of_getElem? HY.out)) w
                    rw [decide_eq_true rfl] at heq2
                    unfold spV at heq2
                    have HEQ2 := hid heq2
                    have HR5 := hid (show (_ ∧ _ ∧ _ ∧ _ ∧ _) ∧ _ ∧ _ ∧ _ ∧ _ ∧ _ from ⟨⟨old_cell HB3.out z0, old_cell HB3.out z1, old_cell HB3.out z2, old_cell HB3.out z3, old_cell HB3.out z4⟩, e0, e1, e2, e3, e4⟩)
                    clear hnx hry z0 z1 z2 z3 z4 heq2 hyx
                    go_wp2_with fail
                    go_quiet (fail)
                    clear heq x0 x1 x2 x3 x4 e0 e1 e2 e3 e4
                    have heq2 := HEQ2.out
                    have hr5 := HR5.out
                    obtain ⟨⟨z0, z1, z2, z3, z4⟩, e0, e1, e2, e3, e4⟩ := hr5
                    have hd4 : ((rn : Int) ≤ (i : Int)) = False := by rw [eq_iff_iff, iff_false]; omega
                    go_wp2_with fail
                    go_quiet (fail)
                    clear heq2 z0 z1 z2 z3 z4 e0 e1 e2 e3 e4
                    go_wp2_with fail
                    go_roundw
                    case rel => exact ⟨i + 1, by simp, by omega, HNX.out, below_drewN HB3.out _⟩
                    case measure => simp [RowKit.intOf]; omega
                · obtain rfl : pn = i := by omega
                  have hd3 : ((pn : Int) < (pn : Int)) = False := by rw [eq_iff_iff, iff_false]; omega
                  go_wp2_with fail
                  go_quiet (fail)
                  have HM12 := hid (fun n => HM11.out.keep (below_drewN HB3.out n))
                  have hmw := HM11.out.keep HB3.out
                  have b0 := cell_of (i := 0) hmw.cb rfl
                  have b1 := cell_of (i := 1) hmw.cb rfl
                  have b2 := cell_of (i := 2) hmw.cb rfl
                  have b3 := cell_of (i := 3) hmw.cb rfl
                  have a0 := cell_of (i := 0) hmw.bl.ab rfl
                  have a1 := cell_of (i := 1) hmw.bl.ab rfl
                  have a2 := cell_of (i := 2) hmw.bl.ab rfl
                  clear hmw
                  go_wp2_with fail
                  clear b0 b1 b2 b3 a0 a1 a2
                  have hset2 := fun n => setOut_any (wr.drewN n) (HT.out.below (HM12.out n).bl.low) _ A (txPut one1 (x.1.1, r, c) textX) (x.1.1, r, c) (HM12.out n).bk HCE.out.1 HCE.out.2 HPD.out.rise
                  unfold atV at hset2
                  dsimp only at hset2
                  refine (hset2 _).mono ?_
                  clear hset2
                  rintro e w13 ⟨⟨dv, rfl, hdb⟩, b13⟩
                  have HDB := hid hdb
                  have HM13 := hid ((HM12.out _).keep b13)
                  obtain ⟨⟨db, dof, dbc, dv0, dv1, hdbc, rfl, -⟩, -⟩ := hdb
                  clear b13 HM12
                  go_wp2_with fail
                  have b14 := (Below.refl w13.heap.size w13).alloc (Nat.le_refl _) (.cells #[.slice (some ⟨db, dof, none⟩) 2 dbc, .slice none 0 0, .slice none 0 0, .slice none 0 0] 30)
                  have HD14 := hid (HDB.out.below b14)
                  have HM14 := hid (HM13.out.keep b14)
                  generalize World.alloc w13 _ = w14 at HD14 HM14 ⊢
                  clear b14 HDB HM13
                  refine (place_yes _ (HT.out.below HM14.out.bl.low) _ _ A (txPut one1 (x.1.1, r, c) textX) own HD14.out (HON.out ▸ HM14.out.o) HMAY.out (by have := HLEN.out; omega)).mono ?_
                  rintro e w15 ⟨⟨uv, vv, rfl, hu, hv, -, -⟩, b15⟩
                  rw [← HPD.out.eP] at hu
                  rw [← HPD.out.eQ] at hv
                  have HU := hid hu
                  have HV := hid hv
                  have HM15 := hid (HM14.out.keep b15)
                  clear hu hv b15 HM14 HD14
                  go_wp2_with fail
                  refine (spsame_any _ _ _ P P HU.out HM15.out.p HPS.out HPS.out).mono ?_
                  rw [decide_eq_true rfl]
                  rintro e w16 ⟨rfl, b16⟩
                  have HV16 := hid (HV.out.below b16)
                  have HM16 := hid (HM15.out.keep b16)
                  clear b16 HU HV HM15
                  go_wp2_with fail
                  refine (atsame_any _ _ _ Q Q HV16.out HM16.out.q HQS.out HQS.out).mono ?_
                  rw [decide_eq_true rfl]
                  rintro e w17 ⟨rfl, b17⟩
                  have HW := hid ((HM16.out.keep b17).bl.low)
                  clear b17 HV16 HM16
                  go_wp2_with fail
                  go_ret
                  exact ⟨rfl, HW.out⟩
end Go.Proofs.YthkjmplcmfabfaaGreatDoor
