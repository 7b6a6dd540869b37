/- The law SpillMore: what stands behind a spill changes nothing of it. Condition: utf8's tables lie as they were laid. -/
import Derived.Test.YtmmknjpcffaidaaGreatDoorSpAwake
namespace Go.Proofs.YtmmknjpcffaidaaGreatDoor
open Go.RowKit Go.Lib

theorem own_mayP {A : List PAt} (hr : Rising A) (z : List (Int × Int)) : mayP A (ownOf A z) := by
  have h := ownOf_ok hr z
  intro j hj x hx
  have hm := List.mem_of_getElem? hx
  have hs := h.size x hm
  have hp : x.2.1 * x.2.2 ≤ 25 := Int.le_trans (Int.mul_le_mul hs.2.1 hs.2.2.2 (by omega) (by omega)) (by decide)
  refine ⟨⟨h.here x hm, hs.1, hs.2.2.1, by omega, by omega, by omega⟩, fun y h0 hy => ?_⟩
  obtain ⟨h1, e1⟩ := List.getElem?_eq_some_iff.1 hx
  obtain ⟨h2, e2⟩ := List.getElem?_eq_some_iff.1 hy
  have := List.pairwise_iff_getElem.1 h.order (j - 1) j h2 h1 (by omega)
  rwa [e1, e2] at this
theorem mayP_take {A : List PAt} {l : List PSp} (h : mayP A l) (k : Nat) : mayP A (l.take k) := by
  intro j hj x hx
  rw [List.length_take] at hj
  rw [List.getElem?_take_of_lt (by omega)] at hx
  refine ⟨(h j (by omega) x hx).1, fun y h0 hy => (h j (by omega) x hx).2 y h0 ?_⟩
  rwa [List.getElem?_take_of_lt (by omega)] at hy
theorem small_ownOf {A : List PAt} (h2 : ∀ p, p ∈ A → InTwo p) (hr : Rising A) (z : List (Int × Int)) : ∀ x, x ∈ ownOf A z → SmallSp x := fun x hx => by
  have h := ownOf_ok hr z
  have hs := h.size x hx
  exact ⟨small_two (h2 _ (h.here x hx)), by omega, by omega⟩
theorem small_placed {T : PAt → Prop} {l : List PSp} (h : ∀ x, x ∈ l → SmallSp x) : ∀ x, x ∈ (placeP T l).1 → SmallSp x := fun x hx => h x (placeP_mem l T x hx).1
theorem small_blocked {T : PAt → Prop} {l : List PSp} (h : ∀ x, x ∈ l → SmallSp x) : ∀ p, p ∈ (placeP T l).2 → SmallAt p := fun p hp => by
  obtain ⟨x, hx, rfl⟩ := placeP_blocked l T p hp
  exact (h x hx).1

/-- what stands while a law goes: its workbook behind a pointer -/
structure Lw (w : World) (bv : Value) (bc : Array Value) (A : List PAt) (g : Nat) (y : World) : Prop where
  b : y.heap[g]? = some (.cells bc 35 (0, 0))
  bk : BookAt y bv A one1
  tabs : Tabs y
  low : Below w.heap.size w y
theorem Lw.keep {w y z : World} {bv : Value} {bc : Array Value} {A : List PAt} {g : Nat} (h : Lw w bv bc A g y) (hb : Below y.heap.size y z) : Lw w bv bc A g z :=
  ⟨(hb.block _ (heap_lt h.b)).trans h.b, h.bk.below hb, h.tabs.below hb, h.low.trans (hb.mono h.low.size)⟩

theorem mo_of {A B : Prop} (h : A ∧ B) : B := h.2
set_option maxRecDepth 100000 in
set_option maxHeartbeats 4000000 in
theorem more_any (w : World) (hT : Tabs w) (lv sv : Value) (L : List PAt) (z : List (Int × Int)) (many : Int) (hl : AtsIn w lv L) (hL : ∀ p, p ∈ L → SmallAt p) (hz : PairsIn w sv z) (hZ : ∀ n, n ∈ z → SmallPair n)
    (hm1 : -9223372036854775808 ≤ many) (hm2 : many ≤ 9223372036854775807) :
    Calls Tryz.prog 6 #[lv, sv, .int .i64 many] w fun e w' => e = .returned (.bool true) ∧ Below w.heap.size w w' := by
  obtain ⟨A, hA⟩ : ∃ A, A = atsOf L := ⟨_, rfl⟩
  have HBO := hid (fun (y : World) (hb : Below w.heap.size w y) => by have := book_any y lv L (hl.below hb) hL; rwa [← hA] at this)
  have HSP := hid (fun (y : World) (hb : Below w.heap.size w y) => by have := spills_any y lv sv L z (hl.below hb) hL (hz.below hb) hZ; rwa [← hA] at this)
  have hok := atsOf_ok L
  rw [← hA] at hok
  obtain ⟨own, hown⟩ : ∃ own, own = ownOf A z := ⟨_, rfl⟩
  rw [← hown] at HSP
  have HMAY := hid (show mayP A own by rw [hown]; exact own_mayP hok.rising z)
  have HSML := hid (show ∀ x, x ∈ own → SmallSp x by rw [hown]; exact small_ownOf hok.two hok.rising z)
  have HLEN := hid (show own.length ≤ 12 by rw [hown]; exact Nat.le_trans (ownOf_ok hok.rising z).few hok.few)
  have HAW := hid (awake_any w hT)
  have HT := hid hT
  obtain ⟨la, ln, lc, rfl⟩ : ∃ a n c, lv = .slice a n c := by obtain ⟨a, c, _, _, e, _⟩ := hl.view; exact ⟨_, _, _, e⟩
  obtain ⟨za, zn, zc, rfl⟩ : ∃ a n c, sv = .slice a n c := by obtain ⟨a, c, _, _, e, _⟩ := hz.view; exact ⟨_, _, _, e⟩
  clear hl hL hz hZ hA hok hown hT
  go_enter Tryz.func6, Tryz.ntmps6
  go_wp2_with fail
  refine HAW.out.mono ?_
  rintro e w1 ⟨rfl, b1⟩
  have HB1 := hid b1
  clear b1 HAW
  go_wp2_with fail
  refine (HBO.out _ HB1.out).mono ?_
  rintro e w2 ⟨⟨bv, rfl, hbk⟩, b2⟩
  have HB2 := hid (HB1.out.trans (b2.mono HB1.out.size))
  have HBK := hid hbk
  obtain ⟨⟨b, off, v0, v1, rfl, -⟩, -⟩ := hbk
  clear b2
  go_wp2_with fail
  have bA := (Below.refl w2.heap.size w2).alloc (Nat.le_refl _) (.cells #[.slice (some ⟨b, off, none⟩) 2 2, .slice none 0 0, .slice none 0 0, .slice none 0 0] 35)
  have gA := heap_alloc_new w2 (.cells #[.slice (some ⟨b, off, none⟩) 2 2, .slice none 0 0, .slice none 0 0, .slice none 0 0] 35)
  obtain ⟨g, hg⟩ : ∃ g, g = w2.heap.size := ⟨_, rfl⟩
  have L3 : Lw w (.agg #[.slice (some ⟨b, off, none⟩) 2 2, .slice none 0 0, .slice none 0 0, .slice none 0 0]) #[.slice (some ⟨b, off, none⟩) 2 2, .slice none 0 0, .slice none 0 0, .slice none 0 0] A g (w2.alloc (.cells #[.slice (some ⟨b, off, none⟩) 2 2, .slice none 0 0, .slice none 0 0, .slice none 0 0] 35)) := ⟨by rw [hg]; exact gA, HBK.out.below bA, (HT.out.below HB2.out).below bA, HB2.out.trans (bA.mono HB2.out.size)⟩
  rw [← hg]
  generalize World.alloc _ _ = w3 at L3 ⊢
  have HL3 := hid L3
  clear bA gA hg L3 HBK HB2 HB1
  refine (HSP.out _ HL3.out.low).mono ?_
  rintro e w4 ⟨⟨ov, rfl, ho, hcap⟩, b4⟩
  have HL4 := hid (HL3.out.keep b4)
  have HO4 := hid ho
  obtain ⟨oa, oc, ob, oo, rfl, -⟩ := ho.view
  obtain ⟨a', n', c', e', hcap1, hcap0⟩ := hcap
  obtain ⟨on, hon⟩ : ∃ on, on = own.length := ⟨_, rfl⟩
  rw [← hon] at HO4 e' ⊢
  injection e' with e1 e2 e3
  subst e1 e2 e3
  have HON := hid hon
  have hl12 := HLEN.out
  rw [← hon] at hl12
  clear b4 ho hon HL3 HSP HBO
  go_wp2_with fail
  refine (pick_any many (on + 1) _ hm1 hm2 (by omega) (by omega)).mono ?_
  rintro e w5 ⟨rfl, rfl⟩
  obtain ⟨k, hk⟩ : ∃ k : Nat, pk many (on + 1) = (k : Int) := Int.eq_ofNat_of_zero_le (pk_range many (on + 1) (by omega)).1
  have hkn : k ≤ on := by have := (pk_range many (on + 1) (by omega)).2; omega
  rw [hk]
  clear hk
  have b0 := cell_of (i := 0) HL4.out.b rfl
  have b1 := cell_of (i := 1) HL4.out.b rfl
  have b2 := cell_of (i := 2) HL4.out.b rfl
  have b3 := cell_of (i := 3) HL4.out.b rfl
  go_wp2_with fail
  clear b0 b1 b2 b3
  refine (place_yes _ HL4.out.tabs _ _ A one1 own HL4.out.bk (HON.out ▸ HO4.out) HMAY.out (by have := HLEN.out; omega)).mono ?_
  rintro e w6 ⟨⟨pv, qv, rfl, hp, hq, hpc, hqc⟩, b6⟩
  have HL6 := hid (HL4.out.keep b6)
  have HO6 := hid (HO4.out.below b6)
  have HP6 := hid hp
  have HQ6 := hid hq
  have HPC := hid hpc
  have HQC := hid hqc
  obtain ⟨pa, pc, _, _, epv, -⟩ := hp.view
  obtain ⟨pn, hpn⟩ : ∃ pn, pn = (placeP (fun p => p ∈ A) own).1.length := ⟨_, rfl⟩
  rw [← hpn] at epv
  subst epv
  obtain ⟨qa, qc, _, _, eqv, -⟩ := hq.view
  obtain ⟨qn, hqn⟩ : ∃ qn, qn = (placeP (fun p => p ∈ A) own).2.length := ⟨_, rfl⟩
  rw [← hqn] at eqv
  subst eqv
  have HPN := hid hpn
  have HQN := hid hqn
  clear hp hq hpc hqc b6 hpn hqn HL4 HO4
  have b0 := cell_of (i := 0) HL6.out.b rfl
  have b1 := cell_of (i := 1) HL6.out.b rfl
  have b2 := cell_of (i := 2) HL6.out.b rfl
  have b3 := cell_of (i := 3) HL6.out.b rfl
  have hkc : k ≤ oc := Nat.le_trans hkn hcap1
  go_wp2_with fail
  clear b0 b1 b2 b3
  have HKP := hid (fun (y z : World) (h : (y.cell? ⟨g, 0, none⟩ = some (.slice (some ⟨b, off, none⟩) 2 2) ∧ y.cell? ⟨g, 1, none⟩ = some (.slice none 0 0) ∧ y.cell? ⟨g, 2, none⟩ = some (.slice none 0 0) ∧ y.cell? ⟨g, 3, none⟩ = some (.slice none 0 0)) ∧ Lw w (.agg #[.slice (some ⟨b, off, none⟩) 2 2, .slice none 0 0, .slice none 0 0, .slice none 0 0]) #[.slice (some ⟨b, off, none⟩) 2 2, .slice none 0 0, .slice none 0 0, .slice none 0 0] A g y ∧ SpsIn y (.slice oa on oc) own ∧ SpsIn y (.slice pa pn pc) (placeP (fun p => p ∈ A) own).1 ∧ AtsIn y (.slice qa qn qc) (placeP (fun p => p ∈ A) own).2) (hb : Below y.heap.size y z) => show (z.cell? ⟨g, 0, none⟩ = some (.slice (some ⟨b, off, none⟩) 2 2) ∧ z.cell? ⟨g, 1, none⟩ = some (.slice none 0 0) ∧ z.cell? ⟨g, 2, none⟩ = some (.slice none 0 0) ∧ z.cell? ⟨g, 3, none⟩ = some (.slice none 0 0)) ∧ Lw w (.agg #[.slice (some ⟨b, off, none⟩) 2 2, .slice none 0 0, .slice none 0 0, .slice none 0 0]) #[.slice (some ⟨b, off, none⟩) 2 2, .slice none 0 0, .slice none 0 0, .slice none 0 0] A g z ∧ SpsIn z (.slice oa on oc) own ∧ SpsIn z (.slice pa pn pc) (placeP (fun p => p ∈ A) own).1 ∧ AtsIn z (.slice qa qn qc) (placeP (fun p => p ∈ A) own).2 from ⟨⟨cell_of (i := 0) (h.2.1.keep hb).b rfl, cell_of (i := 1) (h.2.1.keep hb).b rfl, cell_of (i := 2) (h.2.1.keep hb).b rfl, cell_of (i := 3) (h.2.1.keep hb).b rfl⟩, h.2.1.keep hb, h.2.2.1.below hb, h.2.2.2.1.below hb, h.2.2.2.2.below hb⟩)
  have HC0 := hid (HKP.out w6 w6.drew ⟨⟨cell_of (i := 0) HL6.out.b rfl, cell_of (i := 1) HL6.out.b rfl, cell_of (i := 2) HL6.out.b rfl, cell_of (i := 3) HL6.out.b rfl⟩, HL6.out, HO6.out, HP6.out, HQ6.out⟩ (Below.refl _ w6).drew)
  have HPL := hid (fun (y : World) (h : (y.cell? ⟨g, 0, none⟩ = some (.slice (some ⟨b, off, none⟩) 2 2) ∧ y.cell? ⟨g, 1, none⟩ = some (.slice none 0 0) ∧ y.cell? ⟨g, 2, none⟩ = some (.slice none 0 0) ∧ y.cell? ⟨g, 3, none⟩ = some (.slice none 0 0)) ∧ Lw w (.agg #[.slice (some ⟨b, off, none⟩) 2 2, .slice none 0 0, .slice none 0 0, .slice none 0 0]) #[.slice (some ⟨b, off, none⟩) 2 2, .slice none 0 0, .slice none 0 0, .slice none 0 0] A g y ∧ SpsIn y (.slice oa on oc) own ∧ SpsIn y (.slice pa pn pc) (placeP (fun p => p ∈ A) own).1 ∧ AtsIn y (.slice qa qn qc) (placeP (fun p => p ∈ A) own).2) => place_yes y h.2.1.tabs _ (.slice oa k oc) A one1 (own.take k) h.2.1.bk (h.2.2.1.take hkn) (mayP_take HMAY.out k) (by rw [List.length_take]; have := HLEN.out; omega))
  clear HL6 HO6 HP6 HQ6
  go_region_held (fun y => (y.cell? ⟨g, 0, none⟩ = some (.slice (some ⟨b, off, none⟩) 2 2) ∧ y.cell? ⟨g, 1, none⟩ = some (.slice none 0 0) ∧ y.cell? ⟨g, 2, none⟩ = some (.slice none 0 0) ∧ y.cell? ⟨g, 3, none⟩ = some (.slice none 0 0)) ∧ Lw w (.agg #[.slice (some ⟨b, off, none⟩) 2 2, .slice none 0 0, .slice none 0 0, .slice none 0 0]) #[.slice (some ⟨b, off, none⟩) 2 2, .slice none 0 0, .slice none 0 0, .slice none 0 0] A g y ∧ SpsIn y (.slice oa on oc) own ∧ SpsIn y (.slice pa pn pc) (placeP (fun p => p ∈ A) own).1 ∧ AtsIn y (.slice qa qn qc) (placeP (fun p => p ∈ A) own).2) (first | exact HC0.out | (refine HKP.out _ _ ?_ ‹Below _ _ _›; assumption)) (first | (go_at_call 14; refine (HPL.out _ (by assumption)).mono ?_; rintro e w7 ⟨⟨rv, sv, rfl, hr, hs, hrc, hsc⟩, b7⟩))
  have hmo : Lw w (.agg #[.slice (some ⟨b, off, none⟩) 2 2, .slice none 0 0, .slice none 0 0, .slice none 0 0]) #[.slice (some ⟨b, off, none⟩) 2 2, .slice none 0 0, .slice none 0 0, .slice none 0 0] A g w7 ∧ SpsIn w7 (.slice oa on oc) own ∧ SpsIn w7 (.slice pa pn pc) (placeP (fun p => p ∈ A) own).1 ∧ AtsIn w7 (.slice qa qn qc) (placeP (fun p => p ∈ A) own).2 := by apply mo_of; assumption
  have HL7 := hid hmo.1
  have HP7 := hid hmo.2.2.1
  have HQ7 := hid hmo.2.2.2
  have HR7 := hid hr
  have HS7 := hid hs
  have hsame := place_take_same (fun p => p ∈ A) own k
  have hle := place_take_le (fun p => p ∈ A) own k
  have hsum := placeP_length (own.take k) (fun p => p ∈ A)
  rw [List.length_take, ← HON.out, Nat.min_eq_left hkn] at hsum
  obtain ⟨ra, rc, _, _, erv, -⟩ := hr.view
  obtain ⟨rn, hrn⟩ : ∃ rn, rn = (placeP (fun p => p ∈ A) (own.take k)).1.length := ⟨_, rfl⟩
  rw [← hrn] at erv hsame hsum
  subst erv
  obtain ⟨sa, sc, _, _, esv, -⟩ := hs.view
  obtain ⟨sn, hsn⟩ : ∃ sn, sn = (placeP (fun p => p ∈ A) (own.take k)).2.length := ⟨_, rfl⟩
  rw [← hsn] at esv hsame hsum
  subst esv
  have hrp : rn ≤ pn := by
    obtain ⟨x, y, e1, -⟩ := hle
    rw [hrn, HPN.out, e1, List.length_append]
    omega
  have hsq : sn ≤ qn := by
    obtain ⟨x, y, -, e2⟩ := hle
    rw [hsn, HQN.out, e2, List.length_append]
    omega
  have hpc : pn ≤ pc := by obtain ⟨_, _, _, e, h, -⟩ := HPC.out; injection e with e1 e2 e3; rw [e2, e3]; exact h
  have hqc : qn ≤ qc := by obtain ⟨_, _, _, e, h, -⟩ := HQC.out; injection e with e1 e2 e3; rw [e2, e3]; exact h
  have HS1 := hid hsame.1
  have HS2 := hid hsame.2
  have t1 : ((rn : Int) ≤ (pn : Int)) = True := by rw [eq_iff_iff, iff_true]; omega
  have t2 : ((sn : Int) ≤ (qn : Int)) = True := by rw [eq_iff_iff, iff_true]; omega
  have hrpc : rn ≤ pc := Nat.le_trans hrp hpc
  have hsqc : sn ≤ qc := Nat.le_trans hsq hqc
  have hmin1 : min (rn : Int) (pn : Int) = (rn : Int) := by omega
  have hmin2 : min (sn : Int) (qn : Int) = (sn : Int) := by omega
  clear hr hs hrc hsc hmo hsame hle hrn hsn b7 HPC HQC HPN HQN HKP HC0 HPL
  go_wp2_with fail
  refine (spsame_any _ _ _ _ _ (HP7.out.take (c' := pc) hrp) HR7.out (fun x hx => small_placed HSML.out x (List.mem_of_mem_take hx)) (small_placed (fun x hx => HSML.out x (List.mem_of_mem_take hx)))).mono ?_
  rw [decide_eq_true HS1.out]
  rintro e w8 ⟨rfl, b8⟩
  have HL8 := hid (HL7.out.keep b8)
  have HQ8 := hid (HQ7.out.below b8)
  have HS8 := hid (HS7.out.below b8)
  clear b8
  go_wp2_with fail
  refine (atsame_any _ _ _ _ _ (HQ8.out.takeN (c' := qc) hsq) HS8.out (fun x hx => small_blocked HSML.out x (List.mem_of_mem_take hx)) (small_blocked (fun x hx => HSML.out x (List.mem_of_mem_take hx)))).mono ?_
  rw [decide_eq_true HS2.out]
  rintro e w9 ⟨rfl, b9⟩
  have HL9 := hid (HL8.out.keep b9)
  clear b9
  have hk2 : (rn : Int) + (sn : Int) = (k : Int) := by omega
  go_wp2_with fail
  go_ret
  exact ⟨rfl, HL9.out.low⟩
end Go.Proofs.YtmmknjpcffaidaaGreatDoor
