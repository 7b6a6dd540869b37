/- The law SpillSmall: a spill of one cell is placed, a smaller one too, and without other cells all that stay on the sheet. Condition: utf8's tables lie as they were laid. -/
import Derived.Test.YtmmknjpcffaidaaGreatDoorSpMore
import Derived.Test.YtmmknjpcffaidaaGreatDoorSpSmallP
import Derived.Test.YtmmknjpcffaidaaGreatDoorSpTreeH
namespace Go.Proofs.YtmmknjpcffaidaaGreatDoor
open Go.RowKit Go.Lib

def wd (v : Int) : Prop := -9223372036854775808 ≤ v ∧ v ≤ 9223372036854775807
/-- what stands while the law goes: its workbook, and three spills -/
structure Sq (w : World) (bv : Value) (bc : Array Value) (A : List PAt) (g gs go gl : Nat) (x : PSp) (r c : Int) (y : World) : Prop where
  lw : Lw w bv bc A g y
  s : y.heap[gs]? = some (.cells #[.int .i64 x.1.1, .int .i64 x.1.2.1, .int .i64 x.1.2.2, .int .i64 x.2.1, .int .i64 x.2.2] 27 (0, 0))
  o : y.heap[go]? = some (.cells #[.int .i64 x.1.1, .int .i64 x.1.2.1, .int .i64 x.1.2.2, .int .i64 1, .int .i64 1] 27 (0, 0))
  l : y.heap[gl]? = some (.cells #[.int .i64 x.1.1, .int .i64 x.1.2.1, .int .i64 x.1.2.2, .int .i64 r, .int .i64 c] 27 (0, 0))
theorem Sq.keep {w y z : World} {bv : Value} {bc : Array Value} {A : List PAt} {g gs go gl : Nat} {x : PSp} {r c : Int} (h : Sq w bv bc A g gs go gl x r c y) (hb : Below y.heap.size y z) : Sq w bv bc A g gs go gl x r c z :=
  ⟨h.lw.keep hb, (hb.block _ (heap_lt h.s)).trans h.s, (hb.block _ (heap_lt h.o)).trans h.o, (hb.block _ (heap_lt h.l)).trans h.l⟩

/-- the cells of one place -/
theorem cell_one (y : World) (p : PAt) (b : Nat) (h : y.heap[b]? = some (.cells #[.int .i64 p.2.1, .int .i64 p.2.2, .string textE] 63 (0, 0))) : CellsIn y (.slice (some ⟨b, 0, none⟩) 1 1) (fun _ => textE) [p] := by
  refine ⟨_, 1, b, 0, rfl, by simp, fun j cs hj => ⟨rfl, fun i u hu => ?_⟩⟩
  have hj0 : j = 0 := by have := (List.getElem?_eq_some_iff.1 hj).1; simp at this; omega
  subst hj0
  simp at hj
  subst hj
  refine cell_of h ?_
  simpa [cellC] using hu
/-- the workbook with one cell, in memory -/
theorem alone_book (y : World) (p : PAt) (hp : InTwo p) (b c : Nat) (v0 v1 : Value) (hv : (p.1 = 0 ∧ v0 = .slice (some ⟨c, 0, none⟩) 1 1 ∧ v1 = .slice none 0 0) ∨ (p.1 = 1 ∧ v0 = .slice none 0 0 ∧ v1 = .slice (some ⟨c, 0, none⟩) 1 1))
    (hb : y.heap[b]? = some (.cells #[.string nameS, v0, .string nameT, v1] 61 (0, 0))) (hc : y.heap[c]? = some (.cells #[.int .i64 p.2.1, .int .i64 p.2.2, .string textE] 63 (0, 0))) :
    BookAt y (.agg #[.slice (some ⟨b, 0, none⟩) 2 2, .slice none 0 0, .slice none 0 0, .slice none 0 0]) [p] (fun _ => textE) := by
  refine ⟨⟨b, 0, v0, v1, rfl, cell_of hb rfl, cell_of hb rfl, cell_of hb rfl, cell_of hb rfl, ?_, ?_⟩, alone_rising p, by simpa using hp, by simp, fun q _ => inOk_eq⟩
  · rw [alone_sheet]
    rcases hv with ⟨h0, rfl, rfl⟩ | ⟨h0, rfl, rfl⟩
    · rw [if_pos h0]; exact cell_one y p c hc
    · rw [if_neg (by omega)]; exact rowIn_nil y 3 none 0
  · rw [alone_sheet]
    rcases hv with ⟨h0, rfl, rfl⟩ | ⟨h0, rfl, rfl⟩
    · rw [if_neg (by omega)]; exact rowIn_nil y 3 none 0
    · rw [if_pos h0]; exact cell_one y p c hc

set_option maxRecDepth 100000 in
set_option maxHeartbeats 4000000 in
theorem smallL_any (w : World) (hT : Tabs w) (lv sv : Value) (L : List PAt) (z : List (Int × Int)) (which rows cols : Int) (hl : AtsIn w lv L) (hL : ∀ p, p ∈ L → SmallAt p) (hz : PairsIn w sv z) (hZ : ∀ n, n ∈ z → SmallPair n)
    (hw1 : wd which) (hw2 : wd rows) (hw3 : wd cols) :
    Calls Tryz.prog 7 #[lv, sv, .int .i64 which, .int .i64 rows, .int .i64 cols] w fun e w' => e = .returned (.bool true) ∧ Below w.heap.size w w' := by
  obtain ⟨A, hA⟩ : ∃ A, A = atsOf L := ⟨_, rfl⟩
  have HBO := hid (fun (y : World) (hb : Below w.heap.size w y) => by have := book_any y lv L (hl.below hb) hL; rwa [← hA] at this)
  have HSP := hid (fun (y : World) (hb : Below w.heap.size w y) => by have := spills_any y lv sv L z (hl.below hb) hL (hz.below hb) hZ; rwa [← hA] at this)
  have hok := atsOf_ok L
  have hpd := pd_of L z
  rw [← hA] at hok hpd
  obtain ⟨own, hown⟩ : ∃ own, own = ownOf A z := ⟨_, rfl⟩
  rw [← hown] at HSP hpd
  have HLEN := hid (show own.length ≤ 12 by rw [hown]; exact Nat.le_trans (ownOf_ok hok.rising z).few hok.few)
  have HPD := hid hpd
  have HAW := hid (awake_any w hT)
  have HT := hid hT
  obtain ⟨la, ln, lc, rfl⟩ : ∃ a n c, lv = .slice a n c := by obtain ⟨a, c, _, _, e, _⟩ := hl.view; exact ⟨_, _, _, e⟩
  obtain ⟨za, zn, zc, rfl⟩ : ∃ a n c, sv = .slice a n c := by obtain ⟨a, c, _, _, e, _⟩ := hz.view; exact ⟨_, _, _, e⟩
  clear hl hL hz hZ hA hok hown hT hpd
  go_enter Tryz.func7, Tryz.ntmps7
  go_wp2_with fail
  refine HAW.out.mono ?_
  rintro e w1 ⟨rfl, b1⟩
  have HB1 := hid b1
  clear b1 HAW
  go_wp2_with fail
  refine (HBO.out _ HB1.out).mono ?_
  rintro e w2 ⟨⟨bv, rfl, hbk⟩, b2⟩
  have HB2 := hid (HB1.out.trans (b2.mono HB1.out.size))
  have HBK := hid hbk
  obtain ⟨⟨b, off, v0, v1, rfl, -⟩, -⟩ := hbk
  clear b2
  go_wp2_with fail
  have bA := (Below.refl w2.heap.size w2).alloc (Nat.le_refl _) (.cells #[.slice (some ⟨b, off, none⟩) 2 2, .slice none 0 0, .slice none 0 0, .slice none 0 0] 35)
  have gA := heap_alloc_new w2 (.cells #[.slice (some ⟨b, off, none⟩) 2 2, .slice none 0 0, .slice none 0 0, .slice none 0 0] 35)
  obtain ⟨g, hg⟩ : ∃ g, g = w2.heap.size := ⟨_, rfl⟩
  have L3 : Lw w (.agg #[.slice (some ⟨b, off, none⟩) 2 2, .slice none 0 0, .slice none 0 0, .slice none 0 0]) #[.slice (some ⟨b, off, none⟩) 2 2, .slice none 0 0, .slice none 0 0, .slice none 0 0] A g (w2.alloc (.cells #[.slice (some ⟨b, off, none⟩) 2 2, .slice none 0 0, .slice none 0 0, .slice none 0 0] 35)) := ⟨by rw [hg]; exact gA, HBK.out.below bA, (HT.out.below HB2.out).below bA, HB2.out.trans (bA.mono HB2.out.size)⟩
  rw [← hg]
  generalize World.alloc _ _ = w3 at L3 ⊢
  have HL3 := hid L3
  clear bA gA hg L3 HBK HB2 HB1
  refine (HSP.out _ HL3.out.low).mono ?_
  rintro e w4 ⟨⟨ov, rfl, ho, hcap⟩, b4⟩
  have HL4 := hid (HL3.out.keep b4)
  obtain ⟨oa, oc, ob, oo, rfl, hol, how⟩ := ho.view
  obtain ⟨on, hon⟩ : ∃ on, on = own.length := ⟨_, rfl⟩
  rw [← hon] at hol ⊢
  have HON := hid hon
  have HOW := hid how
  have hon12 : on ≤ 12 := by rw [HON.out]; exact HLEN.out
  clear b4 ho hon how hcap HL3 HSP HBO
  by_cases hn0 : on = 0
  · subst hn0
    have hd : ((((0 : Nat) : Int)) = 0) = True := by simp
    have HEND := hid HL4.out.low
    go_wp2_with fail
    go_ret
    exact ⟨rfl, HEND.out⟩
  · have hd : ((on : Int) = 0) = False := by rw [eq_iff_iff, iff_false]; omega
    go_wp2_with fail
    refine (pick_any which on _ hw1.1 hw1.2 (by omega) (by omega)).mono ?_
    rintro e w5 ⟨rfl, rfl⟩
    obtain ⟨k, hk⟩ : ∃ k : Nat, pk which on = (k : Int) := Int.eq_ofNat_of_zero_le (pk_range which on (by omega)).1
    have hkn : k < on := by have := (pk_range which on (by omega)).2; omega
    rw [hk]
    clear hk
    obtain ⟨x, hx⟩ : ∃ x, own[k]? = some x := ⟨_, List.getElem?_eq_getElem (by rw [← HON.out]; exact hkn)⟩
    obtain ⟨rfl, r0, r1, r2, r3, r4⟩ := HOW.out k x hx
    have hxm := List.mem_of_getElem? hx
    have hsz := HPD.out.size x hxm
    have HX := hid hxm
    have hq1 := pk_range rows x.2.1 (by omega)
    have hq2 := pk_range cols x.2.2 (by omega)
    go_wp2_with fail
    refine (pick_any rows x.2.1 _ hw2.1 hw2.2 (by omega) (by omega)).mono ?_
    rintro e w6 ⟨rfl, rfl⟩
    have gw1 : IntKind.i64.wrap (1 + pk rows x.2.1) = 1 + pk rows x.2.1 := IntWalk.i64_in _ (by omega)
    have gw2 : IntKind.i64.wrap (1 + pk cols x.2.2) = 1 + pk cols x.2.2 := IntWalk.i64_in _ (by omega)
    go_wp2_with fail
    refine (pick_any cols x.2.2 _ hw3.1 hw3.2 (by omega) (by omega)).mono ?_
    rintro e w7 ⟨rfl, rfl⟩
    obtain ⟨r, hr⟩ : ∃ r, r = 1 + pk rows x.2.1 := ⟨_, rfl⟩
    obtain ⟨c, hc⟩ : ∃ c, c = 1 + pk cols x.2.2 := ⟨_, rfl⟩
    have HR := hid (show 1 ≤ r ∧ r ≤ x.2.1 by omega)
    have HC := hid (show 1 ≤ c ∧ c ≤ x.2.2 by omega)
    have hrl : IntKind.i64.wrap (1 + pk cols x.2.2) = c := by rw [gw2, hc]
    rw [← hr]
    clear gw1 gw2 hq1 hq2 hr hc r0 r1 r2 r3 r4
    have bW := ((((Below.refl w4.heap.size w4).alloc (Nat.le_refl _) (.cells #[.int .i64 x.1.1, .int .i64 x.1.2.1, .int .i64 x.1.2.2, .int .i64 x.2.1, .int .i64 x.2.2] 27)).alloc (by simp) (.cells #[.int .i64 x.1.1, .int .i64 x.1.2.1, .int .i64 x.1.2.2, .int .i64 1, .int .i64 1] 27)).alloc (by simp; omega) (.cells #[.int .i64 x.1.1, .int .i64 x.1.2.1, .int .i64 x.1.2.2, .int .i64 r, .int .i64 c] 27))
    have hs0 := heap_alloc_keep (heap_alloc_keep (heap_alloc_new w4 (.cells #[.int .i64 x.1.1, .int .i64 x.1.2.1, .int .i64 x.1.2.2, .int .i64 x.2.1, .int .i64 x.2.2] 27)) (.cells #[.int .i64 x.1.1, .int .i64 x.1.2.1, .int .i64 x.1.2.2, .int .i64 1, .int .i64 1] 27)) (.cells #[.int .i64 x.1.1, .int .i64 x.1.2.1, .int .i64 x.1.2.2, .int .i64 r, .int .i64 c] 27)
    have hs1 := heap_alloc_keep (heap_alloc2_new w4 (.cells #[.int .i64 x.1.1, .int .i64 x.1.2.1, .int .i64 x.1.2.2, .int .i64 x.2.1, .int .i64 x.2.2] 27) (.cells #[.int .i64 x.1.1, .int .i64 x.1.2.1, .int .i64 x.1.2.2, .int .i64 1, .int .i64 1] 27)) (.cells #[.int .i64 x.1.1, .int .i64 x.1.2.1, .int .i64 x.1.2.2, .int .i64 r, .int .i64 c] 27)
    have hs2 := heap_alloc2_new (w4.alloc (.cells #[.int .i64 x.1.1, .int .i64 x.1.2.1, .int .i64 x.1.2.2, .int .i64 x.2.1, .int .i64 x.2.2] 27)) (.cells #[.int .i64 x.1.1, .int .i64 x.1.2.1, .int .i64 x.1.2.2, .int .i64 1, .int .i64 1] 27) (.cells #[.int .i64 x.1.1, .int .i64 x.1.2.1, .int .i64 x.1.2.2, .int .i64 r, .int .i64 c] 27)
    rw [World.size_alloc] at hs2
    have HSQ := hid (show Sq w (.agg #[.slice (some ⟨b, off, none⟩) 2 2, .slice none 0 0, .slice none 0 0, .slice none 0 0]) #[.slice (some ⟨b, off, none⟩) 2 2, .slice none 0 0, .slice none 0 0, .slice none 0 0] A g w4.heap.size (w4.heap.size + 1) (w4.heap.size + 1 + 1) x r c (((w4.alloc (.cells #[.int .i64 x.1.1, .int .i64 x.1.2.1, .int .i64 x.1.2.2, .int .i64 x.2.1, .int .i64 x.2.2] 27)).alloc (.cells #[.int .i64 x.1.1, .int .i64 x.1.2.1, .int .i64 x.1.2.2, .int .i64 1, .int .i64 1] 27)).alloc (.cells #[.int .i64 x.1.1, .int .i64 x.1.2.1, .int .i64 x.1.2.2, .int .i64 r, .int .i64 c] 27)) from ⟨HL4.out.keep bW, hs0, hs1, hs2⟩)
    have b0 := cell_of (i := 0) HSQ.out.lw.b rfl
    have b1 := cell_of (i := 1) HSQ.out.lw.b rfl
    have b2 := cell_of (i := 2) HSQ.out.lw.b rfl
    have b3 := cell_of (i := 3) HSQ.out.lw.b rfl
    clear bW hs0 hs1 hs2
    go_wp2_with fail
    obtain ⟨gs, hgs⟩ : ∃ gs, gs = w4.heap.size := ⟨_, rfl⟩
    obtain ⟨go, hgo⟩ : ∃ go, go = w4.heap.size + 1 := ⟨_, rfl⟩
    obtain ⟨gl, hgl⟩ : ∃ gl, gl = w4.heap.size + 1 + 1 := ⟨_, rfl⟩
    obtain ⟨W, hW⟩ : ∃ W, W = ((w4.alloc (.cells #[.int .i64 x.1.1, .int .i64 x.1.2.1, .int .i64 x.1.2.2, .int .i64 x.2.1, .int .i64 x.2.2] 27)).alloc (.cells #[.int .i64 x.1.1, .int .i64 x.1.2.1, .int .i64 x.1.2.2, .int .i64 1, .int .i64 1] 27)).alloc (.cells #[.int .i64 x.1.1, .int .i64 x.1.2.1, .int .i64 x.1.2.2, .int .i64 r, .int .i64 c] 27) := ⟨_, rfl⟩
    have hWs : W.heap.size = w4.heap.size + 1 + 1 + 1 := by rw [hW]; simp
    rw [← hW] at HSQ ⊢
    rw [← hWs, ← hgl, ← hgo, ← hgs]
    rw [← hgl, ← hgo, ← hgs] at HSQ
    have hI := HPD.out.two _ (HPD.out.here x hxm)
    have hHA := HPD.out.here x hxm
    have HI := hid hI
    have HM1 := hid (may_single (x := (x.1, 1, 1)) hHA (by simp) (by simp) (by simp) (by simp))
    have HM2 := hid (may_single (x := x) hHA hsz.1 hsz.2.1 hsz.2.2.1 hsz.2.2.2)
    have HM3 := hid (may_single (x := (x.1, r, c)) hHA (by have := HR.out; simp only; omega) (by have := HR.out; simp only; omega) (by have := HC.out; simp only; omega) (by have := HC.out; simp only; omega))
    have HS0 := HSQ
    clear b0 b1 b2 b3 hgs hgo hgl hW hWs hI hHA HSQ hrl
    have S1 := HS0.out.keep ((Below.refl _ _).alloc (Nat.le_refl _) (.cells #[.int .i64 x.1.1, .int .i64 x.1.2.1, .int .i64 x.1.2.2, .int .i64 1, .int .i64 1] 27))
    refine (place_yes _ S1.lw.tabs _ _ A one1 [(x.1, 1, 1)] S1.lw.bk (spsIn_new1 _ (x.1, 1, 1)) HM1.out (by simp)).mono ?_
    rintro e y1 ⟨⟨pv1, qv1, rfl, hp, -, -, -⟩, hb⟩
    obtain ⟨pa1, pc1, _, _, rfl, -⟩ := hp.view
    obtain ⟨n1, hn1⟩ : ∃ n1, n1 = (placeP (fun p => p ∈ A) [(x.1, 1, 1)]).1.length := ⟨_, rfl⟩
    rw [← hn1]
    have HN1 := hid hn1
    have HS1 := hid (S1.keep hb)
    clear hp hb S1 HS0 hn1
    have b0 := cell_of (i := 0) HS1.out.lw.b rfl
    have b1 := cell_of (i := 1) HS1.out.lw.b rfl
    have b2 := cell_of (i := 2) HS1.out.lw.b rfl
    have b3 := cell_of (i := 3) HS1.out.lw.b rfl
    have s0 := cell_of (i := 0) HS1.out.s rfl
    have s1 := cell_of (i := 1) HS1.out.s rfl
    have s2 := cell_of (i := 2) HS1.out.s rfl
    have s3 := cell_of (i := 3) HS1.out.s rfl
    have s4 := cell_of (i := 4) HS1.out.s rfl
    go_wp2_with fail
    clear b0 b1 b2 b3 s0 s1 s2 s3 s4
    have S2 := HS1.out.keep ((Below.refl _ _).alloc (Nat.le_refl _) (.cells #[.int .i64 x.1.1, .int .i64 x.1.2.1, .int .i64 x.1.2.2, .int .i64 x.2.1, .int .i64 x.2.2] 27))
    refine (place_yes _ S2.lw.tabs _ _ A one1 [x] S2.lw.bk (spsIn_new1 _ x) HM2.out (by simp)).mono ?_
    rintro e y2 ⟨⟨pv2, qv2, rfl, hp, -, -, -⟩, hb⟩
    obtain ⟨pa2, pc2, _, _, rfl, -⟩ := hp.view
    obtain ⟨n2, hn2⟩ : ∃ n2, n2 = (placeP (fun p => p ∈ A) [x]).1.length := ⟨_, rfl⟩
    rw [← hn2]
    have HN2 := hid hn2
    have HS2 := hid (S2.keep hb)
    clear hp hb S2 HS1 hn2
    have b0 := cell_of (i := 0) HS2.out.lw.b rfl
    have b1 := cell_of (i := 1) HS2.out.lw.b rfl
    have b2 := cell_of (i := 2) HS2.out.lw.b rfl
    have b3 := cell_of (i := 3) HS2.out.lw.b rfl
    have s0 := cell_of (i := 0) HS2.out.l rfl
    have s1 := cell_of (i := 1) HS2.out.l rfl
    have s2 := cell_of (i := 2) HS2.out.l rfl
    have s3 := cell_of (i := 3) HS2.out.l rfl
    have s4 := cell_of (i := 4) HS2.out.l rfl
    go_wp2_with fail
    clear b0 b1 b2 b3 s0 s1 s2 s3 s4
    have S3 := HS2.out.keep ((Below.refl _ _).alloc (Nat.le_refl _) (.cells #[.int .i64 x.1.1, .int .i64 x.1.2.1, .int .i64 x.1.2.2, .int .i64 r, .int .i64 c] 27))
    refine (place_yes _ S3.lw.tabs _ _ A one1 [(x.1, r, c)] S3.lw.bk (spsIn_new1 _ (x.1, r, c)) HM3.out (by simp)).mono ?_
    rintro e y3 ⟨⟨pv3, qv3, rfl, hp, -, -, -⟩, hb⟩
    obtain ⟨pa3, pc3, _, _, rfl, -⟩ := hp.view
    obtain ⟨n3, hn3⟩ : ∃ n3, n3 = (placeP (fun p => p ∈ A) [(x.1, r, c)]).1.length := ⟨_, rfl⟩
    rw [← hn3]
    have HN3 := hid hn3
    have HS3 := hid (S3.keep hb)
    clear hp hb S3 HS2 hn3
    have h1 : n1 = 1 := by rw [HN1.out, (single_yes (one_placed HI.out _)).1]; rfl
    have h23 : n2 = 0 ∨ n3 = 1 := by
      by_cases hh : rightP x ∧ freeP x (fun p => p ∈ A)
      · right
        rw [HN3.out, (single_yes (less_placed hh HR.out.1 HR.out.2 HC.out.1 HC.out.2)).1]
        rfl
      · left
        rw [HN2.out, (single_no hh).1]
        rfl
    subst h1
    have H23 := hid h23
    clear h23 HN1 HN2 HN3 HM1 HM2 HM3
    have HM4 := hid (may_single (A := [x.1]) (x := x) (by simp) hsz.1 hsz.2.1 hsz.2.2.1 hsz.2.2.2)
    rcases (show x.1.1 = 0 ∨ x.1.1 = 1 by have := HI.out; unfold InTwo at this; omega) with hx0 | hx0
    · have bU := (((Below.refl y3.heap.size y3).alloc (Nat.le_refl _) (.cells #[.string nameS, .slice none 0 0, .string nameT, .slice none 0 0] 61)).alloc (by simp) (.cells #[.slice (some ⟨y3.heap.size, 0, none⟩) 2 2, .slice none 0 0, .slice none 0 0, .slice none 0 0] 35))
      have T3 := HS3.out.keep bU
      have s0 := cell_of (i := 0) T3.s rfl
      have s1 := cell_of (i := 1) T3.s rfl
      have s2 := cell_of (i := 2) T3.s rfl
      rw [hx0] at s0
      clear bU T3
      have bU := ((((Below.refl y3.heap.size y3).alloc (Nat.le_refl _) (.cells #[.string nameS, .slice (some ⟨y3.heap.size + 1 + 1, 0, none⟩) 1 1, .string nameT, .slice none 0 0] 61)).alloc (by simp) (.cells #[.slice (some ⟨y3.heap.size, 0, none⟩) 2 2, .slice none 0 0, .slice none 0 0, .slice none 0 0] 35)).alloc (by simp; omega) (.cells #[.int .i64 x.1.2.1, .int .i64 x.1.2.2, .string textE] 63))
      have hs0 := heap_alloc_keep (heap_alloc_keep (heap_alloc_new y3 (.cells #[.string nameS, .slice (some ⟨y3.heap.size + 1 + 1, 0, none⟩) 1 1, .string nameT, .slice none 0 0] 61)) (.cells #[.slice (some ⟨y3.heap.size, 0, none⟩) 2 2, .slice none 0 0, .slice none 0 0, .slice none 0 0] 35)) (.cells #[.int .i64 x.1.2.1, .int .i64 x.1.2.2, .string textE] 63)
      have hs2 := heap_alloc2_new (y3.alloc (.cells #[.string nameS, .slice (some ⟨y3.heap.size + 1 + 1, 0, none⟩) 1 1, .string nameT, .slice none 0 0] 61)) (.cells #[.slice (some ⟨y3.heap.size, 0, none⟩) 2 2, .slice none 0 0, .slice none 0 0, .slice none 0 0] 35) (.cells #[.int .i64 x.1.2.1, .int .i64 x.1.2.2, .string textE] 63)
      rw [World.size_alloc] at hs2
      have T3 := HS3.out.keep bU
      have u0 := cell_of (i := 0) T3.s rfl
      have u1 := cell_of (i := 1) T3.s rfl
      have u2 := cell_of (i := 2) T3.s rfl
      have u3 := cell_of (i := 3) T3.s rfl
      have u4 := cell_of (i := 4) T3.s rfl
      have HT3 := hid T3
      have HBA := hid (alone_book _ x.1 HI.out _ _ _ _ (.inl ⟨hx0, rfl, rfl⟩) hs0 hs2)
      rw [hx0] at u0
      clear bU T3 hs0 hs2
      go_wp2_with fail
      clear s0 s1 s2 u0 u1 u2 u3 u4
      have bV := (Below.refl (((y3.alloc (.cells #[.string nameS, .slice (some ⟨y3.heap.size + 1 + 1, 0, none⟩) 1 1, .string nameT, .slice none 0 0] 61)).alloc (.cells #[.slice (some ⟨y3.heap.size, 0, none⟩) 2 2, .slice none 0 0, .slice none 0 0, .slice none 0 0] 35)).alloc (.cells #[.int .i64 x.1.2.1, .int .i64 x.1.2.2, .string textE] 63)).heap.size _).alloc (Nat.le_refl _) (.cells #[.int .i64 0, .int .i64 x.1.2.1, .int .i64 x.1.2.2, .int .i64 x.2.1, .int .i64 x.2.2] 27)
      have T4 := HT3.out.keep bV
      have hB4 := HBA.out.below bV
      have hsp := spsIn_new1 (((y3.alloc (.cells #[.string nameS, .slice (some ⟨y3.heap.size + 1 + 1, 0, none⟩) 1 1, .string nameT, .slice none 0 0] 61)).alloc (.cells #[.slice (some ⟨y3.heap.size, 0, none⟩) 2 2, .slice none 0 0, .slice none 0 0, .slice none 0 0] 35)).alloc (.cells #[.int .i64 x.1.2.1, .int .i64 x.1.2.2, .string textE] 63)) x
      rw [hx0] at hsp
      simp only [World.size_alloc] at hsp
      refine (place_yes _ T4.lw.tabs _ _ [x.1] (fun _ => textE) [x] hB4 hsp HM4.out (by simp)).mono ?_
      rintro e y4 ⟨⟨pv4, qv4, rfl, hp, -, -, -⟩, hb⟩
      obtain ⟨pa4, pc4, _, _, rfl, -⟩ := hp.view
      obtain ⟨n4, hn4⟩ : ∃ n4, n4 = (placeP (fun p => p ∈ [x.1]) [x]).1.length := ⟨_, rfl⟩
      rw [← hn4]
      have HN4 := hid hn4
      have HS4 := hid (T4.keep hb)
      clear hp hb T4 HS3 hn4 bV hB4 hsp HBA HT3
      have HEND := hid HS4.out.lw.low
      have t1 := cell_of (i := 1) HS4.out.s rfl
      have t2 := cell_of (i := 2) HS4.out.s rfl
      have t3 := cell_of (i := 3) HS4.out.s rfl
      have t4 := cell_of (i := 4) HS4.out.s rfl
      have hI2 := HI.out
      unfold InTwo at hI2
      have gw1 : IntKind.i64.wrap (x.1.2.1 + x.2.1) = x.1.2.1 + x.2.1 := IntWalk.i64_in _ (by omega)
      have gw2 : IntKind.i64.wrap (x.1.2.2 + x.2.2) = x.1.2.2 + x.2.2 := IntWalk.i64_in _ (by omega)
      have hal := alone_placed (x := x) HI.out hsz.1 hsz.2.2.1
      rcases (show (x.1.2.1 + x.2.1 ≤ 200 ∧ x.1.2.2 + x.2.2 ≤ 52 ∧ n4 = 1) ∨ (x.1.2.1 + x.2.1 ≤ 200 ∧ ¬ x.1.2.2 + x.2.2 ≤ 52 ∧ n4 = 0) ∨ (¬ x.1.2.1 + x.2.1 ≤ 200 ∧ n4 = 0) by
        by_cases f1 : x.1.2.1 + x.2.1 ≤ 200
        · by_cases f2 : x.1.2.2 + x.2.2 ≤ 52
          · exact .inl ⟨f1, f2, by rw [HN4.out, (single_yes (hal.2 ⟨f1, f2⟩)).1]; rfl⟩
          · exact .inr (.inl ⟨f1, f2, by rw [HN4.out, (single_no (fun hh => f2 (hal.1 hh).2)).1]; rfl⟩)
        · exact .inr (.inr ⟨f1, by rw [HN4.out, (single_no (fun hh => f1 (hal.1 hh).1)).1]; rfl⟩)) with ⟨f1, f2, rfl⟩ | ⟨f1, f2, rfl⟩ | ⟨f1, rfl⟩
      · have e1 : (x.1.2.1 + x.2.1 ≤ 200) = True := by rw [eq_iff_iff, iff_true]; exact f1
        have e2 : (x.1.2.2 + x.2.2 ≤ 52) = True := by rw [eq_iff_iff, iff_true]; exact f2
        have h23 := H23.out
        clear hal f1 f2 hI2 hsz
        by_cases h2 : n2 = 0
        · subst h2
          clear h23
          go_wp2_with fail
          go_ret
          exact ⟨rfl, HEND.out⟩
        · have h3 : n3 = 1 := by omega
          subst h3
          have hd2 : ((n2 : Int) = 0) = False := by rw [eq_iff_iff, iff_false]; omega
          clear h23
          go_wp2_with fail
          go_ret
          exact ⟨rfl, HEND.out⟩
      · have e1 : (x.1.2.1 + x.2.1 ≤ 200) = True := by rw [eq_iff_iff, iff_true]; exact f1
        have e2 : (x.1.2.2 + x.2.2 ≤ 52) = False := by rw [eq_iff_iff, iff_false]; exact f2
        have h23 := H23.out
        clear hal f1 f2 hI2 hsz
        by_cases h2 : n2 = 0
        · subst h2
          clear h23
          go_wp2_with fail
          go_ret
          exact ⟨rfl, HEND.out⟩
        · have h3 : n3 = 1 := by omega
          subst h3
          have hd2 : ((n2 : Int) = 0) = False := by rw [eq_iff_iff, iff_false]; omega
          clear h23
          go_wp2_with fail
          go_ret
          exact ⟨rfl, HEND.out⟩
      · have e1 : (x.1.2.1 + x.2.1 ≤ 200) = False := by rw [eq_iff_iff, iff_false]; exact f1
        have h23 := H23.out
        clear hal f1 hI2 hsz
        by_cases h2 : n2 = 0
        · subst h2
          clear h23
          go_wp2_with fail
          go_ret
          exact ⟨rfl, HEND.out⟩
        · have h3 : n3 = 1 := by omega
          subst h3
          have hd2 : ((n2 : Int) = 0) = False := by rw [eq_iff_iff, iff_false]; omega
          clear h23
          go_wp2_with fail
          go_ret
          exact ⟨rfl, HEND.out⟩
    · have bU := (((Below.refl y3.heap.size y3).alloc (Nat.le_refl _) (.cells #[.string nameS, .slice none 0 0, .string nameT, .slice none 0 0] 61)).alloc (by simp) (.cells #[.slice (some ⟨y3.heap.size, 0, none⟩) 2 2, .slice none 0 0, .slice none 0 0, .slice none 0 0] 35))
      have T3 := HS3.out.keep bU
      have s0 := cell_of (i := 0) T3.s rfl
      have s1 := cell_of (i := 1) T3.s rfl
      have s2 := cell_of (i := 2) T3.s rfl
      rw [hx0] at s0
      clear bU T3
      have bU := ((((Below.refl y3.heap.size y3).alloc (Nat.le_refl _) (.cells #[.string nameS, .slice none 0 0, .string nameT, .slice (some ⟨y3.heap.size + 1 + 1, 0, none⟩) 1 1] 61)).alloc (by simp) (.cells #[.slice (some ⟨y3.heap.size, 0, none⟩) 2 2, .slice none 0 0, .slice none 0 0, .slice none 0 0] 35)).alloc (by simp; omega) (.cells #[.int .i64 x.1.2.1, .int .i64 x.1.2.2, .string textE] 63))
      have hs0 := heap_alloc_keep (heap_alloc_keep (heap_alloc_new y3 (.cells #[.string nameS, .slice none 0 0, .string nameT, .slice (some ⟨y3.heap.size + 1 + 1, 0, none⟩) 1 1] 61)) (.cells #[.slice (some ⟨y3.heap.size, 0, none⟩) 2 2, .slice none 0 0, .slice none 0 0, .slice none 0 0] 35)) (.cells #[.int .i64 x.1.2.1, .int .i64 x.1.2.2, .string textE] 63)
      have hs2 := heap_alloc2_new (y3.alloc (.cells #[.string nameS, .slice none 0 0, .string nameT, .slice (some ⟨y3.heap.size + 1 + 1, 0, none⟩) 1 1] 61)) (.cells #[.slice (some ⟨y3.heap.size, 0, none⟩) 2 2, .slice none 0 0, .slice none 0 0, .slice none 0 0] 35) (.cells #[.int .i64 x.1.2.1, .int .i64 x.1.2.2, .string textE] 63)
      rw [World.size_alloc] at hs2
      have T3 := HS3.out.keep bU
      have u0 := cell_of (i := 0) T3.s rfl
      have u1 := cell_of (i := 1) T3.s rfl
      have u2 := cell_of (i := 2) T3.s rfl
      have u3 := cell_of (i := 3) T3.s rfl
      have u4 := cell_of (i := 4) T3.s rfl
      have HT3 := hid T3
      have HBA := hid (alone_book _ x.1 HI.out _ _ _ _ (.inr ⟨hx0, rfl, rfl⟩) hs0 hs2)
      rw [hx0] at u0
      clear bU T3 hs0 hs2
      go_wp2_with fail
      clear s0 s1 s2 u0 u1 u2 u3 u4
      have bV := (Below.refl (((y3.alloc (.cells #[.string nameS, .slice none 0 0, .string nameT, .slice (some ⟨y3.heap.size + 1 + 1, 0, none⟩) 1 1] 61)).alloc (.cells #[.slice (some ⟨y3.heap.size, 0, none⟩) 2 2, .slice none 0 0, .slice none 0 0, .slice none 0 0] 35)).alloc (.cells #[.int .i64 x.1.2.1, .int .i64 x.1.2.2, .string textE] 63)).heap.size _).alloc (Nat.le_refl _) (.cells #[.int .i64 1, .int .i64 x.1.2.1, .int .i64 x.1.2.2, .int .i64 x.2.1, .int .i64 x.2.2] 27)
      have T4 := HT3.out.keep bV
      have hB4 := HBA.out.below bV
      have hsp := spsIn_new1 (((y3.alloc (.cells #[.string nameS, .slice none 0 0, .string nameT, .slice (some ⟨y3.heap.size + 1 + 1, 0, none⟩) 1 1] 61)).alloc (.cells #[.slice (some ⟨y3.heap.size, 0, none⟩) 2 2, .slice none 0 0, .slice none 0 0, .slice none 0 0] 35)).alloc (.cells #[.int .i64 x.1.2.1, .int .i64 x.1.2.2, .string textE] 63)) x
      rw [hx0] at hsp
      simp only [World.size_alloc] at hsp
      refine (place_yes _ T4.lw.tabs _ _ [x.1] (fun _ => textE) [x] hB4 hsp HM4.out (by simp)).mono ?_
      rintro e y4 ⟨⟨pv4, qv4, rfl, hp, -, -, -⟩, hb⟩
      obtain ⟨pa4, pc4, _, _, rfl, -⟩ := hp.view
      obtain ⟨n4, hn4⟩ : ∃ n4, n4 = (placeP (fun p => p ∈ [x.1]) [x]).1.length := ⟨_, rfl⟩
      rw [← hn4]
      have HN4 := hid hn4
      have HS4 := hid (T4.keep hb)
      clear hp hb T4 HS3 hn4 bV hB4 hsp HBA HT3
      have HEND := hid HS4.out.lw.low
      have t1 := cell_of (i := 1) HS4.out.s rfl
      have t2 := cell_of (i := 2) HS4.out.s rfl
      have t3 := cell_of (i := 3) HS4.out.s rfl
      have t4 := cell_of (i := 4) HS4.out.s rfl
      have hI2 := HI.out
      unfold InTwo at hI2
      have gw1 : IntKind.i64.wrap (x.1.2.1 + x.2.1) = x.1.2.1 + x.2.1 := IntWalk.i64_in _ (by omega)
      have gw2 : IntKind.i64.wrap (x.1.2.2 + x.2.2) = x.1.2.2 + x.2.2 := IntWalk.i64_in _ (by omega)
      have hal := alone_placed (x := x) HI.out hsz.1 hsz.2.2.1
      rcases (show (x.1.2.1 + x.2.1 ≤ 200 ∧ x.1.2.2 + x.2.2 ≤ 52 ∧ n4 = 1) ∨ (x.1.2.1 + x.2.1 ≤ 200 ∧ ¬ x.1.2.2 + x.2.2 ≤ 52 ∧ n4 = 0) ∨ (¬ x.1.2.1 + x.2.1 ≤ 200 ∧ n4 = 0) by
        by_cases f1 : x.1.2.1 + x.2.1 ≤ 200
        · by_cases f2 : x.1.2.2 + x.2.2 ≤ 52
          · exact .inl ⟨f1, f2, by rw [HN4.out, (single_yes (hal.2 ⟨f1, f2⟩)).1]; rfl⟩
          · exact .inr (.inl ⟨f1, f2, by rw [HN4.out, (single_no (fun hh => f2 (hal.1 hh).2)).1]; rfl⟩)
        · exact .inr (.inr ⟨f1, by rw [HN4.out, (single_no (fun hh => f1 (hal.1 hh).1)).1]; rfl⟩)) with ⟨f1, f2, rfl⟩ | ⟨f1, f2, rfl⟩ | ⟨f1, rfl⟩
      · have e1 : (x.1.2.1 + x.2.1 ≤ 200) = True := by rw [eq_iff_iff, iff_true]; exact f1
        have e2 : (x.1.2.2 + x.2.2 ≤ 52) = True := by rw [eq_iff_iff, iff_true]; exact f2
        have h23 := H23.out
        clear hal f1 f2 hI2 hsz
        by_cases h2 : n2 = 0
        · subst h2
          clear h23
          go_wp2_with fail
          go_ret
          exact ⟨rfl, HEND.out⟩
        · have h3 : n3 = 1 := by omega
          subst h3
          have hd2 : ((n2 : Int) = 0) = False := by rw [eq_iff_iff, iff_false]; omega
          clear h23
          go_wp2_with fail
          go_ret
          exact ⟨rfl, HEND.out⟩
      · have e1 : (x.1.2.1 + x.2.1 ≤ 200) = True := by rw [eq_iff_iff, iff_true]; exact f1
        have e2 : (x.1.2.2 + x.2.2 ≤ 52) = False := by rw [eq_iff_iff, iff_false]; exact f2
        have h23 := H23.out
        clear hal f1 f2 hI2 hsz
        by_cases h2 : n2 = 0
        · subst h2
          clear h23
          go_wp2_with fail
          go_ret
          exact ⟨rfl, HEND.out⟩
        · have h3 : n3 = 1 := by omega
          subst h3
          have hd2 : ((n2 : Int) = 0) = False := by rw [eq_iff_iff, iff_false]; omega
          clear h23
          go_wp2_with fail
          go_ret
          exact ⟨rfl, HEND.out⟩
      · have e1 : (x.1.2.1 + x.2.1 ≤ 200) = False := by rw [eq_iff_iff, iff_false]; exact f1
        have h23 := H23.out
        clear hal f1 hI2 hsz
        by_cases h2 : n2 = 0
        · subst h2
          clear h23
          go_wp2_with fail
          go_ret
          exact ⟨rfl, HEND.out⟩
        · have h3 : n3 = 1 := by omega
          subst h3
          have hd2 : ((n2 : Int) = 0) = False := by rw [eq_iff_iff, iff_false]; omega
          clear h23
          go_wp2_with fail
          go_ret
          exact ⟨rfl, HEND.out⟩
end Go.Proofs.YtmmknjpcffaidaaGreatDoor
