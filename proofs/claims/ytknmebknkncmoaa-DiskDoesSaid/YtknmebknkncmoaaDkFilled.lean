/- Contract of filled. -/
import Derived.Test.YtknmebknkncmoaaDkWrite
import Derived.StillTailTactics
namespace Go.Proofs.Ytknmebknkncmoaa
open Go.RowKit Go.Lib

/-- an Act as data: its kind, its place, its text, and the value of its list -/
structure ActD where
  kind : Int
  place : Int
  text : Bs
  keep : Value

def placeOf (x : ActD) : Nat := (pk x.place 320).toNat
/-- what an Act writes: at its place, as much as there is room for -/
def actPart (x : ActD) : Nat × Bs := (placeOf x, x.text.take (320 - placeOf x))

structure ActOk (x : ActD) : Prop where
  p1 : -9223372036854775808 ≤ x.place
  p2 : x.place ≤ 9223372036854775807
  t1 : x.text.length ≤ 9223372036854775807

/-- a slice of Acts in memory -/
def ActsAt (w : World) (v : Value) (l : List ActD) : Prop :=
  ∃ ao c b off, v = .slice ao l.length c ∧ l.length ≤ 9223372036854775807 ∧ (∀ x ∈ l, ActOk x) ∧
    ∀ j x, l[j]? = some x → ao = some ⟨b, off, none⟩ ∧ w.cell? ⟨b, off + j * 4, none⟩ = some (.int .u8 x.kind) ∧ w.cell? ⟨b, off + j * 4 + 1, none⟩ = some (.int .i64 x.place) ∧
      w.cell? ⟨b, off + j * 4 + 2, none⟩ = some (.string (bstr x.text)) ∧ w.cell? ⟨b, off + j * 4 + 3, none⟩ = some x.keep

theorem ActsAt.below {w w' : World} {v : Value} {l : List ActD} (h : ActsAt w v l) (hb : Below w.heap.size w w') : ActsAt w' v l := by
  obtain ⟨ao, c, b, off, h1, h2, h3, h4⟩ := h
  refine ⟨ao, c, b, off, h1, h2, h3, fun j x hx => ?_⟩
  obtain ⟨k0, k1, k2, k3, k4⟩ := h4 j x hx
  exact ⟨k0, (hb.cell (World.block_lt_of_cell? _ _ k1)).trans k1, (hb.cell (World.block_lt_of_cell? _ _ k2)).trans k2, (hb.cell (World.block_lt_of_cell? _ _ k3)).trans k3, (hb.cell (World.block_lt_of_cell? _ _ k4)).trans k4⟩

theorem placeOf_lt (x : ActD) : placeOf x < 320 := by
  have := pk_range x.place 320 (by omega)
  unfold placeOf
  omega
theorem actPart_fits (x : ActD) : (actPart x).1 + (actPart x).2.length ≤ 320 := by
  have := placeOf_lt x
  simp [actPart]; omega

/-- a disk of 320 bytes behind some writes -/
def nowOf (l : List ActD) (b : Bs) : Bs := l.foldl (fun b x => lay b (actPart x)) b
def pendOf (l : List ActD) : List (Nat × Bs) := l.flatMap fun x => parts (actPart x).1 (actPart x).2
theorem nowOf_length {l : List ActD} {b : Bs} (h : b.length = 320) : (nowOf l b).length = 320 := by
  unfold nowOf
  induction l generalizing b with
  | nil => exact h
  | cons x l ih =>
    rw [List.foldl_cons]
    apply ih
    rw [lay_length (by rw [h]; exact actPart_fits x), h]
theorem pendOf_count (l : List ActD) : (pendOf l).length ≤ 320 * l.length := by
  induction l with
  | nil => simp [pendOf]
  | cons x l ih =>
    have h1 := parts_count (actPart x).2.length (actPart x).1 (actPart x).2 (Nat.le_refl _)
    have h2 := actPart_fits x
    simp only [pendOf, List.flatMap_cons, List.length_append, List.length_cons] at ih ⊢
    omega

theorem write_part {w : World} {base bd bk bn : Nat} {pv : Value} {kept now : Bs} {pend : List (Nat × Bs)} (D : DiskAt w base bd bk bn pv kept now pend) (h : kept.length = 320) (hpl : pend.length ≤ 1000000) (p : Nat × Bs) (hp : p.1 + p.2.length ≤ 320) :
    Calls Try.prog 25 #[.pointer (some ⟨bd, 0, none⟩), .int .i64 p.1, .string (bstr p.2)] w fun e w' => e = .returned (.int .i64 0) ∧ ∃ pv', DiskAt w' base bd bk bn pv' kept (lay now p) (pend ++ parts p.1 p.2) ∧
      Chg (bd :: bn :: own pv) w w' ∧ (∀ g, pv'.ownBlock = some g → pv.ownBlock = some g ∨ w.heap.size ≤ g) := by
  refine (write_ok D p.1 p.2 (by omega) (by omega)).mono ?_
  rintro e w' ⟨he, pv', hd, hc, ho⟩
  rw [parts_lay p.2.length p.1 p.2 now (Nat.le_refl _) (by rw [D.len]; omega)] at hd
  exact ⟨he, pv', hd, hc, ho⟩

def FillRel (w : World) (base bd bk bn : Nat) (kept : Bs) (pre : List (Nat × Bs)) (now : Bs) (l : List ActD) (i : Value) (wr : World) : Prop :=
  ∃ (j : Nat) (pv : Value), i = .int .i64 j ∧ j ≤ l.length ∧ j ≤ 8 ∧ DiskAt wr base bd bk bn pv kept (nowOf (l.take j) now) (pre ++ pendOf (l.take j)) ∧ Below w.heap.size w wr

theorem fill_step {w wr w' : World} {base bd bk bn : Nat} {kept : Bs} {pre : List (Nat × Bs)} {now : Bs} {l : List ActD} {j : Nat} {x : ActD} {pv pv' : Value} (hx : l[j]? = some x) (hj : j < 8)
    (hd : DiskAt w' base bd bk bn pv' kept (lay (nowOf (l.take j) now) (actPart x)) ((pre ++ pendOf (l.take j)) ++ parts (actPart x).1 (actPart x).2))
    (hc : Chg (bd :: bn :: own pv) wr w') (hb : Below w.heap.size w wr) (h1 : w.heap.size ≤ base) (D : DiskAt wr base bd bk bn pv kept (nowOf (l.take j) now) (pre ++ pendOf (l.take j))) :
    FillRel w base bd bk bn kept pre now l (.int .i64 ((j : Int) + 1)) w' := by
  have hi : j < l.length := (List.getElem?_eq_some_iff.1 hx).1
  have e : l[j] = x := (List.getElem?_eq_some_iff.1 hx).2
  refine ⟨j + 1, pv', by simp, by omega, by omega, ?_, ?_⟩
  · rw [List.take_succ_eq_append_getElem hi, e]
    simpa [nowOf, pendOf, List.append_assoc] using hd
  · refine hb.trans ((hc.below (B := base) ?_ ?_).mono h1)
    · intro k hk
      simp only [List.mem_cons, own, Option.mem_toList] at hk
      rcases hk with rfl | rfl | hk
      · exact D.b1
      · exact D.b3
      · exact (D.hp.lt k hk).1
    · have := heap_lt D.hd; have := D.b1; omega

theorem take_stop {α : Type} {l : List α} {j : Nat} (h1 : j ≤ l.length) (h2 : j ≤ 8) (h : ¬ (j < l.length ∧ j < 8)) : l.take j = l.take 8 := by
  by_cases e : j = 8
  · rw [e]
  · rw [List.take_of_length_le (by omega), List.take_of_length_le (by omega)]

def FilledPost (w : World) (l1 l2 : List ActD) (e : Ending) (w' : World) : Prop :=
  ∃ bd bk bn pv, e = .returned (.pointer (some ⟨bd, 0, none⟩)) ∧ DiskAt w' w.heap.size bd bk bn pv (nowOf (l1.take 8) (zeros 320)) (nowOf (l2.take 8) (nowOf (l1.take 8) (zeros 320))) (pendOf (l2.take 8)) ∧ Below w.heap.size w w'

set_option maxHeartbeats 2000000 in
theorem filled_any (w : World) (v1 v2 : Value) (l1 l2 : List ActD) (h1 : ActsAt w v1 l1) (h2 : ActsAt w v2 l2) :
    Calls Try.prog 20 #[v1, v2] w (FilledPost w l1 l2) := by
  obtain ⟨ao1, c1, b1, off1, rfl, hl1, hk1, hc1⟩ := h1
  obtain ⟨ao2, c2, b2, off2, rfl, hl2, hk2, hc2⟩ := h2
  go_enter Try.func20, Try.ntmps20
  go_wp2_with fail
  refine (new_ok 320 _ (by omega) (by omega) (by omega)).mono ?_
  rintro e w1 ⟨bd, bk, bn, rfl, D1, ch1⟩
  have HD1 := hid D1
  have hb1 := ch1.nil_below
  clear D1 ch1
  go_wp2_with fail
  go_loopw [7] (fun i wr => FillRel w w.heap.size bd bk bn (zeros 320) [] (zeros 320) l1 i wr) (fun i _ => l1.length - (intOf i).toNat)
  case atStart => exact ⟨0, _, rfl, by omega, by omega, by simpa [nowOf, pendOf] using HD1.out, hb1⟩
  case round =>
    obtain ⟨j, pv, rfl, hj, hj8, D, hb⟩ := hrel
    have D' : DiskAt wr.drew w.heap.size bd bk bn pv _ _ _ := D.keep (F := []) ((Chg.refl _ wr).drew) (by simp) (by simp) (by simp) (by simp)
    by_cases hgo : j < l1.length ∧ j < 8
    · obtain ⟨g1, g2⟩ := hgo
      obtain ⟨x, hx⟩ : ∃ x, l1[j]? = some x := ⟨l1[j], by simp [g1]⟩
      obtain ⟨rfl, _, kx1, kx2, _⟩ := hc1 j x hx
      have kx1' := (hb.cell (World.block_lt_of_cell? _ _ kx1)).trans kx1
      have kx2' := (hb.cell (World.block_lt_of_cell? _ _ kx2)).trans kx2
      have hok := hk1 x (List.mem_of_getElem? hx)
      have hcnt := pendOf_count (l1.take j)
      have hcl : (l1.take j).length ≤ 8 := by simp; omega
      have hwp := write_part D' (zeros_length 320) (by simp; omega) (actPart x) (actPart_fits x)
      have HX := hid hx
      have HD := hid D
      have HWP := hid hwp
      have HBW := hid hb
      clear hx D D' kx1 kx2 hc1 hc2 HD1 hb1 hwp hb hcnt hcl
      go_wp2_with fail
      refine (pick_nat x.place 320 _ hok.p1 hok.p2 (by omega) (by omega)).mono ?_
      rintro e w' ⟨k, hk, hkp, rfl, rfl⟩
      have hpl : placeOf x = k := by unfold placeOf; omega
      have ht := hok.t1
      have hsz := bstr_size x.text
      clear hkp
      by_cases hm : x.text.length ≤ 320 - k
      · have ea : actPart x = (k, x.text) := by unfold actPart; rw [hpl, List.take_of_length_le hm]
        have hw2 := HWP.out
        rw [ea] at hw2
        have HW2 := hid hw2
        have HEA := hid ea
        have e1 : (bstr x.text).size ≤ 320 - k := by omega
        have e3 : ((320 : Int) - (k : Int) < ((bstr x.text).size : Int)) = False := by rw [eq_iff_iff, iff_false]; omega
        have hwr : IntKind.i64.wrap (320 - (k : Int)) = 320 - (k : Int) := IntWalk.i64_in _ (by omega)
        clear hsz hpl hw2 ea
        go_wp2_with fail
        go_still_tail 17, (by kernel_rfl)
        change wpList _ _ _ _ _ wr.drew
        clear hwr
        go_wp2_with fail
        refine HW2.out.mono ?_
        rintro e w4 ⟨rfl, pv4, D4, ch4, own4⟩
        have R := hid (fill_step HX.out g2 (by rw [HEA.out]; exact D4) ch4 (HBW.out.drew) (Nat.le_refl _) (HD.out.keep (F := []) ((Chg.refl _ wr).drew) (by simp) (by simp) (by simp) (by simp)))
        clear D4 ch4 own4
        go_wp2_with fail
        go_roundw
        case rel => exact R.out
        case measure => simp [intOf]; omega
      · have ea : actPart x = (k, x.text.take (320 - k)) := by unfold actPart; rw [hpl]
        have hw2 := HWP.out
        rw [ea] at hw2
        have HW2 := hid hw2
        have HEA := hid ea
        have e1 : 320 - k ≤ (bstr x.text).size := by omega
        have e3 : ((320 : Int) - (k : Int) < ((bstr x.text).size : Int)) = True := by rw [eq_iff_iff, iff_true]; omega
        have hwr : IntKind.i64.wrap (320 - (k : Int)) = 320 - (k : Int) := IntWalk.i64_in _ (by omega)
        have hex : (bstr x.text).extract 0 (320 - k) = bstr (x.text.take (320 - k)) := by rw [bstr_extract]; simp
        have e6 : (0 : Int) ≤ (320 : Int) - (k : Int) := by omega
        have e7 : (k : Int) ≤ 320 := by omega
        have e8 : (320 : Int) - (k : Int) ≤ ((bstr x.text).size : Int) := by omega
        have e5 : ((320 : Int) - (k : Int)).toNat = 320 - k := by omega
        clear hsz hpl hw2 ea
        go_wp2_with fail
        go_still_tail 17, (by kernel_rfl)
        change wpList _ _ _ _ _ wr.drew
        clear hwr
        go_wp2_with fail
        refine HW2.out.mono ?_
        rintro e w4 ⟨rfl, pv4, D4, ch4, own4⟩
        have R := hid (fill_step HX.out g2 (by rw [HEA.out]; exact D4) ch4 (HBW.out.drew) (Nat.le_refl _) (HD.out.keep (F := []) ((Chg.refl _ wr).drew) (by simp) (by simp) (by simp) (by simp)))
        clear D4 ch4 own4
        go_wp2_with fail
        go_roundw
        case rel => exact R.out
        case measure => simp [intOf]; omega
    · have ht8 : l1.take j = l1.take 8 := take_stop hj hj8 hgo
      rw [ht8] at D
      have hs := sync_any D
      have HS := hid hs
      have HBW := hid hb
      have HBB := hid (show w.heap.size ≤ bd ∧ w.heap.size ≤ bk from ⟨D.b1, D.b2⟩)
      clear D D' hs hb ht8 hb1
      go_wp2_with fail
      all_goals
        refine HS.out.mono ?_
        rintro e w2 ⟨rfl, D2, ch2⟩
        have hb2 : Below w.heap.size w w2 := HBW.out.trans (ch2.below (by intro k hk; simp at hk; rcases hk with rfl | rfl; exact HBB.out.1; exact HBB.out.2) HBW.out.size)
        have HD2 := hid D2
        have HL0 := hid (nowOf_length (l := l1.take 8) (zeros_length 320))
        have HB2 := hid hb2
        obtain ⟨wo, rfl⟩ : ∃ wo : World, wo = wr := ⟨_, rfl⟩
        clear D2 ch2 hb2 hc1
        go_wp2_with fail
        go_loopw [9] (fun i wr => FillRel w w.heap.size bd bk bn (nowOf (l1.take 8) (zeros 320)) [] (nowOf (l1.take 8) (zeros 320)) l2 i wr) (fun i _ => l2.length - (intOf i).toNat)
        case atStart => exact ⟨0, _, rfl, by omega, by omega, by simpa [nowOf, pendOf] using HD2.out, HB2.out⟩
        case round =>
          obtain ⟨j, pv, rfl, hj, hj8, D, hb⟩ := hrel
          have D' : DiskAt wr.drew w.heap.size bd bk bn pv _ _ _ := D.keep (F := []) ((Chg.refl _ wr).drew) (by simp) (by simp) (by simp) (by simp)
          by_cases hgo : j < l2.length ∧ j < 8
          · obtain ⟨g1, g2⟩ := hgo
            obtain ⟨x, hx⟩ : ∃ x, l2[j]? = some x := ⟨l2[j], by simp [g1]⟩
            obtain ⟨rfl, _, kx1, kx2, _⟩ := hc2 j x hx
            have kx1' := (hb.cell (World.block_lt_of_cell? _ _ kx1)).trans kx1
            have kx2' := (hb.cell (World.block_lt_of_cell? _ _ kx2)).trans kx2
            have hok := hk2 x (List.mem_of_getElem? hx)
            have hcnt := pendOf_count (l2.take j)
            have hcl : (l2.take j).length ≤ 8 := by simp; omega
            have hwp := write_part D' HL0.out (by simp; omega) (actPart x) (actPart_fits x)
            have HX := hid hx
            have HD := hid D
            have HWP := hid hwp
            have HBW := hid hb
            clear hx D D' kx1 kx2 hc2 hwp hb hcnt hcl
            go_wp2_with fail
            refine (pick_nat x.place 320 _ hok.p1 hok.p2 (by omega) (by omega)).mono ?_
            rintro e w' ⟨k, hk, hkp, rfl, rfl⟩
            have hpl : placeOf x = k := by unfold placeOf; omega
            have ht := hok.t1
            have hsz := bstr_size x.text
            clear hkp
            by_cases hm : x.text.length ≤ 320 - k
            · have ea : actPart x = (k, x.text) := by unfold actPart; rw [hpl, List.take_of_length_le hm]
              have hw2 := HWP.out
              rw [ea] at hw2
              have HW2 := hid hw2
              have HEA := hid ea
              have e1 : (bstr x.text).size ≤ 320 - k := by omega
              have e3 : ((320 : Int) - (k : Int) < ((bstr x.text).size : Int)) = False := by rw [eq_iff_iff, iff_false]; omega
              have hwr : IntKind.i64.wrap (320 - (k : Int)) = 320 - (k : Int) := IntWalk.i64_in _ (by omega)
              clear hsz hpl hw2 ea
              go_wp2_with fail
              go_still_tail 17, (by kernel_rfl)
              change wpList _ _ _ _ _ wr.drew
              clear hwr
              go_wp2_with fail
              refine HW2.out.mono ?_
              rintro e w4 ⟨rfl, pv4, D4, ch4, own4⟩
              have R := hid (fill_step HX.out g2 (by rw [HEA.out]; exact D4) ch4 (HBW.out.drew) (Nat.le_refl _) (HD.out.keep (F := []) ((Chg.refl _ wr).drew) (by simp) (by simp) (by simp) (by simp)))
              clear D4 ch4 own4
              go_wp2_with fail
              go_roundw
              case rel => exact R.out
              case measure => simp [intOf]; omega
            · have ea : actPart x = (k, x.text.take (320 - k)) := by unfold actPart; rw [hpl]
              have hw2 := HWP.out
              rw [ea] at hw2
              have HW2 := hid hw2
              have HEA := hid ea
              have e1 : 320 - k ≤ (bstr x.text).size := by omega
              have e3 : ((320 : Int) - (k : Int) < ((bstr x.text).size : Int)) = True := by rw [eq_iff_iff, iff_true]; omega
              have hwr : IntKind.i64.wrap (320 - (k : Int)) = 320 - (k : Int) := IntWalk.i64_in _ (by omega)
              have hex : (bstr x.text).extract 0 (320 - k) = bstr (x.text.take (320 - k)) := by rw [bstr_extract]; simp
              have e6 : (0 : Int) ≤ (320 : Int) - (k : Int) := by omega
              have e7 : (k : Int) ≤ 320 := by omega
              have e8 : (320 : Int) - (k : Int) ≤ ((bstr x.text).size : Int) := by omega
              have e5 : ((320 : Int) - (k : Int)).toNat = 320 - k := by omega
              clear hsz hpl hw2 ea
              go_wp2_with fail
              go_still_tail 17, (by kernel_rfl)
              change wpList _ _ _ _ _ wr.drew
              clear hwr
              go_wp2_with fail
              refine HW2.out.mono ?_
              rintro e w4 ⟨rfl, pv4, D4, ch4, own4⟩
              have R := hid (fill_step HX.out g2 (by rw [HEA.out]; exact D4) ch4 (HBW.out.drew) (Nat.le_refl _) (HD.out.keep (F := []) ((Chg.refl _ wr).drew) (by simp) (by simp) (by simp) (by simp)))
              clear D4 ch4 own4
              go_wp2_with fail
              go_roundw
              case rel => exact R.out
              case measure => simp [intOf]; omega
          · have ht8 : l2.take j = l2.take 8 := take_stop hj hj8 hgo
            rw [ht8] at D
            have HD := hid D
            have HBW2 := hid hb
            clear D D' hb ht8
            go_wp2_with fail
            all_goals go_ret
            all_goals exact ⟨bd, bk, bn, pv, rfl, by simpa using HD.out, HBW2.out⟩

end Go.Proofs.Ytknmebknkncmoaa
