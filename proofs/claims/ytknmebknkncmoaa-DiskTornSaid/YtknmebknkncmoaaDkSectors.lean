/- The walk of DiskSectors: it answers true at whatever Acts, five texts and numbers. No condition. -/
import Derived.Test.YtknmebknkncmoaaDkSectorsP
namespace Go.Proofs.Ytknmebknkncmoaa
open Go.RowKit Go.Lib

/-- what a disk holds in memory -/
def blks (d k n : Nat) (v : Value) : List Nat := d :: k :: n :: own v
theorem blks_mem {x d k n : Nat} {v : Value} : x ∈ blks d k n v ↔ x = d ∨ x = k ∨ x = n ∨ v.ownBlock = some x := by
  simp [blks, own]
theorem blks_lt {w : World} {base bd bk bn : Nat} {pv : Value} {kept now : Bs} {pend : List (Nat × Bs)} (D : DiskAt w base bd bk bn pv kept now pend) : ∀ x ∈ blks bd bk bn pv, base ≤ x ∧ x < w.heap.size := by
  intro x hx
  have l := disk_lt D
  have k := disk_low D
  rcases blks_mem.1 hx with rfl | rfl | rfl | h
  · omega
  · omega
  · omega
  · exact disk_own D x h

def Dis (a b : List Nat) : Prop := ∀ x ∈ a, x ∉ b
theorem Dis.symm {a b : List Nat} (h : Dis a b) : Dis b a := fun x hx hy => h x hy hx

/-- a write to one disk leaves another as it was, and they stay apart -/
theorem apart_write {w w' : World} {A B ad ak an bd bk bn : Nat} {av av' bv : Value} {K N N' K2 N2 : Bs} {P P' P2 : List (Nat × Bs)} (DA : DiskAt w A ad ak an av K N P) (DB : DiskAt w B bd bk bn bv K2 N2 P2) (hd : Dis (blks ad ak an av) (blks bd bk bn bv))
    (_DA' : DiskAt w' A ad ak an av' K N' P') (ch : Chg (ad :: an :: own av) w w') (ho : ∀ g, av'.ownBlock = some g → av.ownBlock = some g ∨ w.heap.size ≤ g) :
    DiskAt w' B bd bk bn bv K2 N2 P2 ∧ Dis (blks ad ak an av') (blks bd bk bn bv) := by
  have hin : ∀ x ∈ blks bd bk bn bv, x ∉ ad :: an :: own av := by
    intro x hx hm
    refine hd x ?_ hx
    simp only [List.mem_cons, own, Option.mem_toList] at hm
    exact blks_mem.2 (by rcases hm with h | h | h <;> simp [h])
  refine ⟨DB.keep ch (hin _ (blks_mem.2 (by simp))) (hin _ (blks_mem.2 (by simp))) (hin _ (blks_mem.2 (by simp))) (fun g hg => hin g (blks_mem.2 (by simp [hg]))), ?_⟩
  intro x hx hb
  rcases blks_mem.1 hx with rfl | rfl | rfl | h
  · exact hd _ (blks_mem.2 (by simp)) hb
  · exact hd _ (blks_mem.2 (by simp)) hb
  · exact hd _ (blks_mem.2 (by simp)) hb
  · rcases ho x h with h | h
    · exact hd _ (blks_mem.2 (by simp [h])) hb
    · have := (blks_lt DB x hb).2
      omega

/-- a crash of one disk leaves another as it was -/
theorem apart_crash {w w' : World} {B ad ak an bd bk bn : Nat} {av bv : Value} {K2 N2 : Bs} {P2 : List (Nat × Bs)} (DB : DiskAt w B bd bk bn bv K2 N2 P2) (hd : Dis (blks ad ak an av) (blks bd bk bn bv)) (ch : Chg [ad, ak, an] w w') :
    DiskAt w' B bd bk bn bv K2 N2 P2 := by
  have hin : ∀ x ∈ blks bd bk bn bv, x ∉ [ad, ak, an] := by
    intro x hx hm
    refine hd x ?_ hx
    simp only [List.mem_cons, List.not_mem_nil, or_false] at hm
    exact blks_mem.2 (by rcases hm with h | h | h <;> simp [h])
  exact DB.keep ch (hin _ (blks_mem.2 (by simp))) (hin _ (blks_mem.2 (by simp))) (hin _ (blks_mem.2 (by simp))) (fun g hg => hin g (blks_mem.2 (by simp [hg])))

def SecRel (w wb : World) (A B ad ak an bd bk bn : Nat) (K : Bs) (i : Value) (wr : World) : Prop :=
  ∃ (j : Nat) (av bv : Value) (P : List (Nat × Bs)) (N : Bs), i = .int .i64 (j : Int) ∧ j ≤ 5 ∧ DiskAt wr A ad ak an av K N P ∧ DiskAt wr B bd bk bn bv K N P ∧ Dis (blks ad ak an av) (blks bd bk bn bv) ∧ SecOk P j ∧ Below w.heap.size w wr ∧ Below wb.heap.size wb wr

theorem IntsAt.below {w w' : World} {v : Value} {ks : List Int} (h : IntsAt w v ks) (hb : Below w.heap.size w w') : IntsAt w' v ks := by
  rcases h with ⟨rfl, h⟩ | ⟨b, off, c, e, hc⟩
  · exact .inl ⟨rfl, h⟩
  · exact .inr ⟨b, off, c, e, fun j x hx => (hb.cell (World.block_lt_of_cell? _ _ (hc j x hx))).trans (hc j x hx)⟩
theorem IntsAt.view {w : World} {v : Value} {ks : List Int} (h : IntsAt w v ks) : ∃ ao c b off, v = .slice ao ks.length c ∧ ∀ j x, ks[j]? = some x → ao = some ⟨b, off, none⟩ ∧ w.cell? ⟨b, off + j, none⟩ = some (.int .i64 x) := by
  rcases h with ⟨rfl, ao, c, rfl⟩ | ⟨b, off, c, rfl, hc⟩
  · exact ⟨ao, c, 0, 0, rfl, by simp⟩
  · exact ⟨_, c, b, off, rfl, fun j x hx => ⟨rfl, hc j x hx⟩⟩

def RevRel (w4 : World) (ks : List Int) (v i : Value) (wr : World) : Prop :=
  ∃ m : Nat, m ≤ ks.length ∧ i = .int .i64 ((ks.length : Int) - 1 - (m : Int)) ∧ wr.ownsRow w4.heap.size 3 1 v m ((ks.reverse.take m).map (Value.int .i64)) ∧ Below w4.heap.size w4 wr

theorem rev_step {w4 wr w1 : World} {ks : List Int} {m q : Nat} {o v' : Value} {x : Int} (hq : q + 1 + m = ks.length) (hx : ks[q]? = some x) (hown : wr.ownsRow w4.heap.size 3 1 o m ((ks.reverse.take m).map (Value.int .i64))) (hb : Below w4.heap.size w4 wr)
    (hown' : w1.ownsRow w4.heap.size 3 1 v' (m + 1) ((ks.reverse.take m).map (Value.int .i64) ++ [.int .i64 x])) (hgrow : (wr.alloc (.cells #[.int .i64 x] 3)).grownBy w1 o.ownBlock) :
    RevRel w4 ks v' (.int .i64 ((q : Int) - 1)) w1 := by
  have ho : ∀ k, o.ownBlock = some k → w4.heap.size ≤ k := fun k hk => (hown.lt k hk).1
  have hc : Chg o.ownBlock.toList wr w1 := ((Chg.refl _ wr).alloc _).grown hgrow (fun k hk => .inl (by simp [hk]))
  refine ⟨m + 1, by omega, by congr 1; omega, ?_, hb.trans (hc.below (fun x hx => ho x (by simpa using hx)) hb.size)⟩
  have hr : ks.reverse[m]? = some x := by rw [List.getElem?_reverse (by omega), show ks.length - 1 - m = q by omega, hx]
  rw [List.take_add_one, hr]
  simpa using hown'

set_option maxRecDepth 20000 in
set_option maxHeartbeats 2000000 in
theorem sectors_any (w : World) (v0 v2 : Value) (t0 t1 t2 t3 t4 : Bs) (l0 : List ActD) (ls : List Int) (h0 : ActsAt w v0 l0) (h2 : IntsAt w v2 ls) (hr : ∀ x ∈ ls, -9223372036854775808 ≤ x ∧ x ≤ 9223372036854775807) (hlen : ls.length ≤ 9223372036854775807)
    (ht : ∀ t ∈ [t0, t1, t2, t3, t4], t.length ≤ 9223372036854775807) :
    Calls Try.prog 6 #[v0, .agg #[str t0, str t1, str t2, str t3, str t4], v2] w fun e w' => e = .returned (.bool true) ∧ Below w.heap.size w w' := by
  obtain ⟨i0, hi, hz0, hz1, hz2⟩ := info_parts Try.info3
  obtain ⟨K, hK⟩ : ∃ K, K = nowOf (l0.take 8) (zeros 320) := ⟨_, rfl⟩
  have hKl : K.length = 320 := by rw [hK]; exact nowOf_length (zeros_length 320)
  have HK := hid hK
  have H0 := hid h0
  have H2 := hid h2
  have HR := hid hr
  have HT := hid ht
  have HKL := hid hKl
  clear hK h0 h2 hr hKl ht
  go_enter Try.func6, Try.ntmps6
  go_wp2_with fail
  obtain ⟨wb, hwb⟩ : ∃ wb, wb = w.alloc (.cells #[str t0, str t1, str t2, str t3, str t4] 53) := ⟨_, rfl⟩
  obtain ⟨nb, hnb⟩ : ∃ nb, nb = w.heap.size := ⟨_, rfl⟩
  have hcell : ∀ j t, [t0, t1, t2, t3, t4][j]? = some t → wb.cell? ⟨nb, j, none⟩ = some (str t) := by
    intro j t h
    have hh : wb.heap[nb]? = some (.cells #[str t0, str t1, str t2, str t3, str t4] 53 (0, 0)) := by rw [hwb, hnb]; exact heap_alloc_new w _
    match j, h with
    | 0, h => simp at h; subst h; exact cell_of (i := 0) hh rfl
    | 1, h => simp at h; subst h; exact cell_of (i := 1) hh rfl
    | 2, h => simp at h; subst h; exact cell_of (i := 2) hh rfl
    | 3, h => simp at h; subst h; exact cell_of (i := 3) hh rfl
    | 4, h => simp at h; subst h; exact cell_of (i := 4) hh rfl
  have bwb : Below w.heap.size w wb := by rw [hwb]; exact (Below.refl _ w).alloc (Nat.le_refl _) _
  have hlt : nb < wb.heap.size := by rw [hwb, hnb]; simp
  rw [← hwb, ← hnb]
  have HC := hid hcell
  clear hwb hnb hcell
  refine (awake_any _).mono ?_
  rintro e w1 ⟨rfl, b1⟩
  have s0 := bwb.size
  have s1 := b1.size
  have b01 := bwb.trans (b1.mono bwb.size)
  go_wp2_with fail
  refine (filled_any w1 v0 _ l0 [] (H0.out.below b01) (actsAt_nil _)).mono ?_
  rintro e w2 ⟨ad, ak, an, av, rfl, Da, b2⟩
  have Da' : DiskAt w2 w1.heap.size ad ak an av K K [] := by rw [HK.out]; exact Da
  have b02 := b01.trans (b2.mono b01.size)
  have c02 := b1.trans (b2.mono s1)
  have HDa := hid Da'
  have s2 := b2.size
  clear Da Da' b2 b1 b01
  go_wp2_with fail
  refine (filled_any w2 v0 _ l0 [] (H0.out.below b02) (actsAt_nil _)).mono ?_
  rintro e w3 ⟨bd, bk, bn, bv, rfl, Db, b3⟩
  have Db' : DiskAt w3 w2.heap.size bd bk bn bv K K [] := by rw [HK.out]; exact Db
  have b03 := b02.trans (b3.mono b02.size)
  have c03 := c02.trans (b3.mono c02.size)
  have HD : Hid (Dis (blks ad ak an av) (blks bd bk bn bv)) := hid (fun x hx hy => by have := blks_lt HDa.out x hx; have := blks_lt Db' x hy; omega)
  have HDa3 := hid (HDa.out.later b3)
  have HDb := hid Db'
  clear Db Db' b3 b02 c02 HDa
  go_wp2_with fail
  go_loopw [10] (fun i wr => SecRel w wb w1.heap.size w2.heap.size ad ak an bd bk bn K i wr) (fun i _ => 5 - (intOf i).toNat)
  case atStart => exact ⟨0, av, bv, [], K, rfl, by omega, HDa3.out, HDb.out, HD.out, secOk_nil, b03, c03⟩
  case round =>
    clear HDa3 HDb HD b03 c03
    obtain ⟨j, av, bv, P, N, rfl, hj, Da, Db, dis, sok, bw, bwb⟩ := hrel
    have HDa := hid Da
    have HDb := hid Db
    have HDis := hid dis
    have HS := hid sok
    have HB := hid bw
    have HBB := hid bwb
    clear Da Db dis sok bw bwb
    by_cases hgo : j < 5
    · obtain ⟨t, htj⟩ : ∃ t, [t0, t1, t2, t3, t4][j]? = some t := ⟨[t0, t1, t2, t3, t4][j]'(by simpa using hgo), by simp⟩
      have hc : wr.cell? ⟨nb, j, none⟩ = some (str t) := (HBB.out.cell hlt).trans (HC.out j t htj)
      have htl := HT.out t (List.mem_of_getElem? htj)
      have hsz := bstr_size t
      obtain ⟨u, hu⟩ : ∃ u, u = t.take 64 := ⟨_, rfl⟩
      have hul : u.length ≤ 64 := by rw [hu]; simp; omega
      have E64 := hid (show (64 * (j : Int)) = ((64 * j : Nat) : Int) by omega)
      clear htj
      by_cases hm : t.length ≤ 64
      · have e3 : ((64 : Int) < ((bstr t).size : Int)) = False := by rw [eq_iff_iff, iff_false]; omega
        obtain rfl : u = t := by rw [hu, List.take_of_length_le hm]
        have hex : (bstr u).extract 0 u.length = bstr u := by rw [bstr_extract]; simp
        clear hu
        go_wp2_with fail
        go_quiet (fail)
        go_wp2_with fail
        clear HC HT hsz htl
        rw [E64.out]
        refine (write_ok (HDa.out.drewN nq) (64 * j) u (by rw [HKL.out]; omega) (by have := HS.out.len; omega)).mono ?_
        rintro e w4 ⟨rfl, av', Da4, ca4, oa4⟩
        obtain ⟨Db4, dis4⟩ := apart_write (HDa.out.drewN nq) (HDb.out.drewN nq) HDis.out Da4 ca4 oa4
        have bw4 : Below w.heap.size w w4 := (below_drewN HB.out HB.out.size nq).trans (ca4.below (own_low (by have := blks_lt HDa.out ad (blks_mem.2 (by simp)); omega) (by have := blks_lt HDa.out an (blks_mem.2 (by simp)); omega) (fun g hg => by have := disk_own HDa.out g hg; omega)) HB.out.size)
        have cw4 : Below wb.heap.size wb w4 := (below_drewN HBB.out HBB.out.size nq).trans (ca4.below (own_low (by have := blks_lt HDa.out ad (blks_mem.2 (by simp)); omega) (by have := blks_lt HDa.out an (blks_mem.2 (by simp)); omega) (fun g hg => by have := disk_own HDa.out g hg; omega)) HBB.out.size)
        have HDa4 := hid Da4
        have HDb4 := hid Db4
        have HDis4 := hid dis4
        clear Da4 ca4 oa4 Db4 dis4 HB HBB HDis
        go_wp2_with fail
        rw [E64.out]
        refine (write_ok HDb4.out (64 * j) u (by rw [HKL.out]; omega) (by have := HS.out.len; omega)).mono ?_
        rintro e w5 ⟨rfl, bv', Db5, cb5, ob5⟩
        obtain ⟨Da5, dis5⟩ := apart_write HDb4.out HDa4.out HDis4.out.symm Db5 cb5 ob5
        have bw5 : Below w.heap.size w w5 := bw4.trans (cb5.below (own_low (by have := blks_lt HDb4.out bd (blks_mem.2 (by simp)); omega) (by have := blks_lt HDb4.out bn (blks_mem.2 (by simp)); omega) (fun g hg => by have := disk_own HDb4.out g hg; omega)) bw4.size)
        have cw5 : Below wb.heap.size wb w5 := cw4.trans (cb5.below (own_low (by have := blks_lt HDb4.out bd (blks_mem.2 (by simp)); omega) (by have := blks_lt HDb4.out bn (blks_mem.2 (by simp)); omega) (fun g hg => by have := disk_own HDb4.out g hg; omega)) cw4.size)
        have R : Hid (SecRel w wb w1.heap.size w2.heap.size ad ak an bd bk bn K (.int .i64 ((j : Int) + 1)) w5) := hid ⟨j + 1, av', bv', _, _, by simp, by omega, Da5, Db5, dis5.symm, secOk_snoc HS.out hul, bw5, cw5⟩
        clear Db5 cb5 ob5 Da5 dis5 bw4 cw4 bw5 cw5 HDa4 HDb4 HDis4 HDa HDb
        go_wp2_with fail
        go_roundw
        case rel => exact R.out
        case measure => simp [intOf]; omega
      · have e3 : ((64 : Int) < ((bstr t).size : Int)) = True := by rw [eq_iff_iff, iff_true]; omega
        have e8 : (64 : Int) ≤ ((bstr t).size : Int) := by omega
        have hex : (bstr t).extract 0 64 = bstr u := by rw [bstr_extract, hu]; simp
        clear hu
        go_wp2_with fail
        go_quiet (fail)
        go_wp2_with fail
        clear HC HT hsz htl
        rw [E64.out]
        refine (write_ok (HDa.out.drewN nq) (64 * j) u (by rw [HKL.out]; omega) (by have := HS.out.len; omega)).mono ?_
        rintro e w4 ⟨rfl, av', Da4, ca4, oa4⟩
        obtain ⟨Db4, dis4⟩ := apart_write (HDa.out.drewN nq) (HDb.out.drewN nq) HDis.out Da4 ca4 oa4
        have bw4 : Below w.heap.size w w4 := (below_drewN HB.out HB.out.size nq).trans (ca4.below (own_low (by have := blks_lt HDa.out ad (blks_mem.2 (by simp)); omega) (by have := blks_lt HDa.out an (blks_mem.2 (by simp)); omega) (fun g hg => by have := disk_own HDa.out g hg; omega)) HB.out.size)
        have cw4 : Below wb.heap.size wb w4 := (below_drewN HBB.out HBB.out.size nq).trans (ca4.below (own_low (by have := blks_lt HDa.out ad (blks_mem.2 (by simp)); omega) (by have := blks_lt HDa.out an (blks_mem.2 (by simp)); omega) (fun g hg => by have := disk_own HDa.out g hg; omega)) HBB.out.size)
        have HDa4 := hid Da4
        have HDb4 := hid Db4
        have HDis4 := hid dis4
        clear Da4 ca4 oa4 Db4 dis4 HB HBB HDis
        go_wp2_with fail
        rw [E64.out]
        refine (write_ok HDb4.out (64 * j) u (by rw [HKL.out]; omega) (by have := HS.out.len; omega)).mono ?_
        rintro e w5 ⟨rfl, bv', Db5, cb5, ob5⟩
        obtain ⟨Da5, dis5⟩ := apart_write HDb4.out HDa4.out HDis4.out.symm Db5 cb5 ob5
        have bw5 : Below w.heap.size w w5 := bw4.trans (cb5.below (own_low (by have := blks_lt HDb4.out bd (blks_mem.2 (by simp)); omega) (by have := blks_lt HDb4.out bn (blks_mem.2 (by simp)); omega) (fun g hg => by have := disk_own HDb4.out g hg; omega)) bw4.size)
        have cw5 : Below wb.heap.size wb w5 := cw4.trans (cb5.below (own_low (by have := blks_lt HDb4.out bd (blks_mem.2 (by simp)); omega) (by have := blks_lt HDb4.out bn (blks_mem.2 (by simp)); omega) (fun g hg => by have := disk_own HDb4.out g hg; omega)) cw4.size)
        have R : Hid (SecRel w wb w1.heap.size w2.heap.size ad ak an bd bk bn K (.int .i64 ((j : Int) + 1)) w5) := hid ⟨j + 1, av', bv', _, _, by simp, by omega, Da5, Db5, dis5.symm, secOk_snoc HS.out hul, bw5, cw5⟩
        clear Db5 cb5 ob5 Da5 dis5 bw4 cw4 bw5 cw5 HDa4 HDb4 HDis4 HDa HDb
        go_wp2_with fail
        go_roundw
        case rel => exact R.out
        case measure => simp [intOf]; omega
    · obtain rfl : j = 5 := by omega
      go_wp2_with fail
      refine (pending_any HDa.out).mono ?_
      rintro e w' ⟨rfl, rfl⟩
      go_wp2_with fail
      refine (keep_any _ v2 ls P.length (by
        rcases H2.out with ⟨rfl, h⟩ | ⟨b, off, c, e, hc⟩
        · exact .inl ⟨rfl, h⟩
        · exact .inr ⟨b, off, c, e, fun j x hx => (HB.out.cell (World.block_lt_of_cell? _ _ (hc j x hx))).trans (hc j x hx)⟩) HR.out hlen (by have := HS.out.len; omega)).mono ?_
      rintro e w4 ⟨kv, ks, rfl, hown, hok, hkl, b4⟩
      have bw4 := HB.out.trans (b4.mono HB.out.size)
      have HDa4 := hid (HDa.out.later b4)
      have HDb4 := hid (HDb.out.later b4)
      have HOK := hid hok
      have hka := ints_of_owns hown
      have s4 := b4.size
      obtain ⟨ao, c, b, off, rfl, hcell⟩ := hka.view
      have HCL := hid hcell
      have HKA := hid hka
      clear hown hok b4 HDa HDb HB HBB H2 HR HC HT hka hcell
      go_wp2_with fail
      go_loopw [13, 14] (fun v i wr => RevRel w4 ks v i wr) (fun _ i _ => ((intOf i) + 1).toNat)
      case atStart => exact ⟨0, by omega, by simp, World.ownsRow_nil _ _ _ _, Below.refl _ _⟩
      case round =>
        obtain ⟨m, hm, rfl, hown, hb⟩ := hrel
        by_cases hgo : m < ks.length
        · obtain ⟨q, hq⟩ : ∃ q : Nat, q + 1 + m = ks.length := ⟨ks.length - 1 - m, by omega⟩
          obtain ⟨x, hx⟩ : ∃ x, ks[q]? = some x := ⟨ks[q]'(by omega), by simp⟩
          obtain ⟨rfl, hc0⟩ := HCL.out q x hx
          have hc1 := (hb.cell (World.block_lt_of_cell? _ _ hc0)).trans hc0
          have hqi : (ks.length : Int) - 1 - (m : Int) = (q : Int) := by omega
          rw [hqi]
          have HOW := hid hown
          have HO2 := hid (HOW.out.alloc (.cells #[.int .i64 x] 3))
          have HX := hid hx
          have HBW := hid hb
          have HQ := hid hq
          have hql : q < ks.length := by omega
          clear hown hc0 hx hqi hq hb hm hgo
          go_wp2_with (at_builtin; refine wpList_append_own _ rfl _ _ 29 rfl w4.heap.size 3 i0 (.int .i64 0) 1 8 Try.underlying29 hi hz0 hz1 hz2 rfl (by decide) _ _ _ rfl HO2.out ⟨wr.heap.size, 0, none⟩ 1 1 [.int .i64 x] rfl rfl (cell_one_new2 rfl _ _) (by intro u hu; simp at hu; subst hu; rfl) (by unfold maxLen; have := HQ.out; omega) (by have := HQ.out; omega) (by have := HBW.out.size; simp; omega) ?_; intro v' wx hown' hgrow _)
          have R := hid (rev_step HQ.out HX.out HOW.out HBW.out hown' hgrow)
          clear hown' hgrow
          go_wp2
          go_roundw
          case rel => exact R.out
          case measure => simp [intOf]
        · obtain rfl : m = ks.length := by omega
          have hqi : (ks.length : Int) - 1 - (ks.length : Int) = -1 := by omega
          rw [hqi]
          rw [List.take_of_length_le (by simp)] at hown
          have HOW := hid hown
          have HBW := hid hb
          clear hown hqi hb
          go_wp2_with fail
          refine (crash_any (HDa4.out.later HBW.out) _ ks (HKA.out.below HBW.out) (keep_small HOK.out (by have := HS.out.len; omega)) (by omega) (by have := HS.out.len; omega)).mono ?_
          rintro e w5 (⟨_, rfl, Da5, c5⟩ | ⟨hk, _⟩)
          rotate_left
          · exact absurd HOK.out hk
          have Db5 := apart_crash (HDb4.out.later HBW.out) HDis.out c5
          have la := blks_lt HDa4.out ad (blks_mem.2 (by simp))
          have lk := blks_lt HDa4.out ak (blks_mem.2 (by simp))
          have ln := blks_lt HDa4.out an (blks_mem.2 (by simp))
          have hpl := sectors_plain HS.out HOK.out HDa4.out.ok
          have own5 := c5.owns HOW.out (fun g hg hm => by have := (HOW.out.lt g hg).1; simp at hm; omega)
          have b05 : Below w.heap.size w w5 := (bw4.trans (HBW.out.mono bw4.size)).trans (c5.below (by intro x hx; simp at hx; omega) (by have := HBW.out.size; have := bw4.size; omega))
          rw [hpl] at Da5
          obtain ⟨M, hM⟩ : ∃ M, M = (ks.reverse.map (pieceOf P)).foldl lay K := ⟨_, rfl⟩
          rw [← hM] at Da5
          have HM := hid hM
          have HDa5 := hid Da5
          have HDb5 := hid Db5
          have HOW5 := hid (ints_of_owns (ks := ks.reverse) (by rw [List.length_reverse]; exact own5))
          clear Da5 Db5 own5 hpl c5 hM HDa4 HDb4 HKA HCL HOW HBW
          go_wp2_with fail
          refine (crash_any HDb5.out _ ks.reverse HOW5.out (keep_small (keepOk_reverse HOK.out) (by have := HS.out.len; omega)) (by simp; omega) (by have := HS.out.len; omega)).mono ?_
          rintro e w6 (⟨_, rfl, Db6, c6⟩ | ⟨hk, _⟩)
          rotate_left
          · exact absurd (keepOk_reverse HOK.out) hk
          rw [← HM.out] at Db6
          have lb := blks_lt HDb5.out bd (blks_mem.2 (by simp))
          have lbk := blks_lt HDb5.out bk (blks_mem.2 (by simp))
          have lbn := blks_lt HDb5.out bn (blks_mem.2 (by simp))
          have lc := blks_lt HDa5.out ad (blks_mem.2 (by simp))
          have b06 : Below w.heap.size w w6 := b05.trans (c6.below (by intro x hx; simp at hx; omega) b05.size)
          have Da6 := apart_crash (av := .slice none 0 0) HDa5.out (fun x hx hy => by
            rcases blks_mem.1 hy with rfl | rfl | rfl | h
            · exact HDis.out.symm x (by rcases blks_mem.1 hx with h | h | h | h; exact blks_mem.2 (.inl h); exact blks_mem.2 (.inr (.inl h)); exact blks_mem.2 (.inr (.inr (.inl h))); simp [Value.ownBlock] at h) (blks_mem.2 (by simp))
            · exact HDis.out.symm x (by rcases blks_mem.1 hx with h | h | h | h; exact blks_mem.2 (.inl h); exact blks_mem.2 (.inr (.inl h)); exact blks_mem.2 (.inr (.inr (.inl h))); simp [Value.ownBlock] at h) (blks_mem.2 (by simp))
            · exact HDis.out.symm x (by rcases blks_mem.1 hx with h | h | h | h; exact blks_mem.2 (.inl h); exact blks_mem.2 (.inr (.inl h)); exact blks_mem.2 (.inr (.inr (.inl h))); simp [Value.ownBlock] at h) (blks_mem.2 (by simp))
            · simp [Value.ownBlock] at h) c6
          have HDa6 := hid Da6
          have HDb6 := hid Db6
          clear Da6 Db6 c6 HDa5 HDb5 HOW5 b05
          go_wp2_with fail
          refine (all_any HDa6.out).mono ?_
          rintro e w' ⟨rfl, rfl⟩
          go_wp2_with fail
          refine (all_any HDb6.out).mono ?_
          rintro e w' ⟨rfl, rfl⟩
          go_wp2_with fail
          go_ret
          exact ⟨rfl, b06⟩

end Go.Proofs.Ytknmebknkncmoaa
