/- Contract of the heap's take: the least number, and it is taken out. -/
import Derived.Test.YtagfgbmaibadjaaIsPut
namespace Go.Proofs.Ytagfgbmaibadjaa
open Go.RowKit Go.Lib

def TakeRel (w : World) (hb m x : Nat) (S : Nat → Prop) (kv : Value) (wr : World) : Prop :=
  ∃ (k : Nat) (f : Nat → Nat), kv = .int .i64 (k : Int) ∧ HRow wr hb f m ∧ Sinking (upd f k x) m k S ∧ Chg [hb] w wr ∧ k ≤ m
def TakeEnd (w : World) (hb m : Nat) (S : Nat → Prop) (e : Ending) (w' : World) : Prop :=
  ∃ x : Nat, e = .returned (.int .i64 (x : Int)) ∧ S x ∧ (∀ v, S v → x ≤ v) ∧ HeapAt w' hb m (fun v => S v ∧ v ≠ x) ∧ Chg [hb] w w'

theorem parent_kids {j k : Nat} (h0 : 0 < j) (h : parent j = k) : j = 2 * k + 1 ∨ j = 2 * k + 1 + 1 := by
  unfold parent at h; omega
theorem parent_left (k : Nat) : parent (2 * k + 1) = k := by unfold parent; omega
theorem parent_right (k : Nat) : parent (2 * k + 1 + 1) = k := by unfold parent; omega

set_option maxRecDepth 20000 in
set_option maxHeartbeats 2000000 in
theorem take_any {w : World} {hb m : Nat} {S : Nat → Prop} (H : HeapAt w hb (m + 1) S) (hm : m < 2000) (hS : ∀ v, S v → v ≤ 1000000) :
    Calls Try.prog 26 #[.pointer (some ⟨hb, 0, none⟩)] w (TakeEnd w hb m S) := by
  obtain ⟨f, hf, hh, ho⟩ := H
  obtain ⟨x0, hx0⟩ : ∃ x0, x0 = f 0 := ⟨_, rfl⟩
  obtain ⟨x, hx⟩ : ∃ x, x = f m := ⟨_, rfl⟩
  have hx0S : S x0 := (hh.mem x0).2 ⟨0, by omega, hx0.symm⟩
  have hxS : S x := (hh.mem x).2 ⟨m, by omega, hx.symm⟩
  have b0 := hS x0 hx0S
  have b1 := hS x hxS
  have hle : ∀ v, S v → x0 ≤ v := fun v hv => by
    obtain ⟨i, hi, e⟩ := (hh.mem v).1 hv
    rw [hx0, ← e]
    exact ordered_least ho i hi
  have c0 := hf.get (i := 0) (by omega)
  rw [← hx0] at c0
  have cn := hf.num
  have fn := hf.free (i := 2000)
  have hf1 := hf.setnum m
  have cm : (w.setCell ⟨hb, 2000, none⟩ (.int .i64 (m : Int))).cell? ⟨hb, m, none⟩ = some (.int .i64 (x : Int)) := by rw [hf1.get hm, hx]
  have cn1 := hf1.num
  have hA0 : ((m + 1 : Nat) : Int) - 1 = (m : Int) := by omega
  have SK := hid (sinking_start hh ho)
  rw [← hx, ← hx0] at SK
  have HF1 := hid hf1
  have HB := hid hS
  have HL := hid hle
  have HXS := hid hx0S
  clear hf hh ho hx0S hxS hle hf1 hS hx0 hx
  go_enter Try.func26, Try.ntmps26
  go_wp2_with fail
  go_region
  go_wp2_with fail
  clear c0 cn fn cm cn1
  go_loopw [5] (fun kv wr => TakeRel w hb m x (fun v => S v ∧ v ≠ x0) kv wr) (fun kv _ => m - (intOf kv).toNat)
  case atStart => exact ⟨0, f, rfl, (show HRow _ hb _ _ from ((Chg.refl [] _).drew).heap HF1.out (by simp)), SK.out, ((Chg.refl [hb] w).setCell (by simp) _).drew, by omega⟩
  case round =>
    clear SK HF1
    obtain ⟨k, f, rfl, hf, hs, hch, hkm⟩ := hrel
    obtain ⟨c, hc⟩ : ∃ c, c = 2 * k + 1 := ⟨_, rfl⟩
    have hA : 2 * (k : Int) + 1 = (c : Int) := by omega
    have cn := hf.num
    have ck := hf.get (i := k) (by omega)
    have fk := hf.free (i := k)
    have gj : ∀ j, j ≠ k → upd f k x j = f j := fun j hj => upd_far _ _ hj
    have gk : upd f k x k = x := upd_same _ _ _
    have val : ∀ j, j < m → j ≠ k → f j ≤ 1000000 := fun j hj hjk => by
      have := (hs.holds.mem (f j)).2 ⟨j, hj, gj j hjk⟩
      exact HB.out _ this.1
    have HF := hid hf
    have HSK := hid hs
    have HCH := hid hch
    have HG := hid gj
    have HGK := hid gk
    have fin := hid (fun q => (show Ordered (upd f k x) m → HeapAt ((wr.drewN q).setCell ⟨hb, k, none⟩ (.int .i64 (x : Int))) hb m (fun v => S v ∧ v ≠ x0) ∧ Chg [hb] w ((wr.drewN q).setCell ⟨hb, k, none⟩ (.int .i64 (x : Int))) from fun h =>
      ⟨⟨_, (show HRow (wr.drewN q) hb f m from ((Chg.refl [] wr).drewN q).heap hf (by simp)).set (by omega) x, hs.holds, h⟩, hch.trans (((Chg.refl [hb] wr).drewN q).setCell (by simp) _) (by simp)⟩))
    have fin0 := hid (show Ordered (upd f k x) m → HeapAt (wr.setCell ⟨hb, k, none⟩ (.int .i64 (x : Int))) hb m (fun v => S v ∧ v ≠ x0) ∧ Chg [hb] w (wr.setCell ⟨hb, k, none⟩ (.int .i64 (x : Int))) from fun h =>
      ⟨⟨_, hf.set (by omega) x, hs.holds, h⟩, hch.trans ((Chg.refl [hb] wr).setCell (by simp) _) (by simp)⟩)
    by_cases h1 : c + 1 < m
    · have ca := hf.get (i := c) (by omega)
      have cb := hf.get (i := c + 1) (by omega)
      obtain ⟨a, ha⟩ : ∃ a, a = f c := ⟨_, rfl⟩
      obtain ⟨b, hb'⟩ : ∃ b, b = f (c + 1) := ⟨_, rfl⟩
      rw [← ha] at ca
      rw [← hb'] at cb
      have va := val c (by omega) (by omega)
      have vb := val (c + 1) (by omega) (by omega)
      rw [← ha] at va
      rw [← hb'] at vb
      have HC := hid hc
      have HAA := hid ha
      have HBB := hid hb'
      have hck : k < c := by omega
      have hd : ((c : Int) + 1 < (m : Int)) = True := by rw [eq_iff_iff, iff_true]; omega
      clear hf hs hch gj gk val hc ha hb'
      by_cases hab : b < a
      · by_cases hbx : b < x
        · have RR := hid (fun q => (show TakeRel w hb m x (fun v => S v ∧ v ≠ x0) (.int .i64 ((c : Int) + 1)) ((wr.drewN q).setCell ⟨hb, k, none⟩ (.int .i64 (b : Int))) from by
            have h := HSK.out.down (c := c + 1) (by omega) (by rw [HC.out]; exact parent_right k) (by omega) (by rw [HG.out _ (by omega), HGK.out, ← HBB.out]; omega) (fun j h0 hj hp => by
              have hjk := parent_kids h0 hp
              rw [← HC.out] at hjk
              rw [HG.out _ (by omega), HG.out _ (by omega), ← HBB.out]
              rcases hjk with e | e
              · rw [e, ← HAA.out]; omega
              · rw [e, ← HBB.out]; omega)
            rw [← swp_upd (by omega), ← HBB.out] at h
            exact ⟨c + 1, _, by simp, (show HRow (wr.drewN q) hb f m from ((Chg.refl [] wr).drewN q).heap HF.out (by simp)).set (by omega) b, h, HCH.out.trans (((Chg.refl [hb] wr).drewN q).setCell (by simp) _) (by simp), by omega⟩))
          go_wp2_with fail
          go_quiet (fail)
          go_wp2_with fail
          go_region
          go_wp2_with fail
          go_roundw
          case rel => exact RR.out _
          case measure => simp [intOf]; omega
        · have OR := hid (show Ordered (upd f k x) m from HSK.out.rest (fun j h0 hj hp => by
            have hjk := parent_kids h0 hp
            rw [← HC.out] at hjk
            rw [HGK.out, HG.out _ (by omega)]
            rcases hjk with e | e
            · rw [e, ← HAA.out]; omega
            · rw [e, ← HBB.out]; omega))
          go_wp2_with fail
          go_quiet (fail)
          go_wp2_with fail
          go_ret
          exact ⟨x0, rfl, HXS.out, HL.out, (fin.out _ OR.out).1, (fin.out _ OR.out).2⟩
      · by_cases hax : a < x
        · have RR := hid (fun q => (show TakeRel w hb m x (fun v => S v ∧ v ≠ x0) (.int .i64 ((c : Nat))) ((wr.drewN q).setCell ⟨hb, k, none⟩ (.int .i64 (a : Int))) from by
            have h := HSK.out.down (c := c) (by omega) (by rw [HC.out]; exact parent_left k) (by omega) (by rw [HG.out _ (by omega), HGK.out, ← HAA.out]; omega) (fun j h0 hj hp => by
              have hjk := parent_kids h0 hp
              rw [← HC.out] at hjk
              rw [HG.out _ (by omega), HG.out _ (by omega), ← HAA.out]
              rcases hjk with e | e
              · rw [e, ← HAA.out]; omega
              · rw [e, ← HBB.out]; omega)
            rw [← swp_upd (by omega), ← HAA.out] at h
            exact ⟨c, _, by simp, (show HRow (wr.drewN q) hb f m from ((Chg.refl [] wr).drewN q).heap HF.out (by simp)).set (by omega) a, h, HCH.out.trans (((Chg.refl [hb] wr).drewN q).setCell (by simp) _) (by simp), by omega⟩))
          go_wp2_with fail
          go_quiet (fail)
          go_wp2_with fail
          go_region
          go_wp2_with fail
          go_roundw
          case rel => exact RR.out _
          case measure => simp [intOf]; omega
        · have OR := hid (show Ordered (upd f k x) m from HSK.out.rest (fun j h0 hj hp => by
            have hjk := parent_kids h0 hp
            rw [← HC.out] at hjk
            rw [HGK.out, HG.out _ (by omega)]
            rcases hjk with e | e
            · rw [e, ← HAA.out]; omega
            · rw [e, ← HBB.out]; omega))
          go_wp2_with fail
          go_quiet (fail)
          go_wp2_with fail
          go_ret
          exact ⟨x0, rfl, HXS.out, HL.out, (fin.out _ OR.out).1, (fin.out _ OR.out).2⟩
    · have hd : ((c : Int) + 1 < (m : Int)) = False := by rw [eq_iff_iff, iff_false]; omega
      by_cases h2 : c < m
      · have ca := hf.get (i := c) (by omega)
        obtain ⟨a, ha⟩ : ∃ a, a = f c := ⟨_, rfl⟩
        rw [← ha] at ca
        have va := val c (by omega) (by omega)
        rw [← ha] at va
        have HC := hid hc
        have HAA := hid ha
        have hck : k < c := by omega
        clear hf hs hch gj gk val hc ha
        by_cases hax : a < x
        · have RR := hid (fun q => (show TakeRel w hb m x (fun v => S v ∧ v ≠ x0) (.int .i64 ((c : Nat))) ((wr.drewN q).setCell ⟨hb, k, none⟩ (.int .i64 (a : Int))) from by
            have h := HSK.out.down (c := c) (by omega) (by rw [HC.out]; exact parent_left k) (by omega) (by rw [HG.out _ (by omega), HGK.out, ← HAA.out]; omega) (fun j h0 hj hp => by
              have hjk := parent_kids h0 hp
              rw [← HC.out] at hjk
              rw [HG.out _ (by omega), HG.out _ (by omega), ← HAA.out]
              rcases hjk with e | e
              · rw [e, ← HAA.out]; omega
              · omega)
            rw [← swp_upd (by omega), ← HAA.out] at h
            exact ⟨c, _, by simp, (show HRow (wr.drewN q) hb f m from ((Chg.refl [] wr).drewN q).heap HF.out (by simp)).set (by omega) a, h, HCH.out.trans (((Chg.refl [hb] wr).drewN q).setCell (by simp) _) (by simp), by omega⟩))
          go_wp2_with fail
          go_quiet (fail)
          go_wp2_with fail
          go_region
          go_wp2_with fail
          go_roundw
          case rel => exact RR.out _
          case measure => simp [intOf]; omega
        · have OR := hid (show Ordered (upd f k x) m from HSK.out.rest (fun j h0 hj hp => by
            have hjk := parent_kids h0 hp
            rw [← HC.out] at hjk
            rw [HGK.out, HG.out _ (by omega)]
            rcases hjk with e | e
            · rw [e, ← HAA.out]; omega
            · omega))
          go_wp2_with fail
          go_quiet (fail)
          go_wp2_with fail
          go_ret
          exact ⟨x0, rfl, HXS.out, HL.out, (fin.out _ OR.out).1, (fin.out _ OR.out).2⟩
      · have HC := hid hc
        have hck : k < c := by omega
        clear hf hs hch gj gk val hc
        have OR := hid (show Ordered (upd f k x) m from HSK.out.rest (fun j h0 hj hp => by
          have hjk := parent_kids h0 hp
          rw [← HC.out] at hjk
          rw [HGK.out, HG.out _ (by omega)]
          omega))
        go_wp2_with fail
        go_quiet (fail)
        go_wp2_with fail
        go_ret
        exact ⟨x0, rfl, HXS.out, HL.out, (fin.out _ OR.out).1, (fin.out _ OR.out).2⟩

end Go.Proofs.Ytagfgbmaibadjaa
