/- Contract of the heap's take: the least number, and it is taken out. Contract of the walker's meet. Contract of the walker's close. -/
import Derived.Test.YtpcjfgihglfdgaaGreatDoorKCjMem

namespace Go.Proofs.YtpcjfgihglfdgaaGreatDoor.Isl
open Go.RowKit Go.Lib

def TakeRel (w : World) (hb m x : Nat) (S : Nat → Prop) (kv : Value) (wr : World) : Prop :=
  ∃ (k : Nat) (f : Nat → Nat), kv = .int .i64 (k : Int) ∧ HRow wr hb f m ∧ Sinking (upd f k x) m k S ∧ Chg [hb] w wr ∧ k ≤ m
def TakeEnd (w : World) (hb m : Nat) (S : Nat → Prop) (e : Ending) (w' : World) : Prop :=
  ∃ x : Nat, e = .returned (.int .i64 (x : Int)) ∧ S x ∧ (∀ v, S v → x ≤ v) ∧ HeapAt w' hb m (fun v => S v ∧ v ≠ x) ∧ Chg [hb] w w'

theorem parent_kids {j k : Nat} (h0 : 0 < j) (h : parent j = k) : j = 2 * k + 1 ∨ j = 2 * k + 1 + 1 := by
  unfold parent at h; omega
theorem parent_left (k : Nat) : parent (2 * k + 1) = k := by unfold parent; omega
theorem parent_right (k : Nat) : parent (2 * k + 1 + 1) = k := by unfold parent; omega

set_option maxRecDepth 20000 in
set_option maxHeartbeats 2000000 in
theorem take_any {w : World} {hb m : Nat} {S : Nat → Prop} (H : HeapAt w hb (m + 1) S) (hm : m < 2000) (hS : ∀ v, S v → v ≤ 1000000) :
    Calls Tryz.prog 26 #[.pointer (some ⟨hb, 0, none⟩)] w (TakeEnd w hb m S) := by
  obtain ⟨f, hf, hh, ho⟩ := H
  obtain ⟨x0, hx0⟩ : ∃ x0, x0 = f 0 := ⟨_, rfl⟩
  obtain ⟨x, hx⟩ : ∃ x, x = f m := ⟨_, rfl⟩
  have hx0S : S x0 := (hh.mem x0).2 ⟨0, by omega, hx0.symm⟩
  have hxS : S x := (hh.mem x).2 ⟨m, by omega, hx.symm⟩
  have b0 := hS x0 hx0S
  have b1 := hS x hxS
  have hle : ∀ v, S v → x0 ≤ v := fun v hv => by
    obtain ⟨i, hi, e⟩ := (hh.mem v).1 hv
    rw [hx0, ← e]
    exact ordered_least ho i hi
  have c0 := hf.get (i := 0) (by omega)
  rw [← hx0] at c0
  have cn := hf.num
  have fn := hf.free (i := 2000)
  have hf1 := hf.setnum m
  have cm : (w.setCell ⟨hb, 2000, none⟩ (.int .i64 (m : Int))).cell? ⟨hb, m, none⟩ = some (.int .i64 (x : Int)) := by rw [hf1.get hm, hx]
  have cn1 := hf1.num
  have hA0 : ((m + 1 : Nat) : Int) - 1 = (m : Int) := by omega
  have SK := hid (sinking_start hh ho)
  rw [← hx, ← hx0] at SK
  have HF1 := hid hf1
  have HB := hid hS
  have HL := hid hle
  have HXS := hid hx0S
  clear hf hh ho hx0S hxS hle hf1 hS hx0 hx
  go_enter Tryz.func26, Tryz.ntmps26
  go_wp2_with fail
  go_region
  go_wp2_with fail
  clear c0 cn fn cm cn1
  go_loopw [5] (fun kv wr => TakeRel w hb m x (fun v => S v ∧ v ≠ x0) kv wr) (fun kv _ => m - (intOf kv).toNat)
  case atStart => exact ⟨0, f, rfl, (show HRow _ hb _ _ from ((Chg.refl [] _).drew).heap HF1.out (by simp)), SK.out, ((Chg.refl [hb] w).setCell (by simp) _).drew, by omega⟩
  case round =>
    clear SK HF1
    obtain ⟨k, f, rfl, hf, hs, hch, hkm⟩ := hrel
    obtain ⟨c, hc⟩ : ∃ c, c = 2 * k + 1 := ⟨_, rfl⟩
    have hA : 2 * (k : Int) + 1 = (c : Int) := by omega
    have cn := hf.num
    have ck := hf.get (i := k) (by omega)
    have fk := hf.free (i := k)
    have gj : ∀ j, j ≠ k → upd f k x j = f j := fun j hj => upd_far _ _ hj
    have gk : upd f k x k = x := upd_same _ _ _
    have val : ∀ j, j < m → j ≠ k → f j ≤ 1000000 := fun j hj hjk => by
      have := (hs.holds.mem (f j)).2 ⟨j, hj, gj j hjk⟩
      exact HB.out _ this.1
    have HF := hid hf
    have HSK := hid hs
    have HCH := hid hch
    have HG := hid gj
    have HGK := hid gk
    have fin := hid (fun q => (show Ordered (upd f k x) m → HeapAt ((wr.drewN q).setCell ⟨hb, k, none⟩ (.int .i64 (x : Int))) hb m (fun v => S v ∧ v ≠ x0) ∧ Chg [hb] w ((wr.drewN q).setCell ⟨hb, k, none⟩ (.int .i64 (x : Int))) from fun h =>
      ⟨⟨_, (show HRow (wr.drewN q) hb f m from ((Chg.refl [] wr).drewN q).heap hf (by simp)).set (by omega) x, hs.holds, h⟩, hch.trans (((Chg.refl [hb] wr).drewN q).setCell (by simp) _) (by simp)⟩))
    have fin0 := hid (show Ordered (upd f k x) m → HeapAt (wr.setCell ⟨hb, k, none⟩ (.int .i64 (x : Int))) hb m (fun v => S v ∧ v ≠ x0) ∧ Chg [hb] w (wr.setCell ⟨hb, k, none⟩ (.int .i64 (x : Int))) from fun h =>
      ⟨⟨_, hf.set (by omega) x, hs.holds, h⟩, hch.trans ((Chg.refl [hb] wr).setCell (by simp) _) (by simp)⟩)
    by_cases h1 : c + 1 < m
    · have ca := hf.get (i := c) (by omega)
      have cb := hf.get (i := c + 1) (by omega)
      obtain ⟨a, ha⟩ : ∃ a, a = f c := ⟨_, rfl⟩
      obtain ⟨b, hb'⟩ : ∃ b, b = f (c + 1) := ⟨_, rfl⟩
      rw [← ha] at ca
      rw [← hb'] at cb
      have va := val c (by omega) (by omega)
      have vb := val (c + 1) (by omega) (by omega)
      rw [← ha] at va
      rw [← hb'] at vb
      have HC := hid hc
      have HAA := hid ha
      have HBB := hid hb'
      have hck : k < c := by omega
      have hd : ((c : Int) + 1 < (m : Int)) = True := by rw [eq_iff_iff, iff_true]; omega
      clear hf hs hch gj gk val hc ha hb'
      by_cases hab : b < a
      · by_cases hbx : b < x
        · have RR := hid (fun q => (show TakeRel w hb m x (fun v => S v ∧ v ≠ x0) (.int .i64 ((c : Int) + 1)) ((wr.drewN q).setCell ⟨hb, k, none⟩ (.int .i64 (b : Int))) from by
            have h := HSK.out.down (c := c + 1) (by omega) (by rw [HC.out]; exact parent_right k) (by omega) (by rw [HG.out _ (by omega), HGK.out, ← HBB.out]; omega) (fun j h0 hj hp => by
              have hjk := parent_kids h0 hp
              rw [← HC.out] at hjk
              rw [HG.out _ (by omega), HG.out _ (by omega), ← HBB.out]
              rcases hjk with e | e
              · rw [e, ← HAA.out]; omega
              · rw [e, ← HBB.out]; omega)
            rw [← swp_upd (by omega), ← HBB.out] at h
            exact ⟨c + 1, _, by simp, (show HRow (wr.drewN q) hb f m from ((Chg.refl [] wr).drewN q).heap HF.out (by simp)).set (by omega) b, h, HCH.out.trans (((Chg.refl [hb] wr).drewN q).setCell (by simp) _) (by simp), by omega⟩))
          go_wp2_with fail
          go_quiet (fail)
          go_wp2_with fail
          go_region
          go_wp2_with fail
          go_roundw
          case rel => exact RR.out _
          case measure => simp [intOf]; omega
        · have OR := hid (show Ordered (upd f k x) m from HSK.out.rest (fun j h0 hj hp => by
            have hjk := parent_kids h0 hp
            rw [← HC.out] at hjk
            rw [HGK.out, HG.out _ (by omega)]
            rcases hjk with e | e
            · rw [e, ← HAA.out]; omega
            · rw [e, ← HBB.out]; omega))
          go_wp2_with fail
          go_quiet (fail)
          go_wp2_with fail
          go_ret
          exact ⟨x0, rfl, HXS.out, HL.out, (fin.out _ OR.out).1, (fin.out _ OR.out).2⟩
      · by_cases hax : a < x
        · have RR := hid (fun q => (show TakeRel w hb m x (fun v => S v ∧ v ≠ x0) (.int .i64 ((c : Nat))) ((wr.drewN q).setCell ⟨hb, k, none⟩ (.int .i64 (a : Int))) from by
            have h := HSK.out.down (c := c) (by omega) (by rw [HC.out]; exact parent_left k) (by omega) (by rw [HG.out _ (by omega), HGK.out, ← HAA.out]; omega) (fun j h0 hj hp => by
              have hjk := parent_kids h0 hp
              rw [← HC.out] at hjk
              rw [HG.out _ (by omega), HG.out _ (by omega), ← HAA.out]
              rcases hjk with e | e
              · rw [e, ← HAA.out]; omega
              · rw [e, ← HBB.out]; omega)
            rw [← swp_upd (by omega), ← HAA.out] at h
            exact ⟨c, _, by simp, (show HRow (wr.drewN q) hb f m from ((Chg.refl [] wr).drewN q).heap HF.out (by simp)).set (by omega) a, h, HCH.out.trans (((Chg.refl [hb] wr).drewN q).setCell (by simp) _) (by simp), by omega⟩))
          go_wp2_with fail
          go_quiet (fail)
          go_wp2_with fail
          go_region
          go_wp2_with fail
          go_roundw
          case rel => exact RR.out _
          case measure => simp [intOf]; omega
        · have OR := hid (show Ordered (upd f k x) m from HSK.out.rest (fun j h0 hj hp => by
            have hjk := parent_kids h0 hp
            rw [← HC.out] at hjk
            rw [HGK.out, HG.out _ (by omega)]
            rcases hjk with e | e
            · rw [e, ← HAA.out]; omega
            · rw [e, ← HBB.out]; omega))
          go_wp2_with fail
          go_quiet (fail)
          go_wp2_with fail
          go_ret
          exact ⟨x0, rfl, HXS.out, HL.out, (fin.out _ OR.out).1, (fin.out _ OR.out).2⟩
    · have hd : ((c : Int) + 1 < (m : Int)) = False := by rw [eq_iff_iff, iff_false]; omega
      by_cases h2 : c < m
      · have ca := hf.get (i := c) (by omega)
        obtain ⟨a, ha⟩ : ∃ a, a = f c := ⟨_, rfl⟩
        rw [← ha] at ca
        have va := val c (by omega) (by omega)
        rw [← ha] at va
        have HC := hid hc
        have HAA := hid ha
        have hck : k < c := by omega
        clear hf hs hch gj gk val hc ha
        by_cases hax : a < x
        · have RR := hid (fun q => (show TakeRel w hb m x (fun v => S v ∧ v ≠ x0) (.int .i64 ((c : Nat))) ((wr.drewN q).setCell ⟨hb, k, none⟩ (.int .i64 (a : Int))) from by
            have h := HSK.out.down (c := c) (by omega) (by rw [HC.out]; exact parent_left k) (by omega) (by rw [HG.out _ (by omega), HGK.out, ← HAA.out]; omega) (fun j h0 hj hp => by
              have hjk := parent_kids h0 hp
              rw [← HC.out] at hjk
              rw [HG.out _ (by omega), HG.out _ (by omega), ← HAA.out]
              rcases hjk with e | e
              · rw [e, ← HAA.out]; omega
              · omega)
            rw [← swp_upd (by omega), ← HAA.out] at h
            exact ⟨c, _, by simp, (show HRow (wr.drewN q) hb f m from ((Chg.refl [] wr).drewN q).heap HF.out (by simp)).set (by omega) a, h, HCH.out.trans (((Chg.refl [hb] wr).drewN q).setCell (by simp) _) (by simp), by omega⟩))
          go_wp2_with fail
          go_quiet (fail)
          go_wp2_with fail
          go_region
          go_wp2_with fail
          go_roundw
          case rel => exact RR.out _
          case measure => simp [intOf]; omega
        · have OR := hid (show Ordered (upd f k x) m from HSK.out.rest (fun j h0 hj hp => by
            have hjk := parent_kids h0 hp
            rw [← HC.out] at hjk
            rw [HGK.out, HG.out _ (by omega)]
            rcases hjk with e | e
            · rw [e, ← HAA.out]; omega
            · omega))
          go_wp2_with fail
          go_quiet (fail)
          go_wp2_with fail
          go_ret
          exact ⟨x0, rfl, HXS.out, HL.out, (fin.out _ OR.out).1, (fin.out _ OR.out).2⟩
      · have HC := hid hc
        have hck : k < c := by omega
        clear hf hs hch gj gk val hc
        have OR := hid (show Ordered (upd f k x) m from HSK.out.rest (fun j h0 hj hp => by
          have hjk := parent_kids h0 hp
          rw [← HC.out] at hjk
          rw [HGK.out, HG.out _ (by omega)]
          omega))
        go_wp2_with fail
        go_quiet (fail)
        go_wp2_with fail
        go_ret
        exact ⟨x0, rfl, HXS.out, HL.out, (fin.out _ OR.out).1, (fin.out _ OR.out).2⟩

end Go.Proofs.YtpcjfgihglfdgaaGreatDoor.Isl

namespace Go.Proofs.YtpcjfgihglfdgaaGreatDoor.Isl
open Go.RowKit Go.Lib

def MeetEnd (w : World) (B wb : Nat) (ev : Value) (n bw bl bo : Nat) (ov : Value) (s : St) (k : Nat) (e : Ending) (w' : World) : Prop :=
  e = .returned (.tuple #[]) ∧ ∃ ov', WAt w' B wb ev n bw bl bo ov' (meet s k) ∧ WChg wb bw bl bo ov ov' w w'

/-- the two rows written, then the list of the open ones -/
theorem meet_end {w w1 : World} {B wb n bw bl bo k : Nat} {ev ov : Value} {s : St} (A : WAt w B wb ev n bw bl bo ov s) (hs : s.opn.length ≤ 1000000)
    (hw1 : w1 = (((w.setCell ⟨wb, 5, none⟩ (.int .i64 ((s.time : Int) + 1))).setCell ⟨bw, k, none⟩ (.int .i64 ((s.time : Int) + 1))).setCell ⟨bl, k, none⟩ (.int .i64 ((s.time : Int) + 1))).drew ∨
      w1 = (((w.setCell ⟨wb, 5, none⟩ (.int .i64 ((s.time : Int) + 1))).setCell ⟨bl, k, none⟩ (.int .i64 ((s.time : Int) + 1))).setCell ⟨bw, k, none⟩ (.int .i64 ((s.time : Int) + 1))).drew) :
    w1.cell? ⟨wb, 3, none⟩ = some ov ∧ ∃ a c w2, (Builtin.append_ #[42, 42] 42 #[ov, .slice (some ⟨w.heap.size, 0, none⟩) 1 1]).run Tryz.prog (w1.alloc (.cells #[.int .i64 (k : Int)] 3)) = .ok (.slice a (s.opn.length + 1) c) w2 ∧
      w2.cell? ⟨wb, 3, none⟩ = some ov ∧ w2.frozen? ⟨wb, 3, none⟩ = false ∧ MeetEnd w B wb ev n bw bl bo ov s k (.returned (.tuple #[])) (w2.setCell ⟨wb, 3, none⟩ (.slice a (s.opn.length + 1) c)) := by
  have nwb : wb ≠ bw ∧ wb ≠ bl ∧ wb ≠ bo := ⟨heap_ne A.hd A.rw (by decide), heap_ne A.hd A.rl (by decide), heap_ne A.hd A.ro (by decide)⟩
  have now : wb ∉ own ov := fun hm => by
    simp only [own, Option.mem_toList] at hm
    obtain ⟨cur, hc⟩ := owns_cells A.op hm
    exact heap_ne hc A.hd (by decide) rfl
  have ow := A.ow
  have a1 := heap_setCell_at (i := 5) A.hd (.int .i64 ((s.time : Int) + 1))
  have hd1 : w1.heap[wb]? = some (.cells #[ev, .slice (some ⟨bw, 0, none⟩) n n, .slice (some ⟨bl, 0, none⟩) n n, ov, .slice (some ⟨bo, 0, none⟩) n n, .int .i64 ((s.time : Int) + 1), .int .i64 (s.many : Int)] 87 (0, 0)) := by
    rcases hw1 with rfl | rfl
    · exact heap_setCell_far (heap_setCell_far (w := w.setCell _ _) a1 nwb.1 _) nwb.2.1 _
    · exact heap_setCell_far (heap_setCell_far (w := w.setCell _ _) a1 nwb.2.1 _) nwb.1 _
  have e1 : natI (meet s k).wn = upd (natI s.wn) k ((s.time : Int) + 1) := by
    show natI (upd s.wn k (s.time + 1)) = _
    rw [← natI_upd]; rfl
  have e2 : natI (meet s k).low = upd (natI s.low) k ((s.time : Int) + 1) := by
    show natI (upd s.low k (s.time + 1)) = _
    rw [← natI_upd]; rfl
  have rw0 : RowF (w.setCell ⟨wb, 5, none⟩ (.int .i64 ((s.time : Int) + 1))) bw n (natI s.wn) := A.rw.far (p := ⟨wb, 5, none⟩) nwb.1.symm _
  have rl0 : RowF (w.setCell ⟨wb, 5, none⟩ (.int .i64 ((s.time : Int) + 1))) bl n (natI s.low) := A.rl.far (p := ⟨wb, 5, none⟩) nwb.2.1.symm _
  have rw1 : RowF w1 bw n (natI (meet s k).wn) := by
    rw [e1]
    rcases hw1 with rfl | rfl
    · exact (rw0.set _).far (p := ⟨bl, k, none⟩) A.wl _
    · exact (rw0.far (p := ⟨bl, k, none⟩) A.wl _).set _
  have rl1 : RowF w1 bl n (natI (meet s k).low) := by
    rw [e2]
    rcases hw1 with rfl | rfl
    · exact (rl0.far (p := ⟨bw, k, none⟩) A.wl.symm _).set _
    · exact (rl0.set _).far (p := ⟨bw, k, none⟩) A.wl.symm _
  have ch1 : Chg [wb, bw, bl] w w1 := by
    rcases hw1 with rfl | rfl
    · exact ((((Chg.refl _ w).setCell (by simp) _).setCell (by simp) _).setCell (by simp) _).drew
    · exact ((((Chg.refl _ w).setCell (by simp) _).setCell (by simp) _).setCell (by simp) _).drew
  have nov : ∀ g, ov.ownBlock = some g → g ∉ [wb, bw, bl] := fun g hg => by
    have := ow g hg
    simp only [List.mem_cons, List.not_mem_nil, or_false, not_or]
    exact ⟨fun e => now (by simp [own, hg, e]), this.1, this.2.1⟩
  have op1 := ch1.owns A.op nov
  have ro1 : RowF w1 bo n (islI s.isl) := A.ro.chg ch1 (by simp [nwb.2.2.symm, A.wo.symm, A.lo.symm])
  have hB : B ≤ w1.heap.size := by have := A.b0; have := heap_lt A.hd; have := ch1.size; omega
  obtain ⟨a, c, w2, h1, h2, ch2, ho⟩ := app_int op1 hB hs (k : Int)
  have nb : ∀ b, (b = bw ∨ b = bl ∨ b = bo) → b ∉ own ov := fun b hb hm => by
    simp only [own, Option.mem_toList] at hm
    have := ow b hm
    omega
  have hd2 := ch2.heap hd1 now
  have ch3 : Chg [wb] w2 (w2.setCell ⟨wb, 3, none⟩ (.slice a (s.opn.length + 1) c)) := (Chg.refl _ w2).setCell (by simp) _
  have lt1 := ch1.size
  have hsz : w1.heap.size = w.heap.size := by rcases hw1 with rfl | rfl <;> simp [World.drew]
  rw [hsz] at h1
  refine ⟨cell_of (i := 3) hd1 rfl, a, c, w2, h1, cell_of (i := 3) hd2 rfl, free_of (i := 3) hd2, rfl, .slice a (s.opn.length + 1) c, ⟨?_, ?_, ?_, ?_, ?_, A.wl, A.wo, A.lo, ?_, A.b0, A.b1, A.b2, A.b3⟩, ?_, ?_⟩
  · exact heap_setCell_at hd2 _
  · exact (rw1.chg ch2 (nb bw (by simp))).chg ch3 (by simp [nwb.1.symm])
  · exact (rl1.chg ch2 (nb bl (by simp))).chg ch3 (by simp [nwb.2.1.symm])
  · exact (ro1.chg ch2 (nb bo (by simp))).chg ch3 (by simp [nwb.2.2.symm])
  · have e : (meet s k).opn = s.opn ++ [k] := rfl
    rw [e, List.length_append, natCells, List.map_append]
    refine ch3.owns h2 (fun g hg => ?_)
    obtain ⟨cur, hc⟩ := owns_cells h2 hg
    simpa using heap_ne hc hd2 (by decide)
  · intro g hg
    rcases ho g hg with h | h
    · exact ow g h
    · have := A.rw.lt; have := A.rl.lt; have := A.ro.lt; omega
  · exact (ch1.mono (by simp +contextual)).trans ((ch2.mono (G := wb :: bw :: bl :: bo :: own ov) (by simp +contextual)).trans (ch3.mono (by simp)) (fun g hg => .inl hg)) (fun g hg => .inl hg)
  · intro g hg
    rcases ho g hg with h | h
    · exact .inl h
    · exact .inr (by omega)

set_option maxHeartbeats 1000000 in
theorem meet_any {w : World} {B wb n bw bl bo k : Nat} {ev ov : Value} {s : St} (A : WAt w B wb ev n bw bl bo ov s) (hk : k < n) (ht : s.time ≤ 1000000) (hs : s.opn.length ≤ 1000000) (_hn : n ≤ 1000000) :
    Calls Tryz.prog 64 #[.pointer (some ⟨wb, 0, none⟩), .int .i64 (k : Int)] w (MeetEnd w B wb ev n bw bl bo ov s k) := by
  have c5 := cell_of (i := 5) A.hd rfl
  have f5 := free_of (i := 5) A.hd
  have a1 := heap_setCell_at (i := 5) A.hd (.int .i64 ((s.time : Int) + 1))
  have d1 := cell_of (i := 1) a1 rfl
  have d2 := cell_of (i := 2) a1 rfl
  have d5 := cell_of (i := 5) a1 rfl
  have nwb : wb ≠ bw ∧ wb ≠ bl := ⟨heap_ne A.hd A.rw (by decide), heap_ne A.hd A.rl (by decide)⟩
  have rw0 : RowF (w.setCell ⟨wb, 5, none⟩ (.int .i64 ((s.time : Int) + 1))) bw n (natI s.wn) := A.rw.far (p := ⟨wb, 5, none⟩) nwb.1.symm _
  have rl0 : RowF (w.setCell ⟨wb, 5, none⟩ (.int .i64 ((s.time : Int) + 1))) bl n (natI s.low) := A.rl.far (p := ⟨wb, 5, none⟩) nwb.2.symm _
  have g1 := rw0.get hk
  have g2 := rl0.get hk
  have k1 := rw0.free (i := k)
  have k2 := rl0.free (i := k)
  have x1 := (rw0.far (p := ⟨bl, k, none⟩) A.wl (.int .i64 ((s.time : Int) + 1))).get hk
  have x2 := (rl0.far (p := ⟨bw, k, none⟩) A.wl.symm (.int .i64 ((s.time : Int) + 1))).get hk
  have y1 := (rw0.far (p := ⟨bl, k, none⟩) A.wl (.int .i64 ((s.time : Int) + 1))).free (i := k)
  have y2 := (rl0.far (p := ⟨bw, k, none⟩) A.wl.symm (.int .i64 ((s.time : Int) + 1))).free (i := k)
  have HE := hid (fun w1 hw1 => meet_end (w1 := w1) (k := k) A hs hw1)
  clear A a1 rw0 rl0
  go_enter Tryz.func64, Tryz.ntmps64
  go_wp2_with fail
  go_region
  obtain ⟨q3, a, c, w2, hr, cc, ff, fin⟩ := HE.out _ (.inl rfl)
  have FIN := hid fin
  clear HE fin c5 f5 d1 d2 d5 g1 g2 k1 k2 x1 x2 y1 y2
  go_wp2_with (at_builtin; refine wpList_append_run rfl (.tmp 35) (.tmp 37) 42 rfl _ _ rfl rfl hr ?_)
  go_end0
  exact FIN.out

end Go.Proofs.YtpcjfgihglfdgaaGreatDoor.Isl

namespace Go.Proofs.YtpcjfgihglfdgaaGreatDoor.Isl
open Go.RowKit Go.Lib

theorem own_ints {w : World} {B : Nat} {v : Value} {l : List Nat} (h : w.ownsRow B 3 1 v l.length (natCells l)) (hl : ∀ x ∈ l, x ≤ 1000000) (hn : l.length ≤ 1000000) : IntsIn w v (l.map fun (x : Nat) => (x : Int)) := by
  rcases h.2 with ⟨rfl, h0⟩ | ⟨g, cap, cur, rfl, _⟩
  · have : l = [] := List.eq_nil_of_length_eq_zero h0
    subst this
    exact ⟨none, 0, 0, 0, rfl, by simp, by simp⟩
  · refine ⟨_, cap, g, 0, by rw [List.length_map], by simp; omega, fun j x hx => ⟨rfl, ?_, ?_⟩⟩
    · simp only [List.getElem?_map, Option.map_eq_some_iff] at hx
      obtain ⟨y, hy, rfl⟩ := hx
      have hj : j < l.length := (List.getElem?_eq_some_iff.1 hy).1
      rw [Nat.zero_add, h.cellAt j (by omega)]
      simp [natCells, hy]
    · simp only [List.getElem?_map, Option.map_eq_some_iff] at hx
      obtain ⟨y, hy, rfl⟩ := hx
      have := hl y (List.mem_of_getElem? hy)
      omega
theorem idxOf_cast (k : Nat) : ∀ l : List Nat, (l.map fun (x : Nat) => (x : Int)).idxOf (k : Int) = l.idxOf k
  | [] => rfl
  | y :: l => by
    simp only [List.map_cons, List.idxOf_cons, idxOf_cast k l]
    by_cases h : y = k
    · subst h; simp
    · have h1 : ((y : Int) == (k : Int)) = false := by rw [beq_eq_false_iff_ne]; omega
      have h2 : (y == k) = false := by simpa using h
      rw [h1, h2]
theorem find_cast {k : Nat} {l : List Nat} (h : k ∈ l) : findI (k : Int) (l.map fun (x : Nat) => (x : Int)) = (l.idxOf k : Int) := by
  unfold findI
  rw [if_pos (List.mem_map.2 ⟨k, h, rfl⟩), idxOf_cast]

def CloseEnd (w : World) (B wb : Nat) (ev : Value) (n bw bl bo : Nat) (ov : Value) (s : St) (k : Nat) (e : Ending) (w' : World) : Prop :=
  e = .returned (.tuple #[]) ∧ ∃ ov', WAt w' B wb ev n bw bl bo ov' (shut s k) ∧ WChg wb bw bl bo ov ov' w w'

/-- the islands' numbers with so many of the open ones closed -/
def isl2 (s : St) (q j : Nat) : Nat → Option Nat := fun i => if i ∈ (s.opn.drop q).take j then some s.many else s.isl i
theorem isl2_step {s : St} {q j x : Nat} (hx : (s.opn.drop q)[j]? = some x) : upd (islI (isl2 s q j)) x (s.many : Int) = islI (isl2 s q (j + 1)) := by
  obtain ⟨hj, e⟩ := List.getElem?_eq_some_iff.1 hx
  funext i
  unfold islI isl2 upd
  rw [List.take_succ_eq_append_getElem hj, e]
  by_cases h : i = x
  · subst h; simp
  · simp [h]

def CloseRel (w : World) (B wb : Nat) (ev : Value) (n bw bl bo : Nat) (ov : Value) (s : St) (q : Nat) (i : Value) (wr : World) : Prop :=
  ∃ j : Nat, i = .int .i64 (j : Int) ∧ j ≤ s.opn.length - q ∧ WAt wr B wb ev n bw bl bo ov { s with isl := isl2 s q j } ∧ Chg [bo] w wr

theorem close_step {w wr : World} {B wb n bw bl bo q j x : Nat} {ev ov : Value} {s : St} (A : WAt wr B wb ev n bw bl bo ov { s with isl := isl2 s q j }) (hx : (s.opn.drop q)[j]? = some x) (hch : Chg [bo] w wr) (hj : j < s.opn.length - q) (m : Nat) :
    CloseRel w B wb ev n bw bl bo ov s q (.int .i64 ((j : Int) + 1)) ((wr.setCell ⟨bo, x, none⟩ (.int .i64 (s.many : Int))).drewN m) := by
  have ch : Chg [bo] wr ((wr.setCell ⟨bo, x, none⟩ (.int .i64 (s.many : Int))).drewN m) := ((Chg.refl [bo] wr).setCell (by simp) _).drewN m
  have nwb : wb ≠ bo := heap_ne A.hd A.ro (by decide)
  refine ⟨j + 1, by simp, by omega, ⟨ch.heap A.hd (by simpa using nwb), A.rw.chg ch (by simpa using A.wo), A.rl.chg ch (by simpa using A.lo), ?_, ch.owns A.op (fun g hg => by simpa using (A.ow g hg).2.2), A.wl, A.wo, A.lo, A.ow, A.b0, A.b1, A.b2, A.b3⟩, hch.trans ch (by simp)⟩
  have := A.ro.set (k := x) (s.many : Int)
  rw [isl2_step hx] at this
  exact this.chg ((Chg.refl [] _).drewN m) (by simp)

theorem ownBlock_len (a : Option Addr) (n c m d : Nat) : (Value.slice a n c).ownBlock = (Value.slice a m d).ownBlock := by cases a <;> rfl

theorem close_end {w wr : World} {B wb n bw bl bo k : Nat} {ev ov : Value} {s : St} {a : Option Addr} {c : Nat} (A : WAt wr B wb ev n bw bl bo ov { s with isl := isl2 s (s.opn.idxOf k) (s.opn.length - s.opn.idxOf k) }) (hch : Chg [bo] w wr) (hk : k ∈ s.opn) (hv : ov = .slice a s.opn.length c) :
    (wr.setCell ⟨wb, 3, none⟩ (.slice a (s.opn.idxOf k) c)).cell? ⟨wb, 6, none⟩ = some (.int .i64 (s.many : Int)) ∧ (wr.setCell ⟨wb, 3, none⟩ (.slice a (s.opn.idxOf k) c)).frozen? ⟨wb, 6, none⟩ = false ∧
    CloseEnd w B wb ev n bw bl bo ov s k (.returned (.tuple #[])) ((wr.setCell ⟨wb, 3, none⟩ (.slice a (s.opn.idxOf k) c)).setCell ⟨wb, 6, none⟩ (.int .i64 ((s.many : Int) + 1))) := by
  have hq := List.idxOf_lt_length_of_mem hk
  have hd1 := heap_setCell_at (i := 3) A.hd (.slice a (s.opn.idxOf k) c)
  have ch : Chg [wb] wr ((wr.setCell ⟨wb, 3, none⟩ (.slice a (s.opn.idxOf k) c)).setCell ⟨wb, 6, none⟩ (.int .i64 ((s.many : Int) + 1))) := ((Chg.refl [wb] wr).setCell (by simp) _).setCell (by simp) _
  have nwb : wb ≠ bw ∧ wb ≠ bl ∧ wb ≠ bo := ⟨heap_ne A.hd A.rw (by decide), heap_ne A.hd A.rl (by decide), heap_ne A.hd A.ro (by decide)⟩
  have eo : isl2 s (s.opn.idxOf k) (s.opn.length - s.opn.idxOf k) = (shut s k).isl := by
    funext i
    unfold isl2
    rw [List.take_of_length_le (by simp)]
    rfl
  have h2 : (wr.setCell ⟨wb, 3, none⟩ (.slice a (s.opn.idxOf k) c)).heap[wb]? = some (.cells #[ev, .slice (some ⟨bw, 0, none⟩) n n, .slice (some ⟨bl, 0, none⟩) n n, .slice a (s.opn.idxOf k) c, .slice (some ⟨bo, 0, none⟩) n n, .int .i64 (s.time : Int), .int .i64 (s.many : Int)] 87 (0, 0)) := hd1
  refine ⟨cell_of (i := 6) h2 rfl, free_of (i := 6) h2, rfl, .slice a (s.opn.idxOf k) c, ⟨heap_setCell_at h2 _, A.rw.chg ch (by simp [nwb.1.symm]), A.rl.chg ch (by simp [nwb.2.1.symm]), ?_, ?_, A.wl, A.wo, A.lo, ?_, A.b0, A.b1, A.b2, A.b3⟩, ?_, ?_⟩
  · have := A.ro
    simp only [eo] at this
    exact this.chg ch (by simp [nwb.2.2.symm])
  · have hop := A.op
    rw [hv] at hop
    have e : (shut s k).opn = s.opn.take (s.opn.idxOf k) := rfl
    have el : (shut s k).opn.length = s.opn.idxOf k := by rw [e, List.length_take]; omega
    rw [el]
    refine ch.owns (v := .slice a (s.opn.idxOf k) c) ?_ (fun g hg => ?_)
    · refine ⟨by rw [natCells, List.length_map, el]; omega, ?_⟩
      rcases hop.2 with ⟨h1, h3⟩ | ⟨g, cap, cur, h1, h3, h4, h5, h6, h7, h8⟩
      · exfalso
        simp only at h3
        omega
      · injection h1 with h1 _ h1c
        subst h1 h1c
        refine .inr ⟨g, c, cur, rfl, h3, h4, ?_, h6, h7, ?_⟩
        · simp only at h5; omega
        · rw [Nat.mul_one]
          simp only [Nat.mul_one] at h8
          have : cur.toList.take (s.opn.idxOf k) = (cur.toList.take s.opn.length).take (s.opn.idxOf k) := by rw [List.take_take]; congr 1; omega
          rw [this, h8, e, natCells, natCells, List.map_take]
    · have hg2 : ov.ownBlock = some g := by rw [hv, ownBlock_len a _ _ (s.opn.idxOf k) c]; exact hg
      obtain ⟨cur, hc⟩ := owns_cells A.op hg2
      simpa using heap_ne hc A.hd (by decide)
  · intro g hg
    exact A.ow g (by rw [hv, ownBlock_len a _ _ (s.opn.idxOf k) c]; exact hg)
  · exact (hch.mono (by simp +contextual)).trans (ch.mono (G := wb :: bw :: bl :: bo :: own ov) (by simp)) (fun g hg => .inl hg)
  · intro g hg
    exact .inl (by rw [hv, ownBlock_len a _ _ (s.opn.idxOf k) c]; exact hg)

set_option maxHeartbeats 1000000 in
theorem close_any {w : World} {B wb n bw bl bo k : Nat} {ev ov : Value} {s : St} (A : WAt w B wb ev n bw bl bo ov s) (hk : k ∈ s.opn) (ho : ∀ x ∈ s.opn, x < n) (hs : s.opn.length ≤ 1000000) (hn : n ≤ 1000000) (hm : s.many ≤ 1000000) :
    Calls Tryz.prog 65 #[.pointer (some ⟨wb, 0, none⟩), .int .i64 (k : Int)] w (CloseEnd w B wb ev n bw bl bo ov s k) := by
  have hin := own_ints A.op (fun x hx => by have := ho x hx; omega) hs
  have HIX := hid (index_any w ov _ hin (k : Int) (by omega) (by have := ho k hk; omega))
  rw [find_cast hk] at HIX
  obtain ⟨q, hq⟩ : ∃ q, q = s.opn.idxOf k := ⟨_, rfl⟩
  have hql : q < s.opn.length := hq ▸ List.idxOf_lt_length_of_mem hk
  rw [← hq] at HIX
  obtain ⟨g, c, rfl⟩ : ∃ g c, ov = .slice (some ⟨g, 0, none⟩) s.opn.length c := by
    rcases A.op.2 with ⟨_, h⟩ | ⟨g, cap, cur, rfl, _⟩
    · omega
    · exact ⟨g, cap, rfl⟩
  have hcap : s.opn.length ≤ c := by
    rcases A.op.2 with ⟨_, h⟩ | ⟨g', cap, cur, he, _, _, h, _⟩
    · omega
    · injection he with _ _ h3
      omega
  have hcm : c ≤ 9223372036854775807 := by
    rcases A.op.2 with ⟨_, h⟩ | ⟨g', cap, cur, he, _, _, _, h, _⟩
    · omega
    · injection he with _ _ h3
      unfold maxLen at h
      omega
  have c3 := cell_of (i := 3) A.hd rfl
  have HA := hid A
  have HQ := hid hq
  have HK := hid hk
  have HO := hid ho
  clear A hq hk hin ho
  go_enter Tryz.func65, Tryz.ntmps65
  go_wp2_with fail
  refine HIX.out.mono ?_
  rintro e w' ⟨rfl, rfl⟩
  have hne : ¬ c = q := by omega
  have hqc : q ≤ c := by omega
  have hcell : ∀ (j x : Nat), (s.opn.drop q)[j]? = some x → ∀ y : World, WAt y B wb ev n bw bl bo (.slice (some ⟨g, 0, none⟩) s.opn.length c) { s with isl := isl2 s q j } → y.cell? ⟨g, q + j, none⟩ = some (.int .i64 (x : Int)) := fun j x hx y hy => by
    rw [List.getElem?_drop] at hx
    have hj : q + j < s.opn.length := (List.getElem?_eq_some_iff.1 hx).1
    have hop := hy.op
    rw [hop.cellAt (q + j) (by show q + j < s.opn.length * 1; omega)]
    simp [natCells, hx]
  have HC := hid hcell
  clear hcell HIX
  go_wp2_with fail
  go_loopw [20] (fun i wr => CloseRel w B wb ev n bw bl bo (.slice (some ⟨g, 0, none⟩) s.opn.length c) s q i wr) (fun i _ => s.opn.length - (intOf i).toNat)
  case atStart =>
    refine ⟨0, rfl, by omega, ?_, Chg.refl _ _⟩
    have : ({ s with isl := isl2 s q 0 } : St) = s := by
      have e : isl2 s q 0 = s.isl := by funext i; simp [isl2]
      rw [e]
    rw [this]
    exact HA.out
  case round =>
    obtain ⟨j, rfl, hj, A1, ch1⟩ := hrel
    have d3 := cell_of (i := 3) A1.hd rfl
    have d4 := cell_of (i := 4) A1.hd rfl
    have d6 := cell_of (i := 6) A1.hd rfl
    have HA1 := hid A1
    have HCH := hid ch1
    clear A1 ch1
    by_cases hgo : j < s.opn.length - q
    · obtain ⟨x, hx⟩ : ∃ x, (s.opn.drop q)[j]? = some x := ⟨(s.opn.drop q)[j]'(by simp; omega), by simp⟩
      have hcx := HC.out j x hx _ HA1.out
      have hxn := HO.out x (List.mem_of_mem_drop (List.mem_of_getElem? hx))
      have ST := hid (fun m => close_step HA1.out hx HCH.out hgo m)
      have gx := HA1.out.ro.get hxn
      have fx := HA1.out.ro.free (i := x)
      clear hx
      go_wp2_with fail
      go_region
      go_wp2_with fail
      go_roundw
      case rel => exact ST.out 1
      case measure => simp [intOf]; omega
    · obtain rfl : j = s.opn.length - q := by omega
      have f3 := free_of (i := 3) HA1.out.hd
      have EN := HA1.out
      rw [HQ.out] at EN
      obtain ⟨q1, q2, q3⟩ := close_end EN HCH.out HK.out rfl
      rw [← HQ.out] at q1 q2 q3
      have FIN := hid q3
      clear q3 EN
      go_wp2_with fail
      go_end0
      exact FIN.out

end Go.Proofs.YtpcjfgihglfdgaaGreatDoor.Isl
