/- Contract of the document's Crash, at every list of numbers. -/
import Derived.Test.YtknmebknkncmoaaDkRef
namespace Go.Proofs.Ytknmebknkncmoaa
open Go.RowKit Go.Lib

theorem ints_form {w : World} {v : Value} {xs : List Int} (h : IntsAt w v xs) : ∃ ao c b off, v = .slice ao xs.length c ∧ ∀ j x, xs[j]? = some x → ao = some ⟨b, off, none⟩ ∧ w.cell? ⟨b, off + j, none⟩ = some (.int .i64 x) := by
  rcases h with ⟨rfl, ao, c, rfl⟩ | ⟨b, off, c, rfl, h⟩
  · exact ⟨ao, c, 0, 0, rfl, by simp⟩
  · exact ⟨_, c, b, off, rfl, fun j x hx => ⟨rfl, h j x hx⟩⟩

theorem pieces_fit {pend : List (Nat × Bs)} {n : Nat} (ho : ∀ p ∈ pend, p.1 + p.2.length ≤ n) {x : Int} (hx : ixOf x < pend.length) : (pieceOf pend x).1 + (pieceOf pend x).2.length ≤ n := by
  have hm : pend[ixOf x] ∈ pend := List.getElem_mem hx
  have := ho _ hm
  unfold pieceOf
  simp only [List.getElem?_eq_getElem hx, Option.getD_some]
  split
  · simp; omega
  · exact this

/-- the loop's head -/
def RCrashRel (w : World) (base : Nat) (kv : Value) (kept : Bs) (pend : List (Nat × Bs)) (ks : List Int) (l i : Value) (wr : World) : Prop :=
  ∃ (j : Nat) (used : List Bool) (lv : Value), lv = l ∧ i = .int .i64 (j : Int) ∧ j ≤ ks.length ∧ used.length = pend.length ∧ wr.heap[w.heap.size]? = some (.cells (boolCells used).toArray 4 (0, 0)) ∧
    wr.ownsRow base 5 1 l kept.length (byteCells (((ks.take j).map (pieceOf pend)).foldl lay kept)) ∧ UsedBy used (ks.take j) ∧ Below w.heap.size w wr ∧ w.heap.size < wr.heap.size ∧
    ∀ g, l.ownBlock = some g → kv.ownBlock = some g ∨ w.heap.size ≤ g

def RCrashEnd (w : World) (base rb : Nat) (kv : Value) (kept : Bs) (pend : List (Nat × Bs)) (ks : List Int) (e : Ending) (w' : World) : Prop :=
  (KeepOk pend.length ks ∧ SyncEnd w base rb kv ((ks.map (pieceOf pend)).foldl lay kept) e w') ∨ (¬ KeepOk pend.length ks ∧ e = .returned (.int .i64 261) ∧ Below w.heap.size w w')

theorem keeps_fit {pend : List (Nat × Bs)} {n : Nat} (ho : ∀ p ∈ pend, p.1 + p.2.length ≤ n) {ks : List Int} (hk : KeepOk pend.length ks) : ∀ p ∈ ks.map (pieceOf pend), p.1 + p.2.length ≤ n := by
  intro p hp
  obtain ⟨x, hx, rfl⟩ := List.mem_map.1 hp
  exact pieces_fit ho (hk.lt x hx)

theorem rcrash_step {w wr w1 : World} {base q j : Nat} {kv v : Value} {kept : Bs} {pend : List (Nat × Bs)} {ks : List Int} {x : Int} {used : List Bool} {pc : Nat × Bs} {o : Obj} (hx : ks[j]? = some x)
    (hul : used.length = pend.length) (hfree : used[q]?.getD true = false) (hub : UsedBy used (ks.take j)) (hix : ixOf x = q) (hq : q < pend.length) (hpc : pc = pieceOf pend x) (hbase : base ≤ w.heap.size)
    (hu : wr.heap[w.heap.size]? = some (.cells (boolCells used).toArray 4 (0, 0))) (hbe : Below w.heap.size w wr) (hbs : w.heap.size < wr.heap.size)
    (hK : (((ks.take j).map (pieceOf pend)).foldl lay kept).length = kept.length)
    (hv : w1.ownsRow ((wr.setCell ⟨w.heap.size, q, none⟩ (.bool true)).alloc o).heap.size 5 1 v (((ks.take j).map (pieceOf pend)).foldl lay kept).length (byteCells (lay (((ks.take j).map (pieceOf pend)).foldl lay kept) pc)))
    (hb1 : Below ((wr.setCell ⟨w.heap.size, q, none⟩ (.bool true)).alloc o).heap.size ((wr.setCell ⟨w.heap.size, q, none⟩ (.bool true)).alloc o) w1) :
    RCrashRel w base kv kept pend ks v (.int .i64 ((j : Int) + 1)) w1 := by
  have hsz : ((wr.setCell ⟨w.heap.size, q, none⟩ (.bool true)).alloc o).heap.size = wr.heap.size + 1 := by simp
  have hi : j < ks.length := (List.getElem?_eq_some_iff.1 hx).1
  have ex : ks[j] = x := (List.getElem?_eq_some_iff.1 hx).2
  have hset : (boolCells used).toArray.setIfInBounds q (.bool true) = (boolCells (used.set q true)).toArray := by simp [boolCells, List.map_set]
  have hu2 := heap_setCell_at (i := q) hu (.bool true)
  rw [hset] at hu2
  refine ⟨j + 1, used.set q true, _, rfl, by simp, by omega, by simpa using hul, ?_, ?_, ?_, ?_, ?_, ?_⟩
  · exact (hb1.block _ (by rw [hsz]; omega)).trans (heap_alloc_keep hu2 _)
  · rw [List.take_succ_eq_append_getElem hi, List.map_append, List.foldl_append, ex]
    rw [hK] at hv
    simp only [List.map_cons, List.map_nil, List.foldl_cons, List.foldl_nil, ← hpc]
    exact ownsRow_lower hv (by rw [hsz]; omega)
  · subst hix; exact usedBy_take hub hx (by rw [hul]; exact hq) hfree
  · exact ((hbe.setCell (Nat.le_refl _) _).alloc (by simp; omega) _).trans (hb1.mono (by rw [hsz]; omega))
  · have := hb1.size; omega
  · intro g hg
    have := (hv.lt g hg).1
    exact .inr (by omega)

set_option maxHeartbeats 2000000 in
theorem ref_crash {w : World} {base rb : Nat} {kv pv : Value} {kept : Bs} {pend : List (Nat × Bs)} (R : RefAt w base rb kv pv kept pend) (v : Value) (ks : List Int) (hks : IntsAt w v ks)
    (hr : ∀ x ∈ ks, -9223372036854775808 ≤ x ∧ x ≤ 9223372036854775807) (hlen : ks.length ≤ 9223372036854775807) (hpl : pend.length ≤ 1000000000) :
    Calls Try.prog 29 #[.pointer (some ⟨rb, 0, none⟩), v] w (RCrashEnd w base rb kv kept pend ks) := by
  obtain ⟨ao, cc, b, off, rfl, hks'⟩ := ints_form hks
  clear hks
  have hks := hks'
  clear hks'
  have hmk := make_bools pend.length (by omega)
  obtain ⟨pa, pc, hpv, hpm⟩ := ownsRow_view R.hp
  have hd := R.hd
  rw [hpv] at hd
  have c1 := cell_of (i := 1) hd rfl
  have c0 := cell_of (i := 0) (heap_alloc_keep hd (.cells (boolCells (nones pend.length)).toArray 4)) rfl
  have hbase : base ≤ w.heap.size := Nat.le_of_lt (Nat.lt_of_le_of_lt R.b1 (heap_lt R.hd))
  have HR := hid R
  have HPV := hid hpv
  unfold maxLen at hpm
  clear R hpv hd
  go_enter Try.func29, Try.ntmps29
  go_wp2_with fail
  go_loopw [6, 7] (fun l i wr => RCrashRel w base kv kept pend ks l i wr) (fun _ i _ => ks.length - (intOf i).toNat)
  case atStart => exact ⟨0, nones pend.length, _, rfl, rfl, by omega, by simp [nones], heap_alloc_new w _, HR.out.hk.alloc _, usedBy_nil _, (Below.refl _ w).alloc (Nat.le_refl _) _, by simp, fun g h => .inl h⟩
  case round =>
    obtain ⟨j, used, lv, rfl, rfl, hj, hul, hu, hown, hub, hbe, hbs, hob⟩ := hrel
    have c1' : wr.cell? ⟨rb, 1, none⟩ = some (.slice pa pend.length pc) := (hbe.cell (World.block_lt_of_cell? _ _ c1)).trans c1
    have hjp : j ≤ pend.length := by
      have := keepOk_len hub.ok
      rw [hul, List.length_take] at this
      omega
    have HOB := hid hob
    clear hob c0
    by_cases hgo : j < ks.length
    · obtain ⟨x, hx⟩ : ∃ x, ks[j]? = some x := ⟨ks[j], by simp [hgo]⟩
      obtain ⟨r1, r2⟩ := hr x (List.mem_of_getElem? hx)
      obtain ⟨rfl, hcx0⟩ := hks j x hx
      have hcx : wr.cell? ⟨b, off + j, none⟩ = some (.int .i64 x) := (hbe.cell (World.block_lt_of_cell? _ _ hcx0)).trans hcx0
      have hbx : b ≠ w.heap.size := Nat.ne_of_lt (World.block_lt_of_cell? _ _ hcx0)
      have HX := hid hx
      have HU := hid hu
      have HB := hid hub
      have HW := hid hul
      have HO := hid hown
      have HBE := hid hbe
      clear hx hu hub hks hul hown hmk hcx0
      by_cases hx0 : x < 0
      · obtain ⟨q, hqx⟩ : ∃ q : Nat, -1 - x = (q : Int) := ⟨(-1 - x).toNat, by omega⟩
        have hq : ixOf x = q := by unfold ixOf; rw [if_pos hx0]; omega
        by_cases hqm : pend.length ≤ q
        · have RR := hid (not_keepOk HB.out HW.out HX.out (.inl (by rw [hq]; exact hqm)))
          clear hq hbe
          go_wp2_with fail
          go_ret
          exact .inr ⟨RR.out, rfl, HBE.out⟩
        · by_cases huq : used[q]?.getD true = true
          · have RR := hid (not_keepOk HB.out HW.out HX.out (.inr (by rw [hq]; exact huq)))
            have hql : q < used.length := by rw [HW.out]; omega
            have hc : wr.cell? ⟨w.heap.size, q, none⟩ = some (.bool true) := cell_of HU.out (by simp [boolCells, List.getElem?_eq_getElem hql] at huq ⊢; exact huq)
            clear hq huq hql hbe
            go_wp2_with fail
            go_ret
            exact .inr ⟨RR.out, rfl, HBE.out⟩
          · have hqp : q < pend.length := by omega
            obtain ⟨p, hp⟩ : ∃ p, pend[q]? = some p := ⟨pend[q], by simp [hqp]⟩
            have hown0 := HR.out.hp
            rw [HPV.out] at hown0
            obtain ⟨g, rfl, hp1, hp2⟩ := piece_cells58 hown0 hp hqp
            have hp1' := (hbe.cell (World.block_lt_of_cell? _ _ hp1)).trans hp1
            have hp2' := (hbe.cell (World.block_lt_of_cell? _ _ hp2)).trans hp2
            have k1 := cell_setCell_far (i := q) hp1' (b := w.heap.size) (Nat.ne_of_lt (World.block_lt_of_cell? _ _ hp1)) (.bool true)
            have k2 := cell_setCell_far (i := q) hp2' (b := w.heap.size) (Nat.ne_of_lt (World.block_lt_of_cell? _ _ hp2)) (.bool true)
            have k3 := cell_setCell_far (i := q) c1' (b := w.heap.size) (Nat.ne_of_lt (World.block_lt_of_cell? _ _ c1)) (.bool true)
            have k40 := cell_setCell_far (i := q) hcx (b := w.heap.size) hbx (.bool true)
            have hpx : pieceOf pend x = (p.1, p.2.take (p.2.length / 2)) := by simp [pieceOf, hq, hp, hx0]
            have hpok := pieces_fit HR.out.ok (x := x) (by rw [hq]; exact hqp)
            rw [hpx] at hpok
            obtain ⟨at_, hat⟩ : ∃ at_, at_ = p.1 := ⟨_, rfl⟩
            obtain ⟨sv, hsv⟩ : ∃ sv : ByteArray, sv = ⟨p.2.toArray⟩ := ⟨_, rfl⟩
            have huq3 : used[q]?.getD true = false := by simpa using huq
            have hql : q < used.length := by rw [HW.out]; omega
            have hc : wr.cell? ⟨w.heap.size, q, none⟩ = some (.bool false) := cell_of HU.out (by simp [boolCells, List.getElem?_eq_getElem hql] at huq3 ⊢; exact huq3)
            have hf : wr.frozen? ⟨w.heap.size, q, none⟩ = false := free_of HU.out
            have hKl : (((ks.take j).map (pieceOf pend)).foldl lay kept).length = kept.length := lays_length (keeps_fit HR.out.ok (by have := HB.out.ok; rw [HW.out] at this; exact this))
            have hsz : sv.size ≤ 100000 := by rw [hsv]; have := HR.out.ok p (List.mem_of_getElem? hp); have := HR.out.hi; simp [ByteArray.size]; omega
            have ch : Chg [w.heap.size] wr ((wr.setCell ⟨w.heap.size, q, none⟩ (.bool true)).alloc (.cells #[.int .i64 (at_ : Int), .string (sv.extract 0 (sv.size / 2))] 58)) := ((Chg.refl [w.heap.size] wr).setCell (by simp) _).alloc _
            have hownW := ch.owns HO.out (fun g hg => by
              obtain ⟨cur, hc⟩ := owns_cells HO.out hg
              simpa using heap_ne hc HU.out (by decide))
            rw [← hKl] at hownW
            have HL : Hid (Calls Try.prog 33 #[lv, .agg #[.int .i64 (at_ : Int), .string (sv.extract 0 (sv.size / 2))]] ((wr.setCell ⟨w.heap.size, q, none⟩ (.bool true)).alloc (.cells #[.int .i64 (at_ : Int), .string (sv.extract 0 (sv.size / 2))] 58)) (LayPost ((wr.setCell ⟨w.heap.size, q, none⟩ (.bool true)).alloc (.cells #[.int .i64 (at_ : Int), .string (sv.extract 0 (sv.size / 2))] 58)) (((ks.take j).map (pieceOf pend)).foldl lay kept) (at_, p.2.take (p.2.length / 2)))) := hid (by
              have h := lay_any ((wr.setCell ⟨w.heap.size, q, none⟩ (.bool true)).alloc (.cells #[.int .i64 (at_ : Int), .string (sv.extract 0 (sv.size / 2))] 58)) lv (((ks.take j).map (pieceOf pend)).foldl lay kept) (p.1, p.2.take (p.2.length / 2)) (bytes_of_owns (by have := HR.out.lo; omega) hownW) (by rw [hKl]; exact hpok) (by have := HR.out.lo; omega) (by have := HR.out.hi; omega)
              have e : bstr (p.2.take (p.2.length / 2)) = sv.extract 0 (sv.size / 2) := by rw [hsv, extract_half]; rfl
              simp only [e, ← hat] at h
              exact h)
            rw [← hat] at k1
            rw [show bstr p.2 = sv from hsv.symm] at k2
            have k4 := ((Chg.refl [] (wr.setCell ⟨w.heap.size, q, none⟩ (.bool true))).alloc (.cells #[.int .i64 (at_ : Int), .string sv] 58)).cell k40 (by simp)
            clear k40
            have HF := hid huq3
            have HQ := hid hq
            rw [← hat] at hpx
            have HPX := hid hpx
            have HKL := hid hKl
            clear hq huq huq3 hql hp hp1 hp2 hp1' hp2' hat hsv hown0 hownW hKl hpx hpok ch
            go_wp2_with fail
            refine HL.out.mono ?_
            rintro e w1 ⟨v, rfl, hv, hb1⟩
            have RR := hid (rcrash_step (kv := kv) HX.out HW.out HF.out HB.out HQ.out (by omega) HPX.out.symm hbase HU.out HBE.out hbs HKL.out hv hb1)
            clear hv hb1 HL k1 k2 k3 k4 hc hf
            go_wp2_with fail
            go_roundw
            case rel => exact RR.out
            case measure => simp [intOf]; omega
      · obtain ⟨q, rfl⟩ := Int.eq_ofNat_of_zero_le (show 0 ≤ x by omega)
        have hq : ixOf (q : Int) = q := by simp [ixOf]; omega
        by_cases hqm : pend.length ≤ q
        · have RR := hid (not_keepOk HB.out HW.out HX.out (.inl (by rw [hq]; exact hqm)))
          clear hq hbe
          go_wp2_with fail
          go_ret
          exact .inr ⟨RR.out, rfl, HBE.out⟩
        · by_cases huq : used[q]?.getD true = true
          · have RR := hid (not_keepOk HB.out HW.out HX.out (.inr (by rw [hq]; exact huq)))
            have hql : q < used.length := by rw [HW.out]; omega
            have hc : wr.cell? ⟨w.heap.size, q, none⟩ = some (.bool true) := cell_of HU.out (by simp [boolCells, List.getElem?_eq_getElem hql] at huq ⊢; exact huq)
            clear hq huq hql hbe
            go_wp2_with fail
            go_ret
            exact .inr ⟨RR.out, rfl, HBE.out⟩
          · have hqp : q < pend.length := by omega
            obtain ⟨p, hp⟩ : ∃ p, pend[q]? = some p := ⟨pend[q], by simp [hqp]⟩
            have hown0 := HR.out.hp
            rw [HPV.out] at hown0
            obtain ⟨g, rfl, hp1, hp2⟩ := piece_cells58 hown0 hp hqp
            have hp1' := (hbe.cell (World.block_lt_of_cell? _ _ hp1)).trans hp1
            have hp2' := (hbe.cell (World.block_lt_of_cell? _ _ hp2)).trans hp2
            have k1 := cell_setCell_far (i := q) hp1' (b := w.heap.size) (Nat.ne_of_lt (World.block_lt_of_cell? _ _ hp1)) (.bool true)
            have k2 := cell_setCell_far (i := q) hp2' (b := w.heap.size) (Nat.ne_of_lt (World.block_lt_of_cell? _ _ hp2)) (.bool true)
            have k3 := cell_setCell_far (i := q) c1' (b := w.heap.size) (Nat.ne_of_lt (World.block_lt_of_cell? _ _ c1)) (.bool true)
            have k40 := cell_setCell_far (i := q) hcx (b := w.heap.size) hbx (.bool true)
            have hpx : pieceOf pend (q : Int) = p := by simp [pieceOf, hq, hp, show ¬ (q : Int) < 0 from hx0]
            have hpok := pieces_fit HR.out.ok (x := (q : Int)) (by rw [hq]; exact hqp)
            rw [hpx] at hpok
            obtain ⟨at_, hat⟩ : ∃ at_, at_ = p.1 := ⟨_, rfl⟩
            obtain ⟨sv, hsv⟩ : ∃ sv : ByteArray, sv = ⟨p.2.toArray⟩ := ⟨_, rfl⟩
            have huq3 : used[q]?.getD true = false := by simpa using huq
            have hql : q < used.length := by rw [HW.out]; omega
            have hc : wr.cell? ⟨w.heap.size, q, none⟩ = some (.bool false) := cell_of HU.out (by simp [boolCells, List.getElem?_eq_getElem hql] at huq3 ⊢; exact huq3)
            have hf : wr.frozen? ⟨w.heap.size, q, none⟩ = false := free_of HU.out
            have hKl : (((ks.take j).map (pieceOf pend)).foldl lay kept).length = kept.length := lays_length (keeps_fit HR.out.ok (by have := HB.out.ok; rw [HW.out] at this; exact this))
            have hsz : sv.size ≤ 100000 := by rw [hsv]; have := HR.out.ok p (List.mem_of_getElem? hp); have := HR.out.hi; simp [ByteArray.size]; omega
            have ch : Chg [w.heap.size] wr ((wr.setCell ⟨w.heap.size, q, none⟩ (.bool true)).alloc (.cells #[.int .i64 (at_ : Int), .string sv] 58)) := ((Chg.refl [w.heap.size] wr).setCell (by simp) _).alloc _
            have hownW := ch.owns HO.out (fun g hg => by
              obtain ⟨cur, hc⟩ := owns_cells HO.out hg
              simpa using heap_ne hc HU.out (by decide))
            rw [← hKl] at hownW
            have HL : Hid (Calls Try.prog 33 #[lv, .agg #[.int .i64 (at_ : Int), .string sv]] ((wr.setCell ⟨w.heap.size, q, none⟩ (.bool true)).alloc (.cells #[.int .i64 (at_ : Int), .string sv] 58)) (LayPost ((wr.setCell ⟨w.heap.size, q, none⟩ (.bool true)).alloc (.cells #[.int .i64 (at_ : Int), .string sv] 58)) (((ks.take j).map (pieceOf pend)).foldl lay kept) p)) := hid (by
              have h := lay_any ((wr.setCell ⟨w.heap.size, q, none⟩ (.bool true)).alloc (.cells #[.int .i64 (at_ : Int), .string sv] 58)) lv (((ks.take j).map (pieceOf pend)).foldl lay kept) p (bytes_of_owns (by have := HR.out.lo; omega) hownW) (by rw [hKl]; exact hpok) (by have := HR.out.lo; omega) (by have := HR.out.hi; omega)
              have e : bstr p.2 = sv := by rw [hsv]; rfl
              simp only [e, ← hat] at h
              exact h)
            rw [← hat] at k1
            rw [show bstr p.2 = sv from hsv.symm] at k2
            have k4 := ((Chg.refl [] (wr.setCell ⟨w.heap.size, q, none⟩ (.bool true))).alloc (.cells #[.int .i64 (at_ : Int), .string sv] 58)).cell k40 (by simp)
            clear k40
            have HF := hid huq3
            have HQ := hid hq
            have HPX := hid hpx
            have HKL := hid hKl
            clear hq huq huq3 hql hp hp1 hp2 hp1' hp2' hat hsv hown0 hownW hKl hpx hpok ch
            go_wp2_with fail
            refine HL.out.mono ?_
            rintro e w1 ⟨v, rfl, hv, hb1⟩
            have RR := hid (rcrash_step (kv := kv) HX.out HW.out HF.out HB.out HQ.out (by omega) HPX.out.symm hbase HU.out HBE.out hbs HKL.out hv hb1)
            clear hv hb1 HL k1 k2 k3 k4 hc hf
            go_wp2_with fail
            go_roundw
            case rel => exact RR.out
            case measure => simp [intOf]; omega
    · obtain rfl : j = ks.length := by omega
      have hok : KeepOk pend.length ks := by have := hub.ok; rw [hul, List.take_length] at this; exact this
      rw [List.take_length] at hown
      obtain ⟨va, vc, rfl, _⟩ := ownsRow_view hown
      have R1 := HR.out.later hbe
      obtain ⟨h1, hE, hC⟩ := ref_set0 R1 hown (lays_length (keeps_fit HR.out.ok hok))
      have c0 := cell_of (i := 0) R1.hd rfl
      have f0 := free_of (i := 0) R1.hd
      have c1 := cell_of (i := 1) h1 rfl
      have f1 := free_of (i := 1) h1
      have HF := hid (show RefAt _ base rb (.slice va kept.length vc) (.slice none 0 0) ((ks.map (pieceOf pend)).foldl lay kept) [] ∧ Chg [rb] w _ from ⟨hE, (Chg.of_below hbe).trans hC (by simp)⟩)
      have HK := hid hok
      clear R1 h1 hE hC hown hub hu hul hbe hok HR
      go_wp2_with fail
      go_ret
      exact .inl ⟨HK.out, rfl, _, HF.out.1, HF.out.2, HOB.out⟩

end Go.Proofs.Ytknmebknkncmoaa
