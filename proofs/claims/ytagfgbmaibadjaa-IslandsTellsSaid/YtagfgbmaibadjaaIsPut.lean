/- The heap in memory; contracts of put and take. -/
import Derived.Test.YtagfgbmaibadjaaIsMem
import Derived.Test.YtagfgbmaibadjaaIsHeap
namespace Go.Proofs.Ytagfgbmaibadjaa
open Go.RowKit Go.Lib

/-- an array of N numbers and a number behind it -/
def HRowN (N : Nat) (w : World) (hb : Nat) (f : Nat → Nat) (m : Nat) : Prop := w.heap[hb]? = some (.cells (((List.range N).map fun i => Value.int .i64 (f i : Int)) ++ [Value.int .i64 (m : Int)]).toArray 50 (0, 0))
section
variable {N : Nat} {w : World} {hb m i : Nat} {f : Nat → Nat}
theorem HRowN.get (h : HRowN N w hb f m) (hi : i < N) : w.cell? ⟨hb, i, none⟩ = some (.int .i64 (f i : Int)) := by
  refine cell_of h ?_
  rw [List.getElem?_toArray, List.getElem?_append_left (by simp; omega)]
  simp [hi]
theorem HRowN.num (h : HRowN N w hb f m) : w.cell? ⟨hb, N, none⟩ = some (.int .i64 (m : Int)) := by
  refine cell_of h ?_
  rw [List.getElem?_toArray, List.getElem?_append_right (by simp)]
  simp
theorem HRowN.free (h : HRowN N w hb f m) : w.frozen? ⟨hb, i, none⟩ = false := free_of h
theorem HRowN.set (h : HRowN N w hb f m) (hi : i < N) (v : Nat) : HRowN N (w.setCell ⟨hb, i, none⟩ (.int .i64 (v : Int))) hb (upd f i v) m := by
  have := heap_setCell_at (i := i) h (.int .i64 (v : Int))
  unfold HRowN
  rw [this]
  congr 2
  apply Array.ext'
  rw [Array.toList_setIfInBounds]
  show (_ ++ _ : List Value).set i _ = _ ++ _
  rw [List.set_append_left _ _ (by simp; omega)]
  congr 1
  apply List.ext_getElem?
  intro j
  simp only [List.getElem?_set, List.getElem?_map, List.length_map, List.length_range]
  by_cases e : i = j
  · subst e; simp [hi, upd]
  · simp only [if_neg e]
    by_cases hj : j < N
    · simp [hj, upd, Ne.symm e]
    · simp [hj]
theorem HRowN.setnum (h : HRowN N w hb f m) (v : Nat) : HRowN N (w.setCell ⟨hb, N, none⟩ (.int .i64 (v : Int))) hb f v := by
  have := heap_setCell_at (i := N) h (.int .i64 (v : Int))
  unfold HRowN
  rw [this]
  congr 2
  apply Array.ext'
  rw [Array.toList_setIfInBounds]
  show (_ ++ _ : List Value).set N _ = _ ++ _
  rw [List.set_append_right _ _ (by simp)]
  simp
end
abbrev HRow (w : World) (hb : Nat) (f : Nat → Nat) (m : Nat) : Prop := HRowN 2000 w hb f m

theorem swp_upd {f : Nat → Nat} {k p x : Nat} (h : p ≠ k) : upd (upd f k (f p)) p x = swp (upd f k x) k p := by
  funext i
  unfold upd swp
  by_cases h1 : i = p
  · subst h1; simp [h]
  · by_cases h2 : i = k
    · subst h2; simp [h1, h]
    · simp [h1, h2]

def HeapAt (w : World) (hb m : Nat) (S : Nat → Prop) : Prop := ∃ f, HRow w hb f m ∧ Holds f m S ∧ Ordered f m

def PutRel (w : World) (hb m x : Nat) (S : Nat → Prop) (kv : Value) (wr : World) : Prop :=
  ∃ (k : Nat) (f : Nat → Nat), kv = .int .i64 (k : Int) ∧ HRow wr hb f (m + 1) ∧ Rising (upd f k x) (m + 1) k (fun v => v = x ∨ S v) ∧ Chg [hb] w wr

set_option maxHeartbeats 1000000 in
theorem put_any {w : World} {hb m x : Nat} {S : Nat → Prop} (H : HeapAt w hb m S) (hx : ¬ S x) (hm : m < 2000) (_hx2 : x ≤ 1000000) (hS : ∀ v, S v → v ≤ 1000000) :
    Calls Try.prog 25 #[.pointer (some ⟨hb, 0, none⟩), .int .i64 (x : Int)] w fun e w' => e = .returned (.tuple #[]) ∧ HeapAt w' hb (m + 1) (fun v => v = x ∨ S v) ∧ Chg [hb] w w' := by
  obtain ⟨f, hf, hh, ho⟩ := H
  have c0 := hf.num
  have f0 := hf.free (i := 2000)
  have hf1 := hf.setnum (m + 1)
  have HF1 := hid hf1
  have HR := hid (rising_start hh ho hx)
  have HS := hid hS
  have hcast : ((m + 1 : Nat) : Int) = (m : Int) + 1 := by omega
  have HC := hid hcast
  rw [hcast] at HF1
  clear hf hh ho hf1 hS hcast
  go_enter Try.func25, Try.ntmps25
  go_wp2_with fail
  go_loopw [4] (fun kv wr => PutRel w hb m x S kv wr) (fun kv _ => (intOf kv).toNat)
  case atStart => exact ⟨m, f, rfl, HF1.out, HR.out, (Chg.refl _ w).setCell (by simp) _⟩
  case round =>
    obtain ⟨k, f, rfl, hf, hr, hch⟩ := hrel
    have hkm := hr.lt
    by_cases hk : 0 < k
    · obtain ⟨p, hp⟩ : ∃ p, p = parent k := ⟨_, rfl⟩
      have hpk : p < k := by rw [hp]; unfold parent; omega
      have hA : ((k : Int) - 1) / 2 = (p : Int) := by rw [hp]; unfold parent; omega
      have g1 := hf.get (i := p) (by omega)
      have g2 := hf.get (i := k) (by omega)
      have fk := hf.free (i := k)
      obtain ⟨y, hy⟩ : ∃ y, y = f p := ⟨_, rfl⟩
      rw [← hy] at g1
      have HP := hid hp
      have HY := hid hy
      have HF := hid hf
      have HRR := hid hr
      have HCH := hid hch
      clear hp hy hf hr hch
      have g3 := hid (HF.out.set (i := k) (by omega) y)
      by_cases hxy : x < y
      · have RR := hid (show PutRel w hb m x S (.int .i64 (p : Int)) (wr.setCell ⟨hb, k, none⟩ (.int .i64 (y : Int))).drew from by
          have h := HRR.out.up hk (by
            rw [← HP.out, upd_same, upd_far _ _ (by omega), ← HY.out]
            exact hxy)
          rw [← HP.out, ← swp_upd (by omega)] at h
          rw [← HY.out] at h
          exact ⟨p, _, rfl, (show HRow _ hb _ _ from ((Chg.refl [] _).drew).heap g3.out (by simp)), h, HCH.out.trans (((Chg.refl [hb] wr).setCell (by simp) _).drew) (by simp)⟩)
        go_wp2_with fail
        go_region
        go_wp2_with fail
        go_roundw
        case rel =>
          rw [hA]
          exact RR.out
        case measure => simp [intOf]; omega
      · have g4 := hid (HF.out.set (i := k) (by omega) x)
        have RR := hid (show HeapAt (wr.setCell ⟨hb, k, none⟩ (.int .i64 (x : Int))) hb (m + 1) (fun v => v = x ∨ S v) from
          ⟨_, g4.out, HRR.out.holds, HRR.out.rest (.inr (by
            rw [← HP.out, upd_same, upd_far _ _ (by omega), ← HY.out]
            omega))⟩)
        go_wp2_with fail
        go_end0
        exact ⟨rfl, RR.out, HCH.out.trans ((Chg.refl [hb] wr).setCell (by simp) _) (by simp)⟩
    · obtain rfl : k = 0 := by omega
      have g2 := hf.get (i := 0) (by omega)
      have fk := hf.free (i := 0)
      have g4 := hid (hf.set (i := 0) (by omega) x)
      have RR := hid (show HeapAt (wr.setCell ⟨hb, 0, none⟩ (.int .i64 (x : Int))) hb (m + 1) (fun v => v = x ∨ S v) from ⟨_, g4.out, hr.holds, hr.rest (.inl rfl)⟩)
      have HCH := hid hch
      clear hf hr hch
      go_wp2_with fail
      go_end0
      exact ⟨rfl, RR.out, HCH.out.trans ((Chg.refl [hb] wr).setCell (by simp) _) (by simp)⟩

end Go.Proofs.Ytagfgbmaibadjaa
