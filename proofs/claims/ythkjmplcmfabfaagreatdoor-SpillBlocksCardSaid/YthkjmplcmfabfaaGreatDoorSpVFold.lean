/- Contract of val.fold: a text with small letters, at any short text. No condition. -/
import Derived.Test.YthkjmplcmfabfaaGreatDoorSpMem
import Derived.Lib.ConvBytes
import Derived.Lib.SlBytesRow
namespace Go.Proofs.YthkjmplcmfabfaaGreatDoor
open Go.RowKit Go.Lib

def lowB (b : UInt8) : UInt8 := if 65 ≤ b.toNat ∧ b.toNat ≤ 90 then b + 32 else b
def lowS (s : ByteArray) : ByteArray := ⟨s.data.map lowB⟩
theorem lowS_size (s : ByteArray) : (lowS s).size = s.size := by
  unfold lowS
  exact Array.size_map
theorem lowB_big {b : UInt8} (h : 65 ≤ b.toNat ∧ b.toNat ≤ 90) : (lowB b).toNat = b.toNat + 32 := by
  unfold lowB
  rw [if_pos h, UInt8.toNat_add]
  have : (32 : UInt8).toNat = 32 := rfl
  omega
theorem lowB_other {b : UInt8} (h : ¬ (65 ≤ b.toNat ∧ b.toNat ≤ 90)) : lowB b = b := if_neg h

/-- the first ones of a row's bytes are small -/
structure Vf (s : ByteArray) (i g : Nat) (y : World) : Prop where
  row : ∃ cs m, y.heap[g]? = some (.cells cs 5 (m, m + 1)) ∧ cs.size = m ∧ s.size ≤ m ∧ ∀ k (h : k < s.size), cs[k]? = some (.int .u8 (((if k < i then lowB s[k] else s[k]).toNat : Nat) : Int))
theorem Vf.cell {s : ByteArray} {i g : Nat} {y : World} (h : Vf s i g y) (hi : i < s.size) : y.cell? ⟨g, i, none⟩ = some (.int .u8 (s[i].toNat : Int)) := by
  obtain ⟨cs, m, h1, h2, h3, h4⟩ := h.row
  have := h4 i hi
  rw [if_neg (Nat.lt_irrefl _)] at this
  exact cell_of h1 this
theorem Vf.free {s : ByteArray} {i g : Nat} {y : World} (h : Vf s i g y) (hi : i < s.size) : y.frozen? ⟨g, i, none⟩ = false := by
  obtain ⟨cs, m, h1, h2, h3, h4⟩ := h.row
  simp [World.frozen?, h1]
  omega
theorem Vf.same {s : ByteArray} {i g : Nat} {y : World} (h : Vf s i g y) (hi : i < s.size) (hb : lowB s[i] = s[i]) : Vf s (i + 1) g y := by
  obtain ⟨cs, m, h1, h2, h3, h4⟩ := h.row
  refine ⟨cs, m, h1, h2, h3, fun k hk => ?_⟩
  rw [h4 k hk]
  by_cases e : k < i
  · rw [if_pos e, if_pos (by omega)]
  · by_cases e2 : k = i
    · subst e2
      rw [if_neg e, if_pos (by omega), hb]
    · rw [if_neg e, if_neg (by omega)]
theorem Vf.put {s : ByteArray} {i g : Nat} {y : World} (h : Vf s i g y) (hi : i < s.size) : Vf s (i + 1) g (y.setCell ⟨g, i, none⟩ (.int .u8 ((lowB s[i]).toNat : Int))) := by
  obtain ⟨cs, m, h1, h2, h3, h4⟩ := h.row
  refine ⟨_, m, heap_setCell_at h1 _, by simp [h2], h3, fun k hk => ?_⟩
  by_cases e2 : i = k
  · subst e2
    rw [Array.getElem?_setIfInBounds_self_of_lt (by omega), if_pos (by omega)]
  · rw [Array.getElem?_setIfInBounds_ne e2, h4 k hk]
    by_cases e : k < i
    · rw [if_pos e, if_pos (by omega)]
    · rw [if_neg e, if_neg (by omega)]
theorem Vf.bytes {s : ByteArray} {i g : Nat} {y : World} (h : Vf s i g y) (hi : s.size ≤ i) : Lib.Bytes y g 0 (lowS s) := by
  obtain ⟨cs, m, h1, h2, h3, h4⟩ := h.row
  intro k hk
  rw [lowS_size] at hk
  have := h4 k hk
  rw [if_pos (by omega)] at this
  rw [Nat.zero_add]
  refine (cell_of h1 this).trans ?_
  simp [lowS, ByteArray.getElem_eq_getElem_data]
theorem below_bytes (w : World) (e : TypeId) (s : ByteArray) : Below w.heap.size w (bytesWorld w e s) := by
  have h1 : Below w.heap.size w (w.drew.alloc (.cells (bytesCells w e s) e)) := ((Below.refl _ w).drew).alloc (Nat.le_refl _) _
  exact ⟨h1.os, h1.tape, h1.output, by rw [bytesWorld_size]; omega, fun k hk => bytesWorld_at_old w e s k hk⟩
theorem vf_start (w : World) (s : ByteArray) (_hs : s.size ≤ 1000) : Vf s 0 w.heap.size (bytesWorld w 5 s) := by
  refine ⟨_, _, bytesWorld_at_new w _ s, rfl, ?_, fun k hk => ?_⟩
  · simp [bytesCells]
  · rw [if_neg (by omega)]
    simp [bytesCells, Array.getElem?_append, hk, ByteArray.getElem_eq_getElem_data]

def VfRel (w : World) (s : ByteArray) (iv : Value) (wr : World) : Prop := ∃ i : Nat, iv = .int .i64 (i : Int) ∧ i ≤ s.size ∧ Vf s i w.heap.size wr ∧ Below w.heap.size w wr
set_option maxRecDepth 20000 in
set_option maxHeartbeats 1000000 in
theorem vfold_any (s : ByteArray) (hs : s.size ≤ 1000) (w : World) : Calls Tryz.prog 64 #[.string s] w fun e w' => e = .returned (.string (lowS s)) ∧ Below w.heap.size w w' := by
  have hcv := Go.Lib.run_convert_string_bytes (P := Tryz.prog) w 9 163 5 s Tryz.underlying9 Tryz.underlying163 Tryz.underlying5
  have R0 := hid (show VfRel w s (.int .i64 0) (bytesWorld w 5 s) from ⟨0, rfl, by omega, vf_start w s hs, below_bytes w _ s⟩)
  obtain ⟨n, hn⟩ : ∃ n, n = s.size := ⟨_, rfl⟩
  rw [← hn] at hcv hs
  have HN := hid hn
  obtain ⟨cp, hcp⟩ : ∃ cp, cp = grownCap w n 0 5 := ⟨_, rfl⟩
  rw [← hcp] at hcv
  obtain ⟨g, hg⟩ : ∃ g, g = w.heap.size := ⟨_, rfl⟩
  rw [← hg] at hcv
  have HG := hid hg
  clear hcp hg hn
  go_enter Tryz.func64, Tryz.ntmps64
  go_wp2_with fail
  generalize bytesWorld _ _ _ = w1 at R0 ⊢
  clear hcv
  go_loopw [10] (fun iv wr => VfRel w s iv wr) (fun iv _ => n - (RowKit.intOf iv).toNat)
  case atStart => exact R0.out
  case round =>
    obtain ⟨i, rfl, hi, hv, hb⟩ := hrel
    rw [← HN.out] at hi
    rw [← HG.out] at hv
    have HV := hid hv
    have HB := hid hb
    clear hb R0
    by_cases hin : i < n
    · have his : i < s.size := by rw [← HN.out]; exact hin
      have hd1 : ((i : Int) < (n : Int)) = True := by rw [eq_iff_iff, iff_true]; omega
      have c0 := hv.cell his
      have f0 := hv.free his
      have hgi : w.heap.size ≤ g := by rw [HG.out]; exact Nat.le_refl _
      have HP := hid (hv.put his)
      have HS := hid (fun h => hv.same his h)
      obtain ⟨b, hb⟩ : ∃ b, b = s[i].toNat := ⟨_, rfl⟩
      have hb256 : b < 256 := by rw [hb]; exact UInt8.toNat_lt _
      rw [← hb] at c0
      have HBI := hid hb
      clear hv hb
      by_cases h65 : 65 ≤ b
      · have hd2 : (65 ≤ (b : Int)) = True := by rw [eq_iff_iff, iff_true]; omega
        by_cases h90 : b ≤ 90
        · have hd3 : ((b : Int) ≤ 90) = True := by rw [eq_iff_iff, iff_true]; omega
          have HL := hid (show ((lowB s[i]).toNat : Int) = (b : Int) + 97 - 65 by rw [lowB_big (by rw [← HBI.out]; exact ⟨h65, h90⟩), ← HBI.out]; omega)
          have HP2 := HP.out
          rw [HL.out] at HP2
          have HP3 := hid HP2
          have g1 : IntKind.u8.wrap ((b : Int) + 97) = (b : Int) + 97 := IntWalk.u8_in _ (by omega)
          have g2 : IntKind.u8.wrap ((b : Int) + 97 - 65) = (b : Int) + 97 - 65 := IntWalk.u8_in _ (by omega)
          clear HP2 HP HS HL
          go_wp2_with fail
          go_roundw
          case rel => exact ⟨i + 1, by simp, by rw [← HN.out]; omega, by rw [← HG.out]; exact HP3.out, HB.out.setCell hgi _⟩
          case measure => simp [RowKit.intOf]; omega
        · have hd3 : ((b : Int) ≤ 90) = False := by rw [eq_iff_iff, iff_false]; omega
          have HSAME := hid (HS.out (lowB_other (by rw [← HBI.out]; omega)))
          go_wp2_with fail
          go_roundw
          case rel => exact ⟨i + 1, by simp, by rw [← HN.out]; omega, by rw [← HG.out]; exact HSAME.out, HB.out⟩
          case measure => simp [RowKit.intOf]; omega
      · have hd2 : (65 ≤ (b : Int)) = False := by rw [eq_iff_iff, iff_false]; omega
        have HSAME := hid (HS.out (lowB_other (by rw [← HBI.out]; omega)))
        go_wp2_with fail
        go_roundw
        case rel => exact ⟨i + 1, by simp, by rw [← HN.out]; omega, by rw [← HG.out]; exact HSAME.out, HB.out⟩
        case measure => simp [RowKit.intOf]; omega
    · obtain rfl : n = i := by omega
      have hd1 : ((n : Int) < (n : Int)) = False := by rw [eq_iff_iff, iff_false]; omega
      have hbk := fun cap => run_convert_whole (P := Tryz.prog) wr 163 5 9 Tryz.underlying163 Tryz.underlying5 Tryz.underlying9 g 0 (lowS s) (HV.out.bytes (by rw [← HN.out]; exact Nat.le_refl _)) cap
      rw [lowS_size, ← HN.out] at hbk
      go_wp2_with fail
      go_ret
      exact ⟨rfl, HB.out⟩
end Go.Proofs.YthkjmplcmfabfaaGreatDoor
