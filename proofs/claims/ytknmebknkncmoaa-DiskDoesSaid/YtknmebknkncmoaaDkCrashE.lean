/- Contract of (*disk.Disk).Crash: at an empty list; at a nil disk; the two joined. -/
import Derived.Test.YtknmebknkncmoaaDkCrash
namespace Go.Proofs.Ytknmebknkncmoaa
open Go.RowKit Go.Lib

set_option maxHeartbeats 2000000 in
theorem crash_empty {w : World} {base bd bk bn : Nat} {pv : Value} {kept now : Bs} {pend : List (Nat × Bs)} (D : DiskAt w base bd bk bn pv kept now pend) (ao : Option Addr) (c : Nat) (hpl : pend.length ≤ 1000000000) :
    Calls Try.prog 21 #[.pointer (some ⟨bd, 0, none⟩), .slice ao 0 c] w (CrashPost base bd bk bn kept pend [] w) := by
  have hmk := make_bools pend.length (by omega)
  obtain ⟨pa, pc, hpv, hpm⟩ := ownsRow_view D.hp
  have hd := D.hd
  rw [hpv] at hd
  have c2 := cell_of (i := 2) hd rfl
  have HD := hid D
  have HPV := hid hpv
  unfold maxLen at hpm
  clear D hpv hd
  go_enter Try.func21, Try.ntmps21
  go_wp2
  go_loopw [6, 23] (fun l i wr => l = .slice none 0 0 ∧ i = .int .i64 0 ∧ Below w.heap.size w wr) (fun _ _ _ => 0)
  case atStart => exact ⟨rfl, rfl, (Below.refl _ w).alloc (Nat.le_refl _) _⟩
  case round =>
    obtain ⟨rfl, rfl, hbe⟩ := hrel
    clear hmk c2
    have HH := hid hbe
    clear hbe
    go_wp2
    go_loopw [69] (fun i w2 => i = .int .i64 0 ∧ Below w.heap.size w w2) (fun _ _ => 0)
    case atStart => exact ⟨rfl, HH.out⟩
    case round =>
      obtain ⟨rfl, hbe⟩ := hrel
      have D2 := HD.out.keep (F := []) (Chg.of_below hbe) (by simp) (by simp) (by simp) (by simp)
      have c0 := cell_of (i := 0) D2.hd rfl
      have c1 := cell_of (i := 1) D2.hd rfl
      have c2 := cell_of (i := 2) D2.hd rfl
      have hcp := copy_rows (w := wr.drew) D2.hn D2.hk D2.len rfl
      have fin := crash_end D2 (Chg.of_below hbe)
      obtain ⟨w3, hw3⟩ : ∃ w3, w3 = wr.drew.setRow bn (byteCells kept).toArray := ⟨_, rfl⟩
      have e3 := crash_end_cell D2
      have f3 := crash_end_free D2
      rw [← hw3] at hcp fin e3 f3
      have FIN := hid fin
      clear hw3 fin D2 hbe
      go_wp2
      go_region
      go_wp2
      go_ret
      exact .inl ⟨⟨by simp, by simp⟩, rfl, FIN.out⟩

theorem crash_any {w : World} {base bd bk bn : Nat} {pv : Value} {kept now : Bs} {pend : List (Nat × Bs)} (D : DiskAt w base bd bk bn pv kept now pend) (v : Value) (ks : List Int) (hks : IntsAt w v ks)
    (hr : ∀ x ∈ ks, -9223372036854775808 ≤ x ∧ x ≤ 9223372036854775807) (hlen : ks.length ≤ 9223372036854775807) (hpl : pend.length ≤ 1000000000) :
    Calls Try.prog 21 #[.pointer (some ⟨bd, 0, none⟩), v] w (CrashPost base bd bk bn kept pend ks w) := by
  rcases hks with ⟨rfl, ao, c, rfl⟩ | ⟨b, off, c, rfl, h⟩
  · exact crash_empty D ao c hpl
  · exact crash_core D b off c ks h hr hlen hpl

set_option maxHeartbeats 400000 in
theorem crash_nil (v : Value) (w : World) : Calls Try.prog 21 #[.pointer none, v] w fun e w' => e = .returned (.int .i64 1) ∧ w = w' := by
  go_enter Try.func21, Try.ntmps21
  go_wp2
  go_ret
  exact ⟨rfl, rfl⟩

end Go.Proofs.Ytknmebknkncmoaa
