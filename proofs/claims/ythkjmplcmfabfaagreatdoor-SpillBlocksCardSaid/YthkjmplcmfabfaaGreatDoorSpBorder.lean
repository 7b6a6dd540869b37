/- Contract of book.order. No condition. -/
import Derived.Test.YthkjmplcmfabfaaGreatDoorSpOrder
import Derived.Deep.RegionHeldLaw
namespace Go.Proofs.YthkjmplcmfabfaaGreatDoor
open Go.RowKit Go.Lib

def OrRel (w : World) (a b : Int) (i : Value) (wr : World) : Prop := ∃ j : Nat, i = .int .i64 (j : Int) ∧ j ≤ 2 ∧ (j = 0 ∨ a = 0) ∧ (j < 2 ∨ b = 0) ∧ wr = w
set_option maxHeartbeats 1000000 in
theorem or_any (w : World) (b1 : Nat) (a b : Int) (h0 : w.cell? ⟨b1, 0, none⟩ = some (.int .i64 a)) (h1 : w.cell? ⟨b1, 1, none⟩ = some (.int .i64 b)) :
    Calls Tryz.prog 69 #[.slice (some ⟨b1, 0, none⟩) 2 2] w fun e w' => e = .returned (.int .i64 (if a = 0 then b else a)) ∧ w = w' := by
  obtain ⟨r, hr⟩ : ∃ r, r = (if a = 0 then b else a) := ⟨_, rfl⟩
  rw [← hr]
  have HR := hid hr
  clear hr
  go_enter Tryz.func69, Tryz.ntmps69
  go_wp2_with fail
  go_loopw [8] (fun i wr => OrRel w a b i wr) (fun i _ => 2 - (intOf i).toNat)
  case atStart => exact ⟨0, rfl, by omega, .inl rfl, .inl (by omega), rfl⟩
  case round =>
    obtain ⟨j, rfl, hj, ha, hb, rfl⟩ := hrel
    by_cases hj0 : j = 0
    · subst hj0
      by_cases h : a = 0
      · clear ha hb
        go_wp2_with fail
        go_roundw
        case rel => exact ⟨1, by simp, by omega, .inr h, .inl (by omega), rfl⟩
        case measure => simp [intOf]
      · clear ha hb
        have HE := hid (show a = r from by rw [HR.out, if_neg h])
        go_wp2_with fail
        go_ret
        exact ⟨ret_int HE.out, rfl⟩
    · have ha' : a = 0 := ha.resolve_left hj0
      by_cases hj1 : j = 1
      · subst hj1
        by_cases h : b = 0
        · clear ha hb
          go_wp2_with fail
          go_roundw
          case rel => exact ⟨2, by simp, by omega, .inr ha', .inr h, rfl⟩
          case measure => simp [intOf]
        · clear ha hb
          have HE := hid (show b = r from by rw [HR.out, if_pos ha'])
          go_wp2_with fail
          go_ret
          exact ⟨ret_int HE.out, rfl⟩
      · obtain rfl : j = 2 := by omega
        have HE := hid (show 0 = r from by rw [HR.out, if_pos ha']; omega)
        clear ha hb
        go_wp2_with fail
        go_ret
        exact ⟨ret_int HE.out, rfl⟩

theorem two_new0 {w : World} {n : Nat} (hn : w.heap.size = n) (x y : Value) (t : TypeId) : ((w.alloc (.cells #[x, y] t)).drew).cell? ⟨n, 0, none⟩ = some x := by
  subst hn
  exact cell_of (heap_alloc_new w _) rfl
theorem two_new1 {w : World} {n : Nat} (hn : w.heap.size = n) (x y : Value) (t : TypeId) : ((w.alloc (.cells #[x, y] t)).drew).cell? ⟨n, 1, none⟩ = some y := by
  subst hn
  exact cell_of (heap_alloc_new w _) rfl
def cellV (r c : Int) (s : ByteArray) : Value := .agg #[.int .i64 r, .int .i64 c, .string s]
def ordC (r1 c1 r2 c2 : Int) : Int := if cmpZ r1 r2 = 0 then cmpZ c1 c2 else cmpZ r1 r2
set_option maxHeartbeats 2000000 in
set_option maxRecDepth 100000 in
theorem border_any (r1 c1 r2 c2 : Int) (s1 s2 : ByteArray) (w : World) : Calls Tryz.prog 46 #[cellV r1 c1 s1, cellV r2 c2 s2] w fun e w' => e = .returned (.int .i64 (ordC r1 c1 r2 c2)) ∧ Below w.heap.size w w' := by
  have H1 := hid (fun (a b : Int) (w : World) => cmp_any a b w)
  have h3 := fun (w : World) (b : Nat) h0 h1 => or_any w b (cmpZ r1 r2) (cmpZ c1 c2) h0 h1
  obtain ⟨z, hz⟩ : ∃ z, z = (if cmpZ r1 r2 = 0 then cmpZ c1 c2 else cmpZ r1 r2) := ⟨_, rfl⟩
  unfold ordC
  rw [← hz]
  rw [← hz] at h3
  have H3 := hid h3
  clear h3 hz
  unfold cellV
  go_enter Tryz.func46, Tryz.ntmps46
  go_wp2_with fail
  go_region_held (fun y => y.cell? ⟨w.heap.size, 0, none⟩ = some (.int .i64 r1) ∧ y.cell? ⟨w.heap.size, 1, none⟩ = some (.int .i64 c1) ∧ y.cell? ⟨w.heap.size + 1, 0, none⟩ = some (.int .i64 r2) ∧ y.cell? ⟨w.heap.size + 1, 1, none⟩ = some (.int .i64 c2)) (go_keep) (first | (go_at_call 70; refine (H1.out _ _ _).mono ?_; rintro e w1 ⟨rfl, rfl⟩) | (go_at_call 69; refine (H3.out _ _ (two_new0 (by simp) _ _ _) (two_new1 (by simp) _ _ _)).mono ?_; rintro e w1 ⟨rfl, rfl⟩))
  go_wp2
  go_ret
  exact ⟨rfl, ((((Below.refl _ w).alloc (Nat.le_refl _) _).alloc (by simp) _).alloc (by simp; omega) _).drew⟩
end Go.Proofs.YthkjmplcmfabfaaGreatDoor
