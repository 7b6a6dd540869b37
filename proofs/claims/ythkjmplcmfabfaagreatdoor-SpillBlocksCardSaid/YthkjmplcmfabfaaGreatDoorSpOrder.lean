/- Contracts of cmp.Compare, slices.Compare at ints, spill.order, book.order. No condition. -/
import Derived.Test.YthkjmplcmfabfaaGreatDoorSpSmall
namespace Go.Proofs.YthkjmplcmfabfaaGreatDoor
open Go.RowKit Go.Lib

def cmpZ (a b : Int) : Int := if a < b then -1 else if b < a then 1 else 0
def lexI : List Int → List Int → Int
  | [], [] => 0
  | [], _ :: _ => -1
  | _ :: _, [] => 1
  | a :: l, b :: m => if cmpZ a b = 0 then lexI l m else cmpZ a b

theorem lexI_drop {l m : List Int} {j : Nat} {a b : Int} (h1 : l[j]? = some a) (h2 : m[j]? = some b) : lexI (l.drop j) (m.drop j) = if cmpZ a b = 0 then lexI (l.drop (j + 1)) (m.drop (j + 1)) else cmpZ a b := by
  obtain ⟨k1, e1⟩ := List.getElem?_eq_some_iff.1 h1
  obtain ⟨k2, e2⟩ := List.getElem?_eq_some_iff.1 h2
  rw [List.drop_eq_getElem_cons k1, List.drop_eq_getElem_cons k2, e1, e2, lexI]

set_option maxHeartbeats 400000 in
theorem nan_any (a : Int) (w : World) : Calls Tryz.prog 94 #[.int .i64 a] w fun e w' => e = .returned (.bool false) ∧ w = w' := by
  go_enter Tryz.func94, Tryz.ntmps94
  go_wp2
  go_ret
  exact ⟨ret_bool (by simp), rfl⟩

set_option maxHeartbeats 400000 in
theorem cmp_any (a b : Int) (w : World) : Calls Tryz.prog 70 #[.int .i64 a, .int .i64 b] w fun e w' => e = .returned (.int .i64 (cmpZ a b)) ∧ w = w' := by
  have H := fun x w => hid (nan_any x w)
  go_enter Tryz.func70, Tryz.ntmps70
  go_wp2_with fail
  refine (H _ _).out.mono ?_
  rintro e w1 ⟨rfl, rfl⟩
  go_wp2_with fail
  refine (H _ _).out.mono ?_
  rintro e w1 ⟨rfl, rfl⟩
  go_wp2_with fail
  all_goals go_ret
  all_goals exact ⟨ret_int (by unfold cmpZ; split <;> (try split) <;> omega), rfl⟩

def CmpRel (w : World) (l m : List Int) (i : Value) (wr : World) : Prop := ∃ j : Nat, i = .int .i64 (j : Int) ∧ j ≤ l.length ∧ j ≤ m.length ∧ lexI (l.drop j) (m.drop j) = lexI l m ∧ wr = w
set_option maxHeartbeats 1000000 in
theorem compare_any (w : World) (b1 b2 c1 c2 : Nat) (l m : List Int) (h1 : ∀ (j : Nat) (x : Int), l[j]? = some x → w.cell? ⟨b1, j, none⟩ = some (.int .i64 x)) (h2 : ∀ (j : Nat) (x : Int), m[j]? = some x → w.cell? ⟨b2, j, none⟩ = some (.int .i64 x)) (hl : l.length ≤ 1000) (hm : m.length ≤ 1000) :
    Calls Tryz.prog 56 #[.slice (some ⟨b1, 0, none⟩) l.length c1, .slice (some ⟨b2, 0, none⟩) m.length c2] w fun e w' => e = .returned (.int .i64 (lexI l m)) ∧ w = w' := by
  have HC := fun a b w => hid (cmp_any a b w)
  have H1 := hid h1
  have H2 := hid h2
  obtain ⟨r, hr⟩ : ∃ r, r = lexI l m := ⟨_, rfl⟩
  rw [← hr]
  have HR := hid hr
  clear h1 h2 hr
  go_enter Tryz.func56, Tryz.ntmps56
  go_wp2_with fail
  go_loopw [11] (fun i wr => CmpRel w l m i wr) (fun i _ => l.length - (intOf i).toNat)
  case atStart => exact ⟨0, rfl, by omega, by omega, rfl, rfl⟩
  case round =>
    obtain ⟨j, rfl, hj1, hj2, hlex, rfl⟩ := hrel
    have HX := hid hlex
    clear hlex
    by_cases g1 : j < l.length
    · obtain ⟨a, ha⟩ : ∃ a, l[j]? = some a := ⟨_, List.getElem?_eq_getElem g1⟩
      have k1 := H1.out j a ha
      by_cases g2 : j < m.length
      · obtain ⟨b, hb⟩ : ∃ b, m[j]? = some b := ⟨_, List.getElem?_eq_getElem g2⟩
        have k2 := H2.out j b hb
        have HD := hid (lexI_drop ha hb)
        clear ha hb
        go_wp2_with fail
        refine (HC _ _ _).out.mono ?_
        rintro e w1 ⟨rfl, rfl⟩
        by_cases hz : cmpZ a b = 0
        · have HE := hid (show lexI (l.drop (j + 1)) (m.drop (j + 1)) = lexI l m from by rw [← HX.out, HD.out, if_pos hz])
          rw [hz]
          go_wp2_with fail
          go_roundw
          case rel => exact ⟨j + 1, by simp, by omega, by omega, HE.out, rfl⟩
          case measure => simp [intOf]; omega
        · have HE := hid (show cmpZ a b = r from by rw [HR.out, ← HX.out, HD.out, if_neg hz])
          go_wp2_with fail
          go_ret
          exact ⟨ret_int HE.out, rfl⟩
      · obtain rfl : j = m.length := by omega
        have HE := hid (show (1 : Int) = r from by
          rw [HR.out, ← HX.out, List.drop_eq_getElem_cons g1, List.drop_length, lexI])
        clear ha
        go_wp2_with fail
        go_ret
        exact ⟨ret_int HE.out, rfl⟩
    · obtain rfl : j = l.length := by omega
      by_cases g2 : l.length < m.length
      · have HE := hid (show (-1 : Int) = r from by
          rw [HR.out, ← HX.out, List.drop_length, List.drop_eq_getElem_cons g2, lexI])
        go_wp2_with fail
        go_ret
        exact ⟨ret_int HE.out, rfl⟩
      · have HE := hid (show (0 : Int) = r from by
          rw [HR.out, ← HX.out, List.drop_length, List.drop_of_length_le (by omega), lexI])
        go_wp2_with fail
        go_ret
        exact ⟨ret_int HE.out, rfl⟩

/-- how two places stand -/
def ordP (a b : PAt) : Int := if aheadP a b then -1 else if a = b then 0 else 1
theorem lexI_ord (a b : PAt) : lexI [a.1, a.2.1, a.2.2] [b.1, b.2.1, b.2.2] = ordP a b := by
  obtain ⟨a1, a2, a3⟩ := a
  obtain ⟨b1, b2, b3⟩ := b
  simp only [lexI, cmpZ, ordP, aheadP, Prod.mk.injEq]
  repeat' split
  all_goals omega

theorem ints_new {w : World} {n : Nat} (hn : w.heap.size = n) (l : List Int) (t : TypeId) {j : Nat} {x : Int} (hx : l[j]? = some x) : (w.alloc (.cells (l.map (Value.int .i64)).toArray t)).cell? ⟨n, j, none⟩ = some (.int .i64 x) := by
  subst hn
  exact cell_of (heap_alloc_new w _) (by simp [hx])
theorem ints_new2 {w : World} {n : Nat} {o : Obj} (hn : w.heap.size = n) (l : List Int) (t : TypeId) {j : Nat} {x : Int} (hx : l[j]? = some x) : ((w.alloc (.cells (l.map (Value.int .i64)).toArray t)).alloc o).cell? ⟨n, j, none⟩ = some (.int .i64 x) := by
  subst hn
  exact cell_of (heap_alloc_keep (heap_alloc_new w _) o) (by simp [hx])

set_option maxHeartbeats 1000000 in
theorem order_any (a b : PAt) (w : World) : Calls Tryz.prog 34 #[atV a, atV b] w fun e w' => e = .returned (.int .i64 (ordP a b)) ∧ Below w.heap.size w w' := by
  rw [← lexI_ord]
  obtain ⟨r, hr⟩ : ∃ r, r = lexI [a.1, a.2.1, a.2.2] [b.1, b.2.1, b.2.2] := ⟨_, rfl⟩
  have HC := hid (fun (w : World) b1 b2 h1 h2 => compare_any w b1 b2 3 3 [a.1, a.2.1, a.2.2] [b.1, b.2.1, b.2.2] h1 h2 (by simp) (by simp))
  rw [← hr]
  have HR := hid hr
  clear hr
  unfold atV
  go_enter Tryz.func34, Tryz.ntmps34
  go_wp2_with fail
  refine (HC.out _ _ _ ?h1 ?h2).mono ?_
  case h1 => exact fun j x hx => ints_new2 (by simp) _ _ hx
  case h2 => exact fun j x hx => ints_new (by simp) _ _ hx
  rintro e w1 ⟨rfl, rfl⟩
  go_wp2_with fail
  go_ret
  exact ⟨ret_int HR.out.symm, ((((Below.refl _ w).alloc (Nat.le_refl _) _).alloc (by simp) _).alloc (by simp; omega) _).alloc (by simp; omega) _⟩
end Go.Proofs.YthkjmplcmfabfaaGreatDoor
