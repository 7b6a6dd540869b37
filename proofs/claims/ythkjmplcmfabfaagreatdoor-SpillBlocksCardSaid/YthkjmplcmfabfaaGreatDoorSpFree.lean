/- Contract of spill.free. No condition. -/
import Derived.Test.YthkjmplcmfabfaaGreatDoorSpTaken
namespace Go.Proofs.YthkjmplcmfabfaaGreatDoor
open Go.RowKit Go.Lib Go.Maps

/-- the places of an area's first rows, and of the first columns of the next one -/
def tileUp (x : PSp) (r c : Nat) (p : PAt) : Prop := p.1 = x.1.1 ∧ ((x.1.2.1 ≤ p.2.1 ∧ p.2.1 < x.1.2.1 + r ∧ x.1.2.2 ≤ p.2.2 ∧ p.2.2 < x.1.2.2 + x.2.2) ∨ (p.2.1 = x.1.2.1 + r ∧ x.1.2.2 ≤ p.2.2 ∧ p.2.2 < x.1.2.2 + c))
theorem tileUp_zero {x : PSp} {p : PAt} : ¬ tileUp x 0 0 p := by unfold tileUp; omega
theorem tileUp_col {x : PSp} {r c : Nat} {p : PAt} : tileUp x r (c + 1) p ↔ tileUp x r c p ∨ p = (x.1.1, x.1.2.1 + r, x.1.2.2 + c) := by
  obtain ⟨⟨x1, x2, x3⟩, x4, x5⟩ := x
  obtain ⟨p1, p2, p3⟩ := p
  simp only [tileUp, Prod.mk.injEq]
  omega
theorem tileUp_row {x : PSp} {r c : Nat} {p : PAt} (h : x.2.2 = c) : tileUp x r c p ↔ tileUp x (r + 1) 0 p := by
  obtain ⟨⟨x1, x2, x3⟩, x4, x5⟩ := x
  obtain ⟨p1, p2, p3⟩ := p
  simp only [tileUp] at *
  omega
theorem tileUp_all {x : PSp} {r : Nat} {p : PAt} (h : x.2.1 = r) : tileUp x r 0 p ↔ tileP x p := by
  obtain ⟨⟨x1, x2, x3⟩, x4, x5⟩ := x
  obtain ⟨p1, p2, p3⟩ := p
  simp only [tileUp, tileP] at *
  omega

/-- the first places are free -/
def freeUp (x : PSp) (S : PAt → Prop) (r c : Nat) : Prop := ∀ p, tileUp x r c p → p ≠ x.1 → ¬ S p
theorem freeUp_zero (x : PSp) (S : PAt → Prop) : freeUp x S 0 0 := fun _ h => absurd h tileUp_zero
theorem freeUp_col {x : PSp} {S : PAt → Prop} {r c : Nat} (h : freeUp x S r c) (hn : r + c = 0 ∨ ¬ S (x.1.1, x.1.2.1 + r, x.1.2.2 + c)) : freeUp x S r (c + 1) := fun p hp hne => by
  rcases tileUp_col.1 hp with hp | rfl
  · exact h p hp hne
  · rcases hn with h0 | h0
    · refine absurd ?_ hne
      obtain ⟨⟨x1, x2, x3⟩, x4, x5⟩ := x
      dsimp only
      rw [Prod.mk.injEq, Prod.mk.injEq]
      omega
    · exact h0
theorem freeUp_row {x : PSp} {S : PAt → Prop} {r c : Nat} (h : freeUp x S r c) (hc : x.2.2 = c) : freeUp x S (r + 1) 0 := fun p hp => h p ((tileUp_row hc).2 hp)
theorem freeUp_all {x : PSp} {S : PAt → Prop} {r : Nat} (h : freeUp x S r 0) (hr : x.2.1 = r) : freeP x S := fun p hp => h p ((tileUp_all hr).2 hp)
theorem not_freeP {x : PSp} {S : PAt → Prop} {r c : Nat} (hr : (r : Int) < x.2.1) (hc : (c : Int) < x.2.2) (h0 : r + c ≠ 0) (hs : S (x.1.1, x.1.2.1 + r, x.1.2.2 + c)) : ¬ freeP x S := fun h => by
  refine h _ ?_ ?_ hs
  · unfold tileP
    dsimp only
    omega
  · obtain ⟨⟨x1, x2, x3⟩, x4, x5⟩ := x
    dsimp only
    rw [ne_eq, Prod.mk.injEq, Prod.mk.injEq]
    omega

/-- what stands while free goes -/
structure Fr (w : World) (x : PSp) (b n : Nat) (S : PAt → Prop) (y : World) : Prop where
  area : y.heap[w.heap.size]? = some (.cells (spC x).toArray 46 (0, 0))
  map : TakenAt y b n S
  low : Below w.heap.size w y
theorem Fr.keep {w y z : World} {x : PSp} {b n : Nat} {S : PAt → Prop} (h : Fr w x b n S y) (hb : Below y.heap.size y z) : Fr w x b n S z :=
  ⟨(hb.block _ (heap_lt h.area)).trans h.area, h.map.below hb, h.low.trans (hb.mono h.low.size)⟩
def FrRel (w : World) (x : PSp) (b n : Nat) (S : PAt → Prop) (is i : Value) (wr : World) : Prop := ∃ r : Nat, i = .int .i64 (r : Int) ∧ (r : Int) ≤ x.2.1 ∧ (∃ bo : Bool, is = .bool bo ∧ (0 < r → bo = true)) ∧ freeUp x S r 0 ∧ Fr w x b n S wr
def FcRel (w : World) (x : PSp) (b n : Nat) (S : PAt → Prop) (r : Nat) (is i : Value) (wr : World) : Prop := ∃ c : Nat, i = .int .i64 (c : Int) ∧ (c : Int) ≤ x.2.2 ∧ (∃ bo : Bool, is = .bool bo ∧ (0 < r + c → bo = true)) ∧ freeUp x S r c ∧ Fr w x b n S wr

open Classical in
set_option maxRecDepth 20000 in
set_option maxHeartbeats 2000000 in
theorem free_any (w : World) (x : PSp) (hr : rightP x) (b n : Nat) (S : PAt → Prop) (h : TakenAt w b n S) :
    Calls Tryz.prog 20 #[spV x, .map (some b)] w fun e w' => e = .returned (.bool (decide (freeP x S))) ∧ Below w.heap.size w w' := by
  obtain ⟨⟨x1, x2, x3⟩, x4, x5⟩ := x
  have F0 : Fr w ((x1, x2, x3), x4, x5) b n S (w.alloc (.cells (spC ((x1, x2, x3), x4, x5)).toArray 46)) := ⟨heap_alloc_new w _, h.below ((Below.refl _ w).alloc (Nat.le_refl _) _), (Below.refl _ w).alloc (Nat.le_refl _) _⟩
  have HF0 := hid F0
  obtain ⟨bo, hbo⟩ : ∃ bo, bo = decide (freeP ((x1, x2, x3), x4, x5) S) := ⟨_, rfl⟩
  rw [← hbo]
  have HBO := hid hbo
  unfold rightP at hr
  obtain ⟨a1, a2, a3, a4, a5, a6, a7, a8, a9, a10⟩ := hr
  dsimp only at a1 a2 a3 a4 a5 a6 a7 a8 a9 a10
  clear h F0 hbo
  unfold spV spC at *
  go_enter Tryz.func20, Tryz.ntmps20
  go_wp2_with fail
  go_step3
  go_wp2_with fail
  go_step3
  go_wp2_with fail
  go_loopw [4, 10] (fun is i wr => FrRel w ((x1, x2, x3), x4, x5) b n S is i wr) (fun _ i _ => x4.toNat - (RowKit.intOf i).toNat)
  case atStart => exact ⟨0, rfl, by dsimp only; omega, ⟨_, rfl, by omega⟩, freeUp_zero _ _, HF0.out⟩
  case round =>
    obtain ⟨r, rfl, hr, ⟨iv, rfl, hiv⟩, hfr, hF⟩ := hrel
    dsimp only at hr
    have HFR := hid hfr
    have HF := hid hF
    have HIV := hid hiv
    have k4 := cell_of (i := 4) hF.area (v := .int .i64 x5) rfl
    clear hfr hF hiv HF0
    by_cases hrx : (r : Int) < x4
    · have hrt : ((r : Int) < x4) = True := by rw [eq_iff_iff, iff_true]; exact hrx
      go_wp2_with fail
      have R0 := hid (show FcRel w ((x1, x2, x3), x4, x5) b n S r (.bool iv) (.int .i64 0) wr from ⟨0, rfl, by dsimp only; omega, ⟨_, rfl, by simpa using HIV.out⟩, HFR.out, HF.out⟩)
      clear k4 HF HFR HIV
      rename_i K hK
      have HC := hid hK
      clear hK
      go_loopw [4, 15] (fun is i wr => FcRel w ((x1, x2, x3), x4, x5) b n S r is i wr) (fun _ i _ => x5.toNat - (RowKit.intOf i).toNat)
      case atStart => exact R0.out
      case round =>
        obtain ⟨c, rfl, hc, ⟨iw, rfl, hiw⟩, hfc, hF⟩ := hrel
        dsimp only at hc
        have HFC := hid hfc
        have HF := hid hF
        have HIW := hid hiw
        have k0 := cell_of (i := 0) hF.area (v := .int .i64 x1) rfl
        have k1 := cell_of (i := 1) hF.area (v := .int .i64 x2) rfl
        have k2 := cell_of (i := 2) hF.area (v := .int .i64 x3) rfl
        clear hfc hF hiw R0
        by_cases hcx : (c : Int) < x5
        · have hct : ((c : Int) < x5) = True := by rw [eq_iff_iff, iff_true]; exact hcx
          have bA := (Below.refl wr.heap.size wr).alloc (Nat.le_refl _) (.cells #[.int .i64 x1, .int .i64 (x2 + r), .int .i64 (x3 + c)] 38)
          have HF2 := hid (HF.out.keep bA)
          have hlook := HF2.out.map.look (x1, x2 + r, x3 + c) ⟨by dsimp only; omega, by dsimp only; omega, by dsimp only; omega⟩
          unfold atV at hlook
          dsimp only at hlook
          clear bA
          by_cases h0 : r + c = 0
          · have ht : ((r : Int) + (c : Int) == 0) = true := by rw [beq_iff_eq]; omega
            have R1 := hid (freeUp_col HFC.out (.inl h0))
            clear hlook h0
            go_wp2_with fail
            go_roundw
            case rel => exact ⟨c + 1, by simp, by dsimp only; omega, ⟨_, rfl, by simp⟩, R1.out, HF2.out⟩
            case measure => simp [RowKit.intOf]; omega
          · have ht : ((r : Int) + (c : Int) == 0) = false := by rw [beq_eq_false_iff_ne]; omega
            by_cases hs : S (x1, x2 + r, x3 + c)
            · rw [decide_eq_true hs] at hlook
              have HE := hid (show bo = false by rw [HBO.out]; exact decide_eq_false (not_freeP (by dsimp only; omega) (by dsimp only; omega) h0 hs))
              clear h0 hs
              go_wp2_with fail
              rw [Exit.noGoto_ret]
              go_ret
              exact ⟨ret_bool HE.out.symm, HF2.out.low⟩
            · rw [decide_eq_false hs] at hlook
              have R1 := hid (freeUp_col HFC.out (.inr hs))
              clear h0 hs
              go_wp2_with fail
              go_roundw
              case rel => exact ⟨c + 1, by simp, by dsimp only; omega, ⟨_, rfl, by simp⟩, R1.out, HF2.out⟩
              case measure => simp [RowKit.intOf]; omega
        · have hct : ((c : Int) < x5) = False := by rw [eq_iff_iff, iff_false]; exact hcx
          have R1 := hid (freeUp_row HFC.out (show x5 = (c : Int) by omega))
          go_wp2_with fail
          refine HC.out _ _ ?_
          go_wp2_with fail
          exact ⟨⟨r + 1, by simp, by dsimp only; omega, ⟨_, rfl, fun _ => HIW.out (by omega)⟩, R1.out, HF.out⟩, by simp [RowKit.intOf]; omega⟩
    · have hrt : ((r : Int) < x4) = False := by rw [eq_iff_iff, iff_false]; exact hrx
      obtain rfl : iv = true := HIV.out (by omega)
      have HE := hid (show bo = true by rw [HBO.out]; exact decide_eq_true (freeUp_all HFR.out (show x4 = (r : Int) by omega)))
      go_wp2_with fail
      go_ret
      exact ⟨ret_bool HE.out.symm, HF.out.low⟩
end Go.Proofs.YthkjmplcmfabfaaGreatDoor
