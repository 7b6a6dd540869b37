/- Contracts of the document's Spills and Ats: are two lists the same? No condition. -/
import Derived.Test.YthkjmplcmfabfaaGreatDoorSpEq
namespace Go.Proofs.YthkjmplcmfabfaaGreatDoor
open Go.RowKit Go.Lib

def spsameRel (w : World) (l m : List PSp) (i : Value) (wr : World) : Prop := ∃ j : Nat, i = .int .i64 (j : Int) ∧ j ≤ l.length ∧ l.take j = m.take j ∧ Below w.heap.size w wr
set_option maxRecDepth 20000 in
set_option maxHeartbeats 1000000 in
theorem spsame_any (w : World) (v u : Value) (l m : List PSp) (hl : SpsIn w v l) (hm : SpsIn w u m) (sl : ∀ x, x ∈ l → SmallSp x) (sm : ∀ x, x ∈ m → SmallSp x) :
    Calls Tryz.prog 12 #[v, u] w fun e w' => e = .returned (.bool (decide (l = m))) ∧ Below w.heap.size w w' := by
  obtain ⟨la, lc, lb, lo, rfl, hll, hlv⟩ := hl.view
  obtain ⟨ma, mc, mb, mo, rfl, hml, hmv⟩ := hm.view
  have HLV := hid hlv
  have HMV := hid hmv
  have HSL := hid sl
  have HSM := hid sm
  obtain ⟨ln, hln⟩ : ∃ n, n = l.length := ⟨_, rfl⟩
  obtain ⟨mn, hmn⟩ : ∃ n, n = m.length := ⟨_, rfl⟩
  rw [← hln] at hll ⊢
  rw [← hmn] at hml ⊢
  have HLN := hid hln
  have HMN := hid hmn
  obtain ⟨bo, hbo⟩ : ∃ bo, bo = decide (l = m) := ⟨_, rfl⟩
  rw [← hbo]
  have HBO := hid hbo
  clear hl hm hlv hmv sl sm hln hmn hbo
  go_enter Tryz.func12, Tryz.ntmps12
  by_cases hne : ln = mn
  · have hn0 : (ln : Int) = (mn : Int) := by omega
    have HNE := hid hne
    have R0 := hid (show spsameRel w l m (.int .i64 0) w from ⟨0, rfl, by omega, rfl, Below.refl _ _⟩)
    subst hne
    clear hn0
    go_wp2_with fail
    go_loopw [5] (fun i wr => spsameRel w l m i wr) (fun i _ => ln - (RowKit.intOf i).toNat)
    case atStart => exact R0.out
    case round =>
      obtain ⟨j, rfl, hj, hs, hb⟩ := hrel
      rw [← HLN.out] at hj
      have HS := hid hs
      have HB := hid hb
      clear hs hb R0
      by_cases hjn : j < ln
      · obtain ⟨x, hx⟩ : ∃ x, l[j]? = some x := ⟨_, List.getElem?_eq_getElem (by rw [← HLN.out]; omega)⟩
        obtain ⟨y, hy⟩ : ∃ y, m[j]? = some y := ⟨_, List.getElem?_eq_getElem (by rw [← HMN.out]; omega)⟩
        obtain ⟨rfl, x0, x1, x2, x3, x4⟩ := HLV.out j x hx
        obtain ⟨rfl, y0, y1, y2, y3, y4⟩ := HMV.out j y hy
        have kk : ∀ {p : Addr} {u : Value}, w.cell? p = some u → wr.cell? p = some u := fun {p u} hc => (HB.out.cell (World.block_lt_of_cell? _ _ hc)).trans hc
        have x0' := kk x0
        have y0' := kk y0
        have x1' := kk x1
        have y1' := kk y1
        have x2' := kk x2
        have y2' := kk y2
        have x3' := kk x3
        have y3' := kk y3
        have x4' := kk x4
        have y4' := kk y4
        have heq := fun w => eq_sp x y (HSL.out x (List.mem_of_getElem? hx)) (HSM.out y (List.mem_of_getElem? hy)) w
        unfold spV at heq
        have hx1 : ((j : Int) < (ln : Int)) = True := by rw [eq_iff_iff, iff_true]; omega
        have HX := hid hx
        have HY := hid hy
        clear kk x0 y0 x1 y1 x2 y2 x3 y3 x4 y4 hx hy
        by_cases he : x = y
        · rw [decide_eq_true he] at heq
          have HT := hid (show l.take (j + 1) = m.take (j + 1) by
            obtain ⟨h1, e1⟩ := List.getElem?_eq_some_iff.1 HX.out
            obtain ⟨h2, e2⟩ := List.getElem?_eq_some_iff.1 HY.out
            rw [List.take_succ_eq_append_getElem h1, List.take_succ_eq_append_getElem h2, HS.out, e1, e2, he])
          clear he
          go_wp2_with fail
          go_quiet (fail)
          clear heq x0' y0' x1' y1' x2' y2' x3' y3' x4' y4'
          go_wp2_with fail
          go_roundw
          case rel => exact ⟨j + 1, by simp, by rw [← HLN.out]; omega, HT.out, below_drewN HB.out _⟩
          case measure => simp [RowKit.intOf]; omega
        · rw [decide_eq_false he] at heq
          have HE := hid (show bo = false by rw [HBO.out]; exact decide_eq_false (fun h => he (by have h1 := HX.out; rw [h, HY.out] at h1; exact (Option.some.inj h1).symm)))
          clear he
          go_wp2_with fail
          go_quiet (fail)
          clear heq x0' y0' x1' y1' x2' y2' x3' y3' x4' y4'
          go_wp2_with fail
          go_ret
          exact ⟨ret_bool HE.out.symm, below_drewN HB.out _⟩
      · have hx1 : ((j : Int) < (ln : Int)) = False := by rw [eq_iff_iff, iff_false]; omega
        have HE := hid (show bo = true by rw [HBO.out]; exact decide_eq_true (by have h := HS.out; rwa [List.take_of_length_le (by rw [← HLN.out]; omega), List.take_of_length_le (by rw [← HMN.out]; omega)] at h))
        go_wp2_with fail
        go_ret
        exact ⟨ret_bool HE.out.symm, HB.out⟩
  · have HE := hid (show bo = false by rw [HBO.out]; exact decide_eq_false (fun h => hne (by rw [HLN.out, HMN.out, h])))
    have hn0 : ¬ (ln : Int) = (mn : Int) := by omega
    go_wp2_with fail
    go_ret
    exact ⟨ret_bool HE.out.symm, Below.refl _ _⟩

def atsameRel (w : World) (l m : List PAt) (i : Value) (wr : World) : Prop := ∃ j : Nat, i = .int .i64 (j : Int) ∧ j ≤ l.length ∧ l.take j = m.take j ∧ Below w.heap.size w wr
set_option maxRecDepth 20000 in
set_option maxHeartbeats 1000000 in
theorem atsame_any (w : World) (v u : Value) (l m : List PAt) (hl : AtsIn w v l) (hm : AtsIn w u m) (sl : ∀ x, x ∈ l → SmallAt x) (sm : ∀ x, x ∈ m → SmallAt x) :
    Calls Tryz.prog 13 #[v, u] w fun e w' => e = .returned (.bool (decide (l = m))) ∧ Below w.heap.size w w' := by
  obtain ⟨la, lc, lb, lo, rfl, hll, hlv⟩ := hl.view
  obtain ⟨ma, mc, mb, mo, rfl, hml, hmv⟩ := hm.view
  have HLV := hid hlv
  have HMV := hid hmv
  have HSL := hid sl
  have HSM := hid sm
  obtain ⟨ln, hln⟩ : ∃ n, n = l.length := ⟨_, rfl⟩
  obtain ⟨mn, hmn⟩ : ∃ n, n = m.length := ⟨_, rfl⟩
  rw [← hln] at hll ⊢
  rw [← hmn] at hml ⊢
  have HLN := hid hln
  have HMN := hid hmn
  obtain ⟨bo, hbo⟩ : ∃ bo, bo = decide (l = m) := ⟨_, rfl⟩
  rw [← hbo]
  have HBO := hid hbo
  clear hl hm hlv hmv sl sm hln hmn hbo
  go_enter Tryz.func13, Tryz.ntmps13
  by_cases hne : ln = mn
  · have hn0 : (ln : Int) = (mn : Int) := by omega
    have HNE := hid hne
    have R0 := hid (show atsameRel w l m (.int .i64 0) w from ⟨0, rfl, by omega, rfl, Below.refl _ _⟩)
    subst hne
    clear hn0
    go_wp2_with fail
    go_loopw [5] (fun i wr => atsameRel w l m i wr) (fun i _ => ln - (RowKit.intOf i).toNat)
    case atStart => exact R0.out
    case round =>
      obtain ⟨j, rfl, hj, hs, hb⟩ := hrel
      rw [← HLN.out] at hj
      have HS := hid hs
      have HB := hid hb
      clear hs hb R0
      by_cases hjn : j < ln
      · obtain ⟨x, hx⟩ : ∃ x, l[j]? = some x := ⟨_, List.getElem?_eq_getElem (by rw [← HLN.out]; omega)⟩
        obtain ⟨y, hy⟩ : ∃ y, m[j]? = some y := ⟨_, List.getElem?_eq_getElem (by rw [← HMN.out]; omega)⟩
        obtain ⟨rfl, x0, x1, x2⟩ := HLV.out j x hx
        obtain ⟨rfl, y0, y1, y2⟩ := HMV.out j y hy
        have kk : ∀ {p : Addr} {u : Value}, w.cell? p = some u → wr.cell? p = some u := fun {p u} hc => (HB.out.cell (World.block_lt_of_cell? _ _ hc)).trans hc
        have x0' := kk x0
        have y0' := kk y0
        have x1' := kk x1
        have y1' := kk y1
        have x2' := kk x2
        have y2' := kk y2
        have heq := fun w => eq_at x y (HSL.out x (List.mem_of_getElem? hx)) (HSM.out y (List.mem_of_getElem? hy)) w
        unfold atV at heq
        have hx1 : ((j : Int) < (ln : Int)) = True := by rw [eq_iff_iff, iff_true]; omega
        have HX := hid hx
        have HY := hid hy
        clear kk x0 y0 x1 y1 x2 y2 hx hy
        by_cases he : x = y
        · rw [decide_eq_true he] at heq
          have HT := hid (show l.take (j + 1) = m.take (j + 1) by
            obtain ⟨h1, e1⟩ := List.getElem?_eq_some_iff.1 HX.out
            obtain ⟨h2, e2⟩ := List.getElem?_eq_some_iff.1 HY.out
            rw [List.take_succ_eq_append_getElem h1, List.take_succ_eq_append_getElem h2, HS.out, e1, e2, he])
          clear he
          go_wp2_with fail
          go_quiet (fail)
          clear heq x0' y0' x1' y1' x2' y2'
          go_wp2_with fail
          go_roundw
          case rel => exact ⟨j + 1, by simp, by rw [← HLN.out]; omega, HT.out, below_drewN HB.out _⟩
          case measure => simp [RowKit.intOf]; omega
        · rw [decide_eq_false he] at heq
          have HE := hid (show bo = false by rw [HBO.out]; exact decide_eq_false (fun h => he (by have h1 := HX.out; rw [h, HY.out] at h1; exact (Option.some.inj h1).symm)))
          clear he
          go_wp2_with fail
          go_quiet (fail)
          clear heq x0' y0' x1' y1' x2' y2'
          go_wp2_with fail
          go_ret
          exact ⟨ret_bool HE.out.symm, below_drewN HB.out _⟩
      · have hx1 : ((j : Int) < (ln : Int)) = False := by rw [eq_iff_iff, iff_false]; omega
        have HE := hid (show bo = true by rw [HBO.out]; exact decide_eq_true (by have h := HS.out; rwa [List.take_of_length_le (by rw [← HLN.out]; omega), List.take_of_length_le (by rw [← HMN.out]; omega)] at h))
        go_wp2_with fail
        go_ret
        exact ⟨ret_bool HE.out.symm, HB.out⟩
  · have HE := hid (show bo = false by rw [HBO.out]; exact decide_eq_false (fun h => hne (by rw [HLN.out, HMN.out, h])))
    have hn0 : ¬ (ln : Int) = (mn : Int) := by omega
    go_wp2_with fail
    go_ret
    exact ⟨ret_bool HE.out.symm, Below.refl _ _⟩
end Go.Proofs.YthkjmplcmfabfaaGreatDoor
