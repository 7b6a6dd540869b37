/- Contract of spill.may. No condition. -/
import Derived.Test.YthkjmplcmfabfaaGreatDoorSpBin
namespace Go.Proofs.YthkjmplcmfabfaaGreatDoor
open Go.RowKit Go.Lib

/-- a spill that may be, where there are such cells -/
def okP (A : List PAt) (x : PSp) : Prop := x.1 ∈ A ∧ 1 ≤ x.2.1 ∧ 1 ≤ x.2.2 ∧ x.2.1 ≤ 400 ∧ x.2.2 ≤ 400 ∧ x.2.1 * x.2.2 ≤ 400
instance (A : List PAt) (x : PSp) : Decidable (okP A x) := by unfold okP; infer_instance
/-- the first ones of some spills may be -/
def mayUp (A : List PAt) (l : List PSp) (n : Nat) : Prop := ∀ j, j < n → ∀ x, l[j]? = some x → okP A x ∧ ∀ y, 0 < j → l[j - 1]? = some y → aheadP y.1 x.1
def mayP (A : List PAt) (l : List PSp) : Prop := mayUp A l l.length
theorem mayUp_zero (A : List PAt) (l : List PSp) : mayUp A l 0 := fun j hj => by omega
theorem mayUp_next {A : List PAt} {l : List PSp} {n : Nat} {x : PSp} (h : mayUp A l n) (hx : l[n]? = some x) (ho : okP A x) (ha : ∀ y, 0 < n → l[n - 1]? = some y → aheadP y.1 x.1) : mayUp A l (n + 1) := fun j hj z hz => by
  by_cases e : j < n
  · exact h j e z hz
  · obtain rfl : j = n := by omega
    rw [hx] at hz
    cases hz
    exact ⟨ho, ha⟩
theorem not_mayP {A : List PAt} {l : List PSp} {n : Nat} {x : PSp} (hx : l[n]? = some x) (h : ¬ (okP A x ∧ ∀ y, 0 < n → l[n - 1]? = some y → aheadP y.1 x.1)) : ¬ mayP A l := fun hm => h (hm n (List.getElem?_eq_some_iff.1 hx).1 x hx)
theorem mayP_order {A : List PAt} {l : List PSp} (h : mayP A l) : inOrder l := by
  unfold inOrder
  have key : ∀ (d i : Nat) (x y : PSp), l[i]? = some x → l[i + d + 1]? = some y → aheadP x.1 y.1 := by
    intro d
    induction d with
    | zero =>
      intro i x y hx hy
      exact (h (i + 1) (List.getElem?_eq_some_iff.1 hy).1 y hy).2 x (by omega) (by simpa using hx)
    | succ d ih =>
      intro i x y hx hy
      have hl := (List.getElem?_eq_some_iff.1 hy).1
      obtain ⟨z, hz⟩ : ∃ z, l[i + d + 1]? = some z := ⟨_, List.getElem?_eq_getElem (by omega)⟩
      exact (ih i x z hx hz).trans ((h (i + (d + 1) + 1) hl y hy).2 z (by omega) (by simpa [Nat.add_assoc] using hz))
  rw [List.pairwise_iff_getElem]
  intro i j hi hj hij
  exact key (j - i - 1) i _ _ (List.getElem?_eq_getElem hi) (by rw [show i + (j - i - 1) + 1 = j by omega]; exact List.getElem?_eq_getElem hj)
theorem mayP_ok {A : List PAt} {l : List PSp} (h : mayP A l) : ∀ x, x ∈ l → okP A x := fun x hx => by
  obtain ⟨j, hj, e⟩ := List.mem_iff_getElem.1 hx
  exact (h j hj x (by rw [List.getElem?_eq_getElem hj, e])).1

theorem ma_keep {w y z : World} {a b c d e f g h : Addr} {u1 u2 u3 u4 u5 u6 u7 u8 : Value} (hS : (y.cell? a = some u1 ∧ y.cell? b = some u2 ∧ y.cell? c = some u3) ∧ (y.cell? d = some u4 ∧ y.cell? e = some u5 ∧ y.cell? f = some u6 ∧ y.cell? g = some u7 ∧ y.cell? h = some u8) ∧ Below w.heap.size w y) (hb : Below y.heap.size y z) :
    (z.cell? a = some u1 ∧ z.cell? b = some u2 ∧ z.cell? c = some u3) ∧ (z.cell? d = some u4 ∧ z.cell? e = some u5 ∧ z.cell? f = some u6 ∧ z.cell? g = some u7 ∧ z.cell? h = some u8) ∧ Below w.heap.size w z := by
  have k : ∀ {p : Addr} {u : Value}, y.cell? p = some u → z.cell? p = some u := fun {p u} hc => (hb.cell (World.block_lt_of_cell? _ _ hc)).trans hc
  obtain ⟨⟨h1, h2, h3⟩, ⟨h4, h5, h6, h7, h8⟩, h9⟩ := hS
  exact ⟨⟨k h1, k h2, k h3⟩, ⟨k h4, k h5, k h6, k h7, k h8⟩, h9.trans (hb.mono h9.size)⟩
def MaRel (w : World) (A : List PAt) (l : List PSp) (i : Value) (wr : World) : Prop := ∃ j : Nat, i = .int .i64 (j : Int) ∧ j ≤ l.length ∧ mayUp A l j ∧ Below w.heap.size w wr

open Classical in
set_option maxRecDepth 20000 in
set_option maxHeartbeats 4000000 in
theorem may_any (w : World) (lv cv : Value) (A : List PAt) (l : List PSp) (hl : SpsIn w lv l) (hc : AtsIn w cv A) (hr : Rising A) (ha : A.length ≤ 1000) :
    Calls Tryz.prog 17 #[lv, cv] w fun e w' => e = .returned (.bool (decide (mayP A l))) ∧ Below w.heap.size w w' := by
  obtain ⟨ao, c, cb, co, rfl, hlen, hcl⟩ := hl.view
  have HBI := hid (fun (y : World) (hb : Below w.heap.size w y) (p : PAt) => bin_any y cv A (hc.below hb) hr ha p)
  obtain ⟨ca, cn, cc, rfl⟩ : ∃ a n c, cv = .slice a n c := by obtain ⟨a, c, _, _, e, _⟩ := hc.view; exact ⟨_, _, _, e⟩
  have HCL := hid hcl
  obtain ⟨n, hn⟩ : ∃ n, n = l.length := ⟨_, rfl⟩
  rw [← hn] at hlen ⊢
  have HN := hid hn
  obtain ⟨bo, hbo⟩ : ∃ bo, bo = decide (mayP A l) := ⟨_, rfl⟩
  rw [← hbo]
  have HBO := hid hbo
  have hbw := Below.refl w.heap.size w
  clear hl hc hr ha hcl hn hbo
  go_enter Tryz.func17, Tryz.ntmps17
  go_wp2_with fail
  go_loopw [11] (fun i wr => MaRel w A l i wr) (fun i _ => n - (RowKit.intOf i).toNat)
  case atStart => exact ⟨0, rfl, by omega, mayUp_zero _ _, hbw⟩
  case round =>
    obtain ⟨j, rfl, hj, hm, hb⟩ := hrel
    rw [← HN.out] at hj
    have HM := hid hm
    have HB := hid hb
    clear hm hb hbw
    by_cases hjn : j < n
    · obtain ⟨x, hx⟩ : ∃ x, l[j]? = some x := ⟨_, List.getElem?_eq_getElem (by rw [← HN.out]; omega)⟩
      obtain ⟨rfl, k0, k1, k2, k3, k4⟩ := HCL.out j x hx
      have kk : ∀ {p : Addr} {u : Value}, w.cell? p = some u → wr.cell? p = some u := fun {p u} hc => (HB.out.cell (World.block_lt_of_cell? _ _ hc)).trans hc
      have k0' := kk k0
      have k1' := kk k1
      have k2' := kk k2
      have k3' := kk k3
      have k4' := kk k4
      obtain ⟨p, hp⟩ : ∃ p, p = x.1 := ⟨_, rfl⟩
      obtain ⟨r, hr⟩ : ∃ r, r = x.2.1 := ⟨_, rfl⟩
      obtain ⟨c2, hc2⟩ : ∃ c2, c2 = x.2.2 := ⟨_, rfl⟩
      rw [← hp] at k0' k1' k2'
      rw [← hr] at k3'
      rw [← hc2] at k4'
      have HX := hid hx
      have HPX := hid (show x = (p, r, c2) by rw [hp, hr, hc2])
      clear kk k0 k1 k2 k3 k4 hx hp hr hc2
      -- LEAVES (printed by gen_may.py)
      have bA := HB.out.trans (((Below.refl wr.heap.size wr).alloc (Nat.le_refl _) (.cells #[.int .i64 p.1, .int .i64 p.2.1, .int .i64 p.2.2, .int .i64 r, .int .i64 c2] 40)).mono HB.out.size)
      have hA := heap_alloc_new wr (.cells #[.int .i64 p.1, .int .i64 p.2.1, .int .i64 p.2.2, .int .i64 r, .int .i64 c2] 40)
      have HBA := hid (show _ ∧ _ from ⟨bA, hA⟩)
      clear bA hA
      go_wp2_with fail
      refine (HBI.out _ HBA.out.1 p).mono ?_
      rintro e w1 ⟨rfl, b1⟩
      obtain ⟨g, hg⟩ : ∃ g, g = wr.heap.size := ⟨_, rfl⟩
      have D1 : w1.heap[g]? = some (.cells #[.int .i64 p.1, .int .i64 p.2.1, .int .i64 p.2.2, .int .i64 r, .int .i64 c2] 40 (0, 0)) := by rw [hg]; exact (b1.block _ (by simp)).trans HBA.out.2
      have B1 : Below w.heap.size w w1 := HBA.out.1.trans (b1.mono HBA.out.1.size)
      have G1 : w.heap.size ≤ g := by rw [hg]; exact HB.out.size
      rw [← hg]
      have a0 := cell_of (i := 0) D1 rfl
      have a1 := cell_of (i := 1) D1 rfl
      have a2 := cell_of (i := 2) D1 rfl
      have a3 := cell_of (i := 3) D1 rfl
      have a4 := cell_of (i := 4) D1 rfl
      have HD1 := hid D1
      have HB1 := hid B1
      have HNO := hid (fun (h : ¬ okP A (p, r, c2)) => show bo = false from by rw [HBO.out]; exact decide_eq_false (not_mayP HX.out (by rw [HPX.out]; exact fun hh => h hh.1)))
      clear b1 D1 B1 hg HBA HB k0' k1' k2' k3' k4'
      by_cases hn : p ∈ A
      · rw [decide_eq_true hn]
        by_cases h0 : r < 1
        · have HE := HNO.out (fun h => by have := h.2.1; dsimp only at this; omega)
          have e0 : (r < 1) = True := by rw [eq_iff_iff, iff_true]; exact h0
          have HE := hid HE
          clear hn
          go_wp2_with fail
          go_quiet (fail)
          go_wp2_with fail
          go_ret
          exact ⟨ret_bool HE.out.symm, below_drewN HB1.out _⟩
        · have e0 : (r < 1) = False := by rw [eq_iff_iff, iff_false]; exact h0
          by_cases h1 : c2 < 1
          · have HE := HNO.out (fun h => by have := h.2.2.1; dsimp only at this; omega)
            have e1 : (c2 < 1) = True := by rw [eq_iff_iff, iff_true]; exact h1
            have HE := hid HE
            clear hn
            go_wp2_with fail
            go_quiet (fail)
            go_wp2_with fail
            go_ret
            exact ⟨ret_bool HE.out.symm, below_drewN HB1.out _⟩
          · have e1 : (c2 < 1) = False := by rw [eq_iff_iff, iff_false]; exact h1
            by_cases h2 : 400 < r
            · have HE := HNO.out (fun h => by have := h.2.2.2.1; dsimp only at this; omega)
              have e2 : (400 < r) = True := by rw [eq_iff_iff, iff_true]; exact h2
              have HE := hid HE
              clear hn
              go_wp2_with fail
              go_quiet (fail)
              go_wp2_with fail
              go_ret
              exact ⟨ret_bool HE.out.symm, below_drewN HB1.out _⟩
            · have e2 : (400 < r) = False := by rw [eq_iff_iff, iff_false]; exact h2
              by_cases h3 : 400 < c2
              · have HE := HNO.out (fun h => by have := h.2.2.2.2.1; dsimp only at this; omega)
                have e3 : (400 < c2) = True := by rw [eq_iff_iff, iff_true]; exact h3
                have HE := hid HE
                clear hn
                go_wp2_with fail
                go_quiet (fail)
                go_wp2_with fail
                go_ret
                exact ⟨ret_bool HE.out.symm, below_drewN HB1.out _⟩
              · have e3 : (400 < c2) = False := by rw [eq_iff_iff, iff_false]; exact h3
                have m1 : 0 ≤ r * c2 := Int.mul_nonneg (by omega) (by omega)
                have m2 : r * c2 ≤ 160000 := Int.le_trans (Int.mul_le_mul (show r ≤ 400 by omega) (show c2 ≤ 400 by omega) (by omega) (by omega)) (by decide)
                have gw : IntKind.i64.wrap (r * c2) = r * c2 := IntWalk.i64_in _ (by omega)
                by_cases h4 : 400 < r * c2
                · have HE := HNO.out (fun h => by have := h.2.2.2.2.2; dsimp only at this; omega)
                  have e4 : (400 < r * c2) = True := by rw [eq_iff_iff, iff_true]; exact h4
                  have HE := hid HE
                  clear hn m1 m2
                  go_wp2_with fail
                  go_quiet (fail)
                  go_wp2_with fail
                  go_ret
                  exact ⟨ret_bool HE.out.symm, below_drewN HB1.out _⟩
                · have e4 : (400 < r * c2) = False := by rw [eq_iff_iff, iff_false]; exact h4
                  have HOK := hid (show okP A (p, r, c2) from ⟨hn, by dsimp only; omega, by dsimp only; omega, by dsimp only; omega, by dsimp only; omega, by dsimp only; omega⟩)
                  clear hn m1 m2
                  by_cases hj0 : j = 0
                  · subst hj0
                    have RR := hid (mayUp_next HM.out HX.out (by rw [HPX.out]; exact HOK.out) (fun y h => absurd h (by omega)))
                    go_wp2_with fail
                    go_quiet (fail)
                    go_wp2_with fail
                    go_roundw
                    case rel => exact ⟨1, rfl, by rw [← HN.out]; omega, RR.out, below_drewN HB1.out _⟩
                    case measure => simp [RowKit.intOf]; omega
                  · obtain ⟨m, hm⟩ : ∃ m, j = m + 1 := ⟨j - 1, by omega⟩
                    obtain ⟨y, hy⟩ : ∃ y, l[m]? = some y := ⟨_, List.getElem?_eq_getElem (by rw [← HN.out]; omega)⟩
                    obtain ⟨-, q0, q1, q2, -⟩ := HCL.out m y hy
                    obtain ⟨q, hq⟩ : ∃ q, q = y.1 := ⟨_, rfl⟩
                    rw [← hq] at q0 q1 q2
                    have kk : ∀ {p : Addr} {u : Value}, w.cell? p = some u → w1.cell? p = some u := fun {p u} hc => (HB1.out.cell (World.block_lt_of_cell? _ _ hc)).trans hc
                    have q0' := kk q0
                    have q1' := kk q1
                    have q2' := kk q2
                    have hpy : ∀ z, 0 < j → l[j - 1]? = some z → z = y := fun z _ hz => by rw [hm, Nat.add_sub_cancel, hy] at hz; exact (Option.some.inj hz).symm
                    have HNA := hid (fun (h : ¬ aheadP q p) => show bo = false from by rw [HBO.out]; exact decide_eq_false (not_mayP HX.out (by rw [HPX.out]; exact fun hh => h (by have := hh.2 y (by omega) (by rw [hm, Nat.add_sub_cancel]; exact hy); rwa [← hq] at this))))
                    have HYA := hid (fun (h : aheadP q p) => mayUp_next HM.out HX.out (by rw [HPX.out]; exact HOK.out) (fun z hz0 hz => by rw [hpy z hz0 hz, HPX.out, ← hq]; exact h))
                    have g1 : (j : Int) - 1 = (m : Int) := by omega
                    have g2 : (0 < (j : Int)) = True := by rw [eq_iff_iff, iff_true]; omega
                    have g2' : (0 < j) = True := by rw [eq_iff_iff, iff_true]; omega
                    have g3 : (m : Int) < (n : Int) := by omega
                    have g4 : (0 : Int) ≤ (m : Int) := by omega
                    have g5 : m < n := by omega
                    have gv : IntKind.i64.wrap (m : Int) = (m : Int) := IntWalk.i64_in _ (by omega)
                    have HKP := hid (fun (y z : World) (hS : (y.cell? ⟨cb, co + m * 5, none⟩ = some (.int .i64 q.1) ∧ y.cell? ⟨cb, co + m * 5 + 1, none⟩ = some (.int .i64 q.2.1) ∧ y.cell? ⟨cb, co + m * 5 + 2, none⟩ = some (.int .i64 q.2.2)) ∧ (y.cell? ⟨g, 0, none⟩ = some (.int .i64 p.1) ∧ y.cell? ⟨g, 1, none⟩ = some (.int .i64 p.2.1) ∧ y.cell? ⟨g, 2, none⟩ = some (.int .i64 p.2.2) ∧ y.cell? ⟨g, 3, none⟩ = some (.int .i64 r) ∧ y.cell? ⟨g, 4, none⟩ = some (.int .i64 c2)) ∧ Below w.heap.size w y) (hb : Below y.heap.size y z) => show (z.cell? ⟨cb, co + m * 5, none⟩ = some (.int .i64 q.1) ∧ z.cell? ⟨cb, co + m * 5 + 1, none⟩ = some (.int .i64 q.2.1) ∧ z.cell? ⟨cb, co + m * 5 + 2, none⟩ = some (.int .i64 q.2.2)) ∧ (z.cell? ⟨g, 0, none⟩ = some (.int .i64 p.1) ∧ z.cell? ⟨g, 1, none⟩ = some (.int .i64 p.2.1) ∧ z.cell? ⟨g, 2, none⟩ = some (.int .i64 p.2.2) ∧ z.cell? ⟨g, 3, none⟩ = some (.int .i64 r) ∧ z.cell? ⟨g, 4, none⟩ = some (.int .i64 c2)) ∧ Below w.heap.size w z from ma_keep hS hb)
                    have HS2 := hid (HKP.out _ _ ⟨⟨q0', q1', q2'⟩, ⟨a0, a1, a2, a3, a4⟩, HB1.out⟩ (Below.refl _ w1).drew)
                    clear q0 q1 q2 q0' q1' q2' a0 a1 a2 a3 a4 kk hpy hm hy hq
                    by_cases hah : aheadP q p
                    · have RR := hid (HYA.out hah)
                      have HO2 := hid (fun w => show Calls Tryz.prog 34 #[.agg #[.int .i64 q.1, .int .i64 q.2.1, .int .i64 q.2.2], .agg #[.int .i64 p.1, .int .i64 p.2.1, .int .i64 p.2.2]] w fun e w' => e = .returned (.int .i64 (-1)) ∧ Below w.heap.size w w' by have := order_any q p w; rwa [show ordP q p = -1 from if_pos hah] at this)
                      clear hah
                      go_wp2_with fail
                      go_region_held (fun y => (y.cell? ⟨cb, co + m * 5, none⟩ = some (.int .i64 q.1) ∧ y.cell? ⟨cb, co + m * 5 + 1, none⟩ = some (.int .i64 q.2.1) ∧ y.cell? ⟨cb, co + m * 5 + 2, none⟩ = some (.int .i64 q.2.2)) ∧ (y.cell? ⟨g, 0, none⟩ = some (.int .i64 p.1) ∧ y.cell? ⟨g, 1, none⟩ = some (.int .i64 p.2.1) ∧ y.cell? ⟨g, 2, none⟩ = some (.int .i64 p.2.2) ∧ y.cell? ⟨g, 3, none⟩ = some (.int .i64 r) ∧ y.cell? ⟨g, 4, none⟩ = some (.int .i64 c2)) ∧ Below w.heap.size w y) (first | exact HS2.out | (refine HKP.out _ _ ?_ ‹Below _ _ _›; assumption)) (first | (go_at_call 34; refine (HO2.out _).mono ?_; rintro e w3 ⟨rfl, b3⟩))
                      have HB3 := hid (show Below w.heap.size w w3 by apply bi_of; assumption)
                      clear HS2 g1 gw gv
                      go_wp2_with fail
                      go_roundw
                      case rel => exact ⟨j + 1, by simp, by rw [← HN.out]; omega, RR.out, HB3.out⟩
                      case measure => simp [RowKit.intOf]; omega
                    · have HE := hid (HNA.out hah)
                      by_cases heq : q = p
                      · have HO2 := hid (fun w => show Calls Tryz.prog 34 #[.agg #[.int .i64 q.1, .int .i64 q.2.1, .int .i64 q.2.2], .agg #[.int .i64 p.1, .int .i64 p.2.1, .int .i64 p.2.2]] w fun e w' => e = .returned (.int .i64 (0)) ∧ Below w.heap.size w w' by have := order_any q p w; rwa [show ordP q p = 0 from by unfold ordP; rw [if_neg hah, if_pos heq]] at this)
                        clear hah heq
                        go_wp2_with fail
                        go_region_held (fun y => (y.cell? ⟨cb, co + m * 5, none⟩ = some (.int .i64 q.1) ∧ y.cell? ⟨cb, co + m * 5 + 1, none⟩ = some (.int .i64 q.2.1) ∧ y.cell? ⟨cb, co + m * 5 + 2, none⟩ = some (.int .i64 q.2.2)) ∧ (y.cell? ⟨g, 0, none⟩ = some (.int .i64 p.1) ∧ y.cell? ⟨g, 1, none⟩ = some (.int .i64 p.2.1) ∧ y.cell? ⟨g, 2, none⟩ = some (.int .i64 p.2.2) ∧ y.cell? ⟨g, 3, none⟩ = some (.int .i64 r) ∧ y.cell? ⟨g, 4, none⟩ = some (.int .i64 c2)) ∧ Below w.heap.size w y) (first | exact HS2.out | (refine HKP.out _ _ ?_ ‹Below _ _ _›; assumption)) (first | (go_at_call 34; refine (HO2.out _).mono ?_; rintro e w3 ⟨rfl, b3⟩))
                        have HB3 := hid (show Below w.heap.size w w3 by apply bi_of; assumption)
                        clear HS2 g1 gw gv
                        go_wp2_with fail
                        go_ret
                        exact ⟨ret_bool HE.out.symm, HB3.out⟩
                      · have HO2 := hid (fun w => show Calls Tryz.prog 34 #[.agg #[.int .i64 q.1, .int .i64 q.2.1, .int .i64 q.2.2], .agg #[.int .i64 p.1, .int .i64 p.2.1, .int .i64 p.2.2]] w fun e w' => e = .returned (.int .i64 (1)) ∧ Below w.heap.size w w' by have := order_any q p w; rwa [show ordP q p = 1 from by unfold ordP; rw [if_neg hah, if_neg heq]] at this)
                        clear hah heq
                        go_wp2_with fail
                        go_region_held (fun y => (y.cell? ⟨cb, co + m * 5, none⟩ = some (.int .i64 q.1) ∧ y.cell? ⟨cb, co + m * 5 + 1, none⟩ = some (.int .i64 q.2.1) ∧ y.cell? ⟨cb, co + m * 5 + 2, none⟩ = some (.int .i64 q.2.2)) ∧ (y.cell? ⟨g, 0, none⟩ = some (.int .i64 p.1) ∧ y.cell? ⟨g, 1, none⟩ = some (.int .i64 p.2.1) ∧ y.cell? ⟨g, 2, none⟩ = some (.int .i64 p.2.2) ∧ y.cell? ⟨g, 3, none⟩ = some (.int .i64 r) ∧ y.cell? ⟨g, 4, none⟩ = some (.int .i64 c2)) ∧ Below w.heap.size w y) (first | exact HS2.out | (refine HKP.out _ _ ?_ ‹Below _ _ _›; assumption)) (first | (go_at_call 34; refine (HO2.out _).mono ?_; rintro e w3 ⟨rfl, b3⟩))
                        have HB3 := hid (show Below w.heap.size w w3 by apply bi_of; assumption)
                        clear HS2 g1 gw gv
                        go_wp2_with fail
                        go_ret
                        exact ⟨ret_bool HE.out.symm, HB3.out⟩
      · rw [decide_eq_false hn]
        have HE := hid (HNO.out (fun h => hn h.1))
        clear hn
        go_wp2_with fail
        go_quiet (fail)
        go_wp2_with fail
        go_ret
        exact ⟨ret_bool HE.out.symm, below_drewN HB1.out _⟩
    · obtain rfl : j = n := by omega
      have HE := hid (show bo = true by rw [HBO.out]; exact decide_eq_true (by unfold mayP; rw [← HN.out]; exact HM.out))
      go_wp2_with fail
      go_ret
      exact ⟨ret_bool HE.out.symm, HB.out⟩
end Go.Proofs.YthkjmplcmfabfaaGreatDoor
