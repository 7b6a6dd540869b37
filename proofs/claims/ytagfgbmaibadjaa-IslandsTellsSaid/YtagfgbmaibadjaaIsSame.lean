/- Contract of the law's own same: are lists of lists the same. -/
import Derived.Test.YtagfgbmaibadjaaIsBase
namespace Go.Proofs.Ytagfgbmaibadjaa
open Go.RowKit Go.Lib

def SameEnd (w : World) (b : Bool) (e : Ending) (w' : World) : Prop := e = .returned (.bool b) ∧ Below w.heap.size w w'
def SameRel (w : World) (G H : List (List Int)) (iv : Value) (wr : World) : Prop := ∃ i : Nat, iv = .int .i64 (i : Int) ∧ i ≤ G.length ∧ G.take i = H.take i ∧ Below w.heap.size w wr
def SameIn (w : World) (l l2 : List Int) (jv : Value) (wr : World) : Prop := ∃ j : Nat, jv = .int .i64 (j : Int) ∧ j ≤ l.length ∧ l.take j = l2.take j ∧ Below w.heap.size w wr

theorem take_more {α : Type} {a b : List α} {i : Nat} {x : α} (h : a.take i = b.take i) (ha : a[i]? = some x) (hb : b[i]? = some x) : a.take (i + 1) = b.take (i + 1) := by
  rw [List.take_add_one, List.take_add_one, h, ha, hb]

theorem rows_cell {w : World} {ao : Option Addr} {c n : Nat} {G : List (List Int)} (h : RowsIn w (.slice ao n c) G) {i : Nat} {l : List Int} (hl : G[i]? = some l) :
    ∃ b off lo lc, ao = some ⟨b, off, none⟩ ∧ w.cell? ⟨b, off + i, none⟩ = some (.slice lo l.length lc) ∧ IntsIn w (.slice lo l.length lc) l := by
  obtain ⟨ao', c', b, off, h1, _, h3⟩ := h
  injection h1 with h1 _ _
  subst h1
  obtain ⟨rfl, lv, h4, h5⟩ := h3 i l hl
  have h6 := h5
  obtain ⟨lo, lc, b2, o2, rfl, _⟩ := h6
  exact ⟨b, off, lo, lc, rfl, h4, h5⟩
theorem ints_cell {w : World} {ao : Option Addr} {c n : Nat} {l : List Int} (h : IntsIn w (.slice ao n c) l) {i : Nat} {x : Int} (hx : l[i]? = some x) :
    ∃ b off, ao = some ⟨b, off, none⟩ ∧ w.cell? ⟨b, off + i, none⟩ = some (.int .i64 x) ∧ -9223372036854775808 ≤ x ∧ x ≤ 9223372036854775807 := by
  obtain ⟨ao', c', b, off, h1, _, h3⟩ := h
  injection h1 with h1 _ _
  subst h1
  obtain ⟨rfl, h4, h5, h6⟩ := h3 i x hx
  exact ⟨b, off, rfl, h4, h5, h6⟩
theorem rows_view {w : World} {v : Value} {G : List (List Int)} (h : RowsIn w v G) : ∃ ao c, v = .slice ao G.length c ∧ G.length ≤ 9223372036854775807 := by
  obtain ⟨ao, c, _, _, h1, h2, _⟩ := h
  exact ⟨ao, c, h1, h2⟩
theorem ints_len {w : World} {ao : Option Addr} {c n : Nat} {l : List Int} (h : IntsIn w (.slice ao n c) l) : n ≤ 9223372036854775807 ∧ l.length = n := by
  obtain ⟨ao', c', _, _, h1, h2, _⟩ := h
  injection h1 with _ h1 _
  omega

theorem bdrew {B : Nat} {w w' : World} (h : Below B w w') (n : Nat) : Below B w (w'.drewN n) := ⟨h.os, h.tape, h.output, h.size, h.block⟩

set_option maxHeartbeats 2000000 in
theorem same_any (w : World) (av bv : Value) (G H : List (List Int)) (hG : RowsIn w av G) (hH : RowsIn w bv H) : Calls Try.prog 17 #[av, bv] w (SameEnd w (decide (G = H))) := by
  obtain ⟨ga, gc, rfl, hgl⟩ := rows_view hG
  obtain ⟨ha, hc, rfl, hhl⟩ := rows_view hH
  by_cases hlen : G.length = H.length
  · have HL := hid hlen
    have HG := hid hG
    have HH := hid hH
    rw [← hlen] at HH hhl ⊢
    obtain ⟨n, hn⟩ : ∃ n, n = G.length := ⟨_, rfl⟩
    have HN := hid hn
    rw [← hn] at HG HH hgl ⊢
    clear hG hH hlen hhl hn
    go_enter Try.func17, Try.ntmps17
    go_wp2_with fail
    go_loopw [5] (fun iv wr => SameRel w G H iv wr) (fun iv _ => n - (intOf iv).toNat)
    case atStart => exact ⟨0, rfl, Nat.zero_le _, by simp, Below.refl _ _⟩
    case round =>
      obtain ⟨i, rfl, hi, htk, hb⟩ := hrel
      rw [← HN.out] at hi
      have HB := hid hb
      have HTK := hid htk
      by_cases hgo : i < n
      · obtain ⟨l, hl⟩ : ∃ l, G[i]? = some l := ⟨_, List.getElem?_eq_getElem (HN.out ▸ hgo)⟩
        obtain ⟨l2, hl2⟩ : ∃ l2, H[i]? = some l2 := ⟨_, List.getElem?_eq_getElem (by have := HL.out; have := HN.out; omega)⟩
        obtain ⟨b1, o1, lo1, lc1, rfl, c1, r1⟩ := rows_cell (HG.out.below hb) hl
        obtain ⟨b2, o2, lo2, lc2, rfl, c2, r2⟩ := rows_cell (HH.out.below hb) hl2
        have HG1 := hid hl
        have HH2 := hid hl2
        obtain ⟨p, hp⟩ : ∃ p, p = l.length := ⟨_, rfl⟩
        obtain ⟨q, hq⟩ : ∃ q, q = l2.length := ⟨_, rfl⟩
        rw [← hp] at c1 r1
        rw [← hq] at c2 r2
        have hp2 := (ints_len r1).1
        have hq2 := (ints_len r2).1
        have d1 : ∀ m, (wr.drewN m).cell? ⟨b1, o1 + i, none⟩ = some (.slice lo1 p lc1) := fun m => c1
        have d2 : ∀ m, (wr.drewN m).cell? ⟨b2, o2 + i, none⟩ = some (.slice lo2 q lc2) := fun m => c2
        have HR1 := hid r1
        have HR2 := hid r2
        have HP := hid hp
        have HQ := hid hq
        clear hb htk hl hl2 r1 r2 hp hq
        by_cases hpq : p = q
        · subst hpq
          go_wp2_with fail
          go_quiet (fail)
          go_wp2_with fail
          clear c1 c2 d1 d2
          go_loopw [6] (fun jv y => SameIn w l l2 jv y) (fun jv _ => p - (intOf jv).toNat)
          case atStart => exact ⟨0, rfl, Nat.zero_le _, by simp, bdrew HB.out _⟩
          case round =>
            clear HR1 HR2
            obtain ⟨j, rfl, hj, htk, hb⟩ := hrel
            rw [← HP.out] at hj
            have HB3 := hid hb
            have HTK3 := hid htk
            obtain ⟨b1', o1', lo1', lc1', e1, c1, r1⟩ := rows_cell (HG.out.below hb) HG1.out
            obtain ⟨b2', o2', lo2', lc2', e2, c2, r2⟩ := rows_cell (HH.out.below hb) HH2.out
            injection e1 with e1
            injection e1 with e1 e1'
            subst e1 e1'
            injection e2 with e2
            injection e2 with e2 e2'
            subst e2 e2'
            rw [← HP.out] at c1 r1
            rw [← HQ.out] at c2 r2
            by_cases hjp : j < p
            · obtain ⟨x, hx⟩ : ∃ x, l[j]? = some x := ⟨_, List.getElem?_eq_getElem (HP.out ▸ hjp)⟩
              obtain ⟨y, hy⟩ : ∃ y, l2[j]? = some y := ⟨_, List.getElem?_eq_getElem (HQ.out ▸ hjp)⟩
              obtain ⟨b3, o3, rfl, c3, x1, x2⟩ := ints_cell r1 hx
              obtain ⟨b4, o4, rfl, c4, y1, y2⟩ := ints_cell r2 hy
              have k1 : ∀ m, (wr.drewN m).cell? ⟨b1, o1 + i, none⟩ = some (.slice (some ⟨b3, o3, none⟩) p lc1') := fun m => c1
              have k2 : ∀ m, (wr.drewN m).cell? ⟨b2, o2 + i, none⟩ = some (.slice (some ⟨b4, o4, none⟩) p lc2') := fun m => c2
              have k3 : ∀ m, (wr.drewN m).cell? ⟨b3, o3 + j, none⟩ = some (.int .i64 x) := fun m => c3
              have k4 : ∀ m, (wr.drewN m).cell? ⟨b4, o4 + j, none⟩ = some (.int .i64 y) := fun m => c4
              have HX := hid hx
              have HY := hid hy
              clear r1 r2 htk hb hx hy
              by_cases hxy : x = y
              · subst hxy
                have RR := hid (fun m => show SameIn w l l2 (.int .i64 ((j : Int) + 1)) (wr.drewN m) from ⟨j + 1, by simp, by rw [← HP.out]; omega, take_more HTK3.out HX.out HY.out, bdrew HB3.out _⟩)
                go_wp2_with fail
                go_quiet (fail)
                go_wp2_with fail
                go_roundw
                case rel => exact RR.out _
                case measure => simp [intOf]; omega
              · have HE := hid (show decide (G = H) = false from by
                  simp only [decide_eq_false_iff_not]
                  intro e
                  subst e
                  have h1 := HG1.out
                  rw [HH2.out] at h1
                  have := Option.some.inj h1
                  subst this
                  have h2 := HX.out
                  rw [HY.out] at h2
                  exact hxy (Option.some.inj h2).symm)
                go_wp2_with fail
                go_quiet (fail)
                go_wp2_with fail
                go_ret
                exact ⟨ret_bool HE.out.symm, bdrew HB3.out _⟩
            · have RR := hid (show SameRel w G H (.int .i64 ((i : Int) + 1)) wr from ⟨i + 1, by simp, by rw [← HN.out]; omega, by
                have e : l = l2 := by
                  have h1 := htk
                  have e1 := HP.out
                  have e2 := HQ.out
                  rw [List.take_of_length_le (by omega), List.take_of_length_le (by omega)] at h1
                  exact h1
                exact take_more HTK.out HG1.out (e ▸ HH2.out), hb⟩)
              clear r1 r2 htk hb
              go_wp2_with fail
              go_roundw
              case rel => exact RR.out
              case measure => simp [intOf]; omega
        · have HE := hid (show decide (G = H) = false from by
            simp only [decide_eq_false_iff_not]
            intro e
            subst e
            have h1 := HG1.out
            rw [HH2.out] at h1
            have := Option.some.inj h1
            subst this
            exact hpq (HP.out.trans HQ.out.symm))
          have hpq2 : ¬ (p : Int) = (q : Int) := by omega
          go_wp2_with fail
          go_quiet (fail)
          go_wp2_with fail
          go_ret
          exact ⟨ret_bool HE.out.symm, bdrew HB.out _⟩
      · obtain rfl : i = n := by omega
        have HE := hid (show decide (G = H) = true from by
          simp only [decide_eq_true_eq]
          have h1 := HTK.out
          have e1 := HN.out
          have e2 := HL.out
          rw [List.take_of_length_le (by omega), List.take_of_length_le (by omega)] at h1
          exact h1)
        clear hb htk
        go_wp2_with fail
        go_ret
        exact ⟨ret_bool HE.out.symm, HB.out⟩
  · have HE := hid (show decide (G = H) = false from by
      simp only [decide_eq_false_iff_not]
      intro e
      exact hlen (by rw [e]))
    obtain ⟨n, hn⟩ : ∃ n, n = G.length := ⟨_, rfl⟩
    obtain ⟨m, hm⟩ : ∃ m, m = H.length := ⟨_, rfl⟩
    rw [← hn] at hlen hgl ⊢
    rw [← hm] at hlen hhl ⊢
    have hlen2 : ¬ (n : Int) = (m : Int) := by omega
    clear hG hH hn hm
    go_enter Try.func17, Try.ntmps17
    go_wp2_with fail
    go_ret
    exact ⟨ret_bool HE.out.symm, Below.refl _ _⟩

end Go.Proofs.Ytagfgbmaibadjaa
