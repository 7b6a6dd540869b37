/- IslandsApart answers true. -/
import Derived.Test.YtagfgbmaibadjaaIsApartP
import Derived.Test.YtagfgbmaibadjaaIsOrderL
import Derived.Deep.RegionHeldLaw
namespace Go.Proofs.Ytagfgbmaibadjaa
open Go.RowKit Go.Lib

def SumRel (w : World) (out : List (List Nat)) (sv iv : Value) (wr : World) : Prop := ∃ (i : Nat), sv = .int .i64 (sumTo out i : Int) ∧ iv = .int .i64 (i : Int) ∧ i ≤ out.length ∧ Below w.heap.size w wr

set_option maxRecDepth 20000 in
set_option maxHeartbeats 8000000 in
theorem apart_any (w : World) (v0 : Value) (L : List (List Nat)) (h : RawIn w v0 L) : Calls Try.prog 4 #[v0] w (HeadEnd w) := by
  have H := hid h
  clear h
  go_enter Try.func4, Try.ntmps4
  go_wp2_with fail
  refine (examples_any w).mono ?_
  rintro e w1 ⟨rfl, hb1⟩
  go_wp2_with fail
  refine (of_any w1 v0 L (H.out.below hb1)).mono ?_
  rintro e w2 ⟨gb, n, hn, rfl, r2, hb2⟩
  have hn60 : n ≤ 60 := by rw [hn]; unfold nodesOf; omega
  have HB12 := hid (hb1.trans (below_low0 hb2 hb1.size))
  have HN := hid hn
  have HR2 := hid r2
  clear hn hb1 hb2 r2
  go_wp2_with fail
  refine (parts_gr HR2.out.rows (ofG_rightG L) (by rw [ofG_length]; unfold nodesOf; omega) (ofG_few L)).mono ?_
  rintro e w5 ⟨v5, out, rfl, ip, r5, hb5⟩
  obtain ⟨a5, c5, rfl, hol⟩ := rows_view r5
  rw [castG_length] at r5 hol ⊢
  obtain ⟨on, hon⟩ : ∃ on, on = out.length := ⟨_, rfl⟩
  rw [← hon] at r5 hol ⊢
  have HON := hid hon
  have HIP := hid ip
  have hgl : n = (ofG L).length := by rw [ofG_length]; exact HN.out
  have HGL := hid hgl
  have hon60 : on ≤ 60 := by have := ip.length; rw [hon]; omega
  have HLT := hid (show ∀ l ∈ out, ∀ x ∈ l, x < n from fun l hl x hx => by
    obtain ⟨k, hk⟩ := List.getElem?_of_mem hl
    have := ip.lt hk hx
    omega)
  have HR5 := hid r5
  have HB5 := hid hb5
  have H8 := hid (show ∀ i, (edges (ofG L) i).length ≤ 8 from fun i => by
    rw [ofG_edges]
    split
    · exact rowOf_length L i
    · simp)
  clear hon ip r5 hgl hb5
  go_wp2_with fail
  refine (leads_any (HR2.out.below HB5.out) HGL.out (by omega) (ofG_rightG L) H8.out).mono ?_
  rintro e w6 ⟨rb, rfl, rx, rbs, hb6⟩
  obtain ⟨tb, htb⟩ : ∃ tb, tb = w5.heap.size := ⟨_, rfl⟩
  rw [← htb] at rx ⊢
  have HRX := hid rx
  have HRB := hid rbs
  have HB6 := hid hb6
  clear rx rbs hb6 htb
  go_wp2_with fail
  refine (pos_any (n := n) (HR5.out.below HB6.out) (by omega) HLT.out).mono ?_
  rintro e w7 ⟨rfl, hF, hb7⟩
  obtain ⟨fb, hfb⟩ : ∃ fb, fb = w6.heap.size := ⟨_, rfl⟩
  rw [← hfb] at hF ⊢
  have HF := hid hF
  have HG6 := hid (((HR2.out.rows.below HB5.out).below HB6.out).below hb7)
  have HP6 := hid ((HR5.out.below HB6.out).below hb7)
  have HX7 := hid (HRX.out.below hb7)
  have HB7 := hid (fun p hp => (HRB.out p hp).below hb7)
  have HBW := hid (HB12.out.trans (below_low0 (HB5.out.trans (below_low0 (HB6.out.trans (below_low0 hb7 HB6.out.size)) HB5.out.size)) HB12.out.size))
  clear hF hfb hb7 HRX HRB HB6 HB5 HB12 HR2 HR5 H8 H
  have h00 : sumTo out 0 = 0 := by simp [sumTo]
  have HSUM := hid (show sumTo out on = n from by rw [HON.out, HIP.out.sum]; exact HGL.out.symm)
  have HSLE := hid (show ∀ i, sumTo out i ≤ 60 from fun i => by
    have h1 := sumTo_le out i
    rw [HIP.out.sum] at h1
    have := HGL.out
    omega)
  go_wp2_with fail
  go_loopw [9, 10] (fun sv iv y => SumRel w7 out sv iv y) (fun _ iv _ => on - (intOf iv).toNat)
  case atStart => exact ⟨0, by rw [h00]; rfl, rfl, Nat.zero_le _, Below.refl _ _⟩
  case round =>
    clear h00
    obtain ⟨i, rfl, rfl, hi, hb⟩ := hrel
    rw [← HON.out] at hi
    by_cases hio : i < on
    · obtain ⟨q, l, hql⟩ : ∃ q l, out[i]? = some (q :: l) := by
        obtain ⟨q, t, e, _⟩ := HIP.out.first (List.getElem?_eq_getElem (show i < out.length by have := HON.out; omega))
        exact ⟨q, t, by rw [List.getElem?_eq_getElem (show i < out.length by have := HON.out; omega), e]⟩
      obtain ⟨ab, aoff, lo1, lc1, rfl, k1, i1⟩ := rows_cell HP6.out (castG_row hql)
      obtain ⟨b7, o7, rfl, k3, q1, q2⟩ := ints_cell i1 (i := 0) (x := (q : Int)) rfl
      rw [Nat.add_zero] at k3
      obtain ⟨la, hla⟩ : ∃ la, la = (q :: l).length := ⟨_, rfl⟩
      rw [List.length_map, ← hla] at k1 i1
      have hla1 : 0 < la := by rw [hla]; simp
      have hla2 := (ints_len i1).1
      have hstep := sumTo_step hql
      rw [← hla] at hstep
      have s1 := HSLE.out i
      have s2 := HSLE.out (i + 1)
      obtain ⟨sa, hsa⟩ : ∃ sa, sa = sumTo out i := ⟨_, rfl⟩
      obtain ⟨sb, hsb⟩ : ∃ sb, sb = sumTo out (i + 1) := ⟨_, rfl⟩
      rw [← hsa] at s1 hstep ⊢
      rw [← hsb] at s2 hstep
      have hsum : (sa : Int) + (la : Int) = (sb : Int) := by omega
      have HSB := hid hsb
      have HLA := hid hla
      have HQL := hid hql
      have HI1 := hid i1
      have HK1 := hid k1
      have HK3 := hid k3
      have HB := hid hb
      have c1 := cell_below HK1.out hb
      have hqn : q < n := HLT.out _ (List.mem_of_getElem? hql) q (by simp)
      clear hb k1 k3 i1 hla hql hstep hsa hsb
      go_wp2_with fail
      clear c1
      go_loopw [11] (fun kv y => UpTo w7 la kv y) (fun kv _ => la - (intOf kv).toNat)
      case atStart => exact ⟨0, rfl, by omega, HB.out⟩
      case round =>
        clear HB
        obtain ⟨k, rfl, hk, hb⟩ := hrel
        have c1 := cell_below HK1.out hb
        by_cases hkl : k < la
        · obtain ⟨x, hx⟩ : ∃ x, (q :: l)[k]? = some x := ⟨_, List.getElem?_eq_getElem (HLA.out ▸ hkl)⟩
          obtain ⟨b8, o8, e8, c2w, x1, x2⟩ := ints_cell HI1.out (i := k) (x := (x : Int)) (by rw [List.getElem?_map, hx]; rfl)
          injection e8 with e8
          injection e8 with e8 e8'
          subst e8 e8'
          have d1 : ∀ m, (wr.drewN m).cell? ⟨ab, aoff + i, none⟩ = some (.slice (some ⟨b7, o7, none⟩) la lc1) := fun m => c1
          have d2 : ∀ m, (wr.drewN m).cell? ⟨b7, o7 + k, none⟩ = some (.int .i64 (x : Int)) := fun m => cell_below c2w (bdrew hb m)
          have RR := hid (fun m => show UpTo w7 la (.int .i64 ((k : Int) + 1)) (wr.drewN m) from ⟨k + 1, by simp, by omega, bdrew hb _⟩)
          by_cases hk0 : k = 0
          · subst hk0
            clear hb c2w hx
            go_wp2_with fail
            go_quiet (fail)
            go_wp2_with fail
            go_roundw
            case rel => exact RR.out _
            case measure => simp [intOf]; omega
          · obtain ⟨k1, rfl⟩ : ∃ k1, k = k1 + 1 := ⟨k - 1, by omega⟩
            obtain ⟨y, hy⟩ : ∃ y, (q :: l)[k1]? = some y := ⟨_, List.getElem?_eq_getElem (by have := HLA.out; omega)⟩
            obtain ⟨b9, o9, e9, c3w, y1, y2⟩ := ints_cell HI1.out (i := k1) (x := (y : Int)) (by rw [List.getElem?_map, hy]; rfl)
            injection e9 with e9
            injection e9 with e9 e9'
            subst e9 e9'
            have d3 : ∀ m, (wr.drewN m).cell? ⟨b7, o7 + k1, none⟩ = some (.int .i64 (y : Int)) := fun m => cell_below c3w (bdrew hb m)
            have hxy := HIP.out.asc HQL.out hy hx
            have hd : (x ≤ y) = False := by rw [eq_iff_iff, iff_false]; omega
            clear hb c2w c3w hx hy
            go_wp2_with fail
            go_quiet (fail)
            go_wp2_with fail
            go_roundw
            case rel => exact RR.out _
            case measure => simp [intOf]; omega
        · have HB := hid hb
          clear hb
          have k3' := cell_below HK3.out HB.out
          have HCIR := hid (HIP.out.circle (ofG_rightG L) (by have := HGL.out; omega) HQL.out)
          have g1 := cell_of (HX7.out.below HB.out) (show (((List.range n).map fun p => Value.slice (some ⟨rb p, 0, none⟩) n n).toArray)[q]? = some (.slice (some ⟨rb q, 0, none⟩) n n) by simp [hqn])
          have g2 := ((HB7.out q hqn).below HB.out).get hqn
          obtain ⟨rq, hrq⟩ : ∃ rq, rq = reachB (ofG L) q q := ⟨_, rfl⟩
          rw [← hrq] at g2
          have HRQ := hid hrq
          have HLOOP := hid (fun (y : World) (hy : Below w7.heap.size w7 y) => loop_is (b := rq) (HG6.out.below hy) (HI1.out.below hy) (HCIR.out.trans HRQ.out.symm))
          have hS : wr.cell? ⟨ab, aoff + i, none⟩ = some (.slice (some ⟨b7, o7, none⟩) la lc1) ∧ wr.cell? ⟨b7, o7, none⟩ = some (.int .i64 (q : Int)) ∧ wr.cell? ⟨tb, q, none⟩ = some (.slice (some ⟨rb q, 0, none⟩) n n) ∧ wr.cell? ⟨rb q, q, none⟩ = some (.bool rq) := ⟨c1, k3', g1, g2⟩
          have HK := hid (fun (y : World) (hy : Below wr.drew.heap.size wr.drew y) => And.intro (cell_below (w := wr.drew) c1 hy) (And.intro (cell_below (w := wr.drew) k3' hy) (And.intro (cell_below (w := wr.drew) g1 hy) (cell_below (w := wr.drew) g2 hy))))
          have hz1 : (la = 0) = False := by rw [eq_iff_iff, iff_false]; omega
          have hz2 : ((la : Int) = 0) = False := by rw [eq_iff_iff, iff_false]; omega
          have hz3 : ((la : Int) == 0) = false := by simp; omega
          have RR := hid (fun (y : World) (hy : Below wr.drew.heap.size wr.drew y) => show SumRel w7 out (.int .i64 (sb : Int)) (.int .i64 ((i : Int) + 1)) y from ⟨i + 1, by rw [HSB.out], by simp, by have := HON.out; omega, (bdrew HB.out 1).trans (below_low0 hy HB.out.size)⟩)
          clear hrq
          go_wp2_with fail
          go_region_held_law (fun y => y.cell? ⟨ab, aoff + i, none⟩ = some (.slice (some ⟨b7, o7, none⟩) la lc1) ∧ y.cell? ⟨b7, o7, none⟩ = some (.int .i64 (q : Int)) ∧ y.cell? ⟨tb, q, none⟩ = some (.slice (some ⟨rb q, 0, none⟩) n n) ∧ y.cell? ⟨rb q, q, none⟩ = some (.bool rq)) (first | go_keep | exact HK.out _ hbw) ((go_at_call 15; refine (HLOOP.out wr.drew (bdrew HB.out 1)).mono ?_; rintro e w9 ⟨rfl, hbw⟩))
          have R2 := hid (RR.out _ hbw)
          clear hbw RR HK HLOOP
          go_wp2_with fail
          go_roundw
          case rel => exact R2.out
          case measure => simp [intOf]; omega
    · have hion : i = on := by omega
      have HB := hid hb
      have hsn : sumTo out i = n := by rw [hion]; exact HSUM.out
      rw [hsn]
      clear hb hsn hion
      go_wp2_with fail
      go_loopw [12] (fun iv y => UpTo w7 n iv y) (fun iv _ => n - (intOf iv).toNat)
      case atStart => exact ⟨0, rfl, by omega, HB.out⟩
      case round =>
        clear HB
        obtain ⟨p, rfl, hp, hb⟩ := hrel
        by_cases hpn : p < n
        · have HB := hid hb
          clear hb
          go_wp2_with fail
          go_loopw [13] (fun iv y => UpTo w7 n iv y) (fun iv _ => n - (intOf iv).toNat)
          case atStart => exact ⟨0, rfl, by omega, HB.out⟩
          case round =>
            clear HB
            obtain ⟨k, rfl, hk, hb⟩ := hrel
            by_cases hkn : k < n
            · have f1 := (HF.out.below hb).get hpn
              have f2 := (HF.out.below hb).get hkn
              have g1 := cell_of (HX7.out.below hb) (show (((List.range n).map fun p => Value.slice (some ⟨rb p, 0, none⟩) n n).toArray)[p]? = some (.slice (some ⟨rb p, 0, none⟩) n n) by simp [hpn])
              have g2 := cell_of (HX7.out.below hb) (show (((List.range n).map fun p => Value.slice (some ⟨rb p, 0, none⟩) n n).toArray)[k]? = some (.slice (some ⟨rb k, 0, none⟩) n n) by simp [hkn])
              have g3 := ((HB7.out p hpn).below hb).get hkn
              have g4 := ((HB7.out k hkn).below hb).get hpn
              have hps : p ≠ k → (posOf out p = posOf out k ↔ reachB (ofG L) p k = true ∧ reachB (ofG L) k p = true) := fun hne => by
                rw [reachB_iff, reachB_iff]
                exact HIP.out.pos_same (by have := HGL.out; omega) (by have := HGL.out; omega) hne
              obtain ⟨kp, lp, _, _, hkp⟩ := HIP.out.pos_has (x := p) (by have := HGL.out; omega)
              obtain ⟨a, ha⟩ : ∃ a, a = posOf out p := ⟨_, rfl⟩
              obtain ⟨b, hb'⟩ : ∃ b, b = posOf out k := ⟨_, rfl⟩
              obtain ⟨r, hr⟩ : ∃ r, r = reachB (ofG L) p k := ⟨_, rfl⟩
              obtain ⟨s, hs⟩ : ∃ s, s = reachB (ofG L) k p := ⟨_, rfl⟩
              have ha0 : 0 ≤ a := by omega
              rw [← ha, ← hb', ← hr, ← hs] at hps
              rw [← ha] at f1
              rw [← hb'] at f2
              rw [← hr] at g3
              rw [← hs] at g4
              have d1 : ∀ m, (wr.drewN m).cell? ⟨fb, p, none⟩ = some (.int .i64 a) := fun m => f1
              have d2 : ∀ m, (wr.drewN m).cell? ⟨fb, k, none⟩ = some (.int .i64 b) := fun m => f2
              have d3 : ∀ m, (wr.drewN m).cell? ⟨tb, p, none⟩ = some (.slice (some ⟨rb p, 0, none⟩) n n) := fun m => g1
              have d4 : ∀ m, (wr.drewN m).cell? ⟨tb, k, none⟩ = some (.slice (some ⟨rb k, 0, none⟩) n n) := fun m => g2
              have RR := hid (fun m => show UpTo w7 n (.int .i64 ((k : Int) + 1)) (wr.drewN m) from ⟨k + 1, by simp, by omega, bdrew hb _⟩)
              have hneg : (a < 0) = False := by rw [eq_iff_iff, iff_false]; omega
              have HPS := hid hps
              clear hb ha hb' hr hs hkp hps f1 f2 g1 g2
              by_cases hpk : p = k
              · subst hpk
                clear g3 g4
                go_wp2_with fail
                go_quiet (fail)
                go_wp2_with fail
                go_roundw
                case rel => exact RR.out _
                case measure => simp [intOf]; omega
              · have hpk2 : ¬ (p : Int) = (k : Int) := by omega
                have hpk3 : ((p : Int) != (k : Int)) = true := by simp; omega
                have hpk4 : (p != k) = true := by simp; omega
                by_cases hab : a = b
                · obtain ⟨rfl, rfl⟩ := (HPS.out hpk).1 hab
                  have d5 : ∀ m, (wr.drewN m).cell? ⟨rb p, k, none⟩ = some (.bool true) := fun m => g3
                  have d6 : ∀ m, (wr.drewN m).cell? ⟨rb k, p, none⟩ = some (.bool true) := fun m => g4
                  have he1 : (a == b) = true := by simpa using hab
                  have he2 : (a = b) = True := by rw [eq_iff_iff, iff_true]; exact hab
                  clear g3 g4 hab
                  go_wp2_with fail
                  go_quiet (fail)
                  go_wp2_with fail
                  go_roundw
                  case rel => exact RR.out _
                  case measure => simp [intOf]; omega
                · have hno := fun hh => hab ((HPS.out hpk).2 hh)
                  have HNO := hid hno
                  have he1 : (a == b) = false := by simpa using hab
                  have he2 : (a = b) = False := by rw [eq_iff_iff, iff_false]; exact hab
                  clear hno hab
                  cases r with
                  | false =>
                    have d5 : ∀ m, (wr.drewN m).cell? ⟨rb p, k, none⟩ = some (.bool false) := fun m => g3
                    clear g3 g4
                    go_wp2_with fail
                    go_quiet (fail)
                    go_wp2_with fail
                    go_roundw
                    case rel => exact RR.out _
                    case measure => simp [intOf]; omega
                  | true =>
                    cases s with
                    | true => exact (HNO.out ⟨rfl, rfl⟩).elim
                    | false =>
                      have d5 : ∀ m, (wr.drewN m).cell? ⟨rb p, k, none⟩ = some (.bool true) := fun m => g3
                      have d6 : ∀ m, (wr.drewN m).cell? ⟨rb k, p, none⟩ = some (.bool false) := fun m => g4
                      clear g3 g4
                      go_wp2_with fail
                      go_quiet (fail)
                      go_wp2_with fail
                      go_roundw
                      case rel => exact RR.out _
                      case measure => simp [intOf]; omega
            · have RR := hid (show UpTo w7 n (.int .i64 ((p : Int) + 1)) wr from ⟨p + 1, by simp, by omega, hb⟩)
              clear hb
              go_wp2_with fail
              go_roundw
              case rel => exact RR.out
              case measure => simp [intOf]; omega
        · have HEND := hid (HBW.out.trans (below_low0 hb HBW.out.size))
          clear hb
          go_wp2_with fail
          go_ret
          exact ⟨rfl, HEND.out⟩

end Go.Proofs.Ytagfgbmaibadjaa
