/- IslandsOrder answers true. -/
import Derived.Test.YtagfgbmaibadjaaIsPosW
import Derived.Test.YtagfgbmaibadjaaIsTimes
import Derived.Outline
namespace Go.Proofs.Ytagfgbmaibadjaa
open Go.RowKit Go.Lib

theorem RowF.below {w w' : World} {b n : Nat} {f : Nat → Int} (h : RowF w b n f) (hb : Below w.heap.size w w') : RowF w' b n f := h.chg (F := []) (Chg.of_below hb) (by simp)
theorem cell_below {w w' : World} {p : Addr} {v : Value} (h : w.cell? p = some v) (hb : Below w.heap.size w w') : w'.cell? p = some v := (hb.cell (World.block_lt_of_cell? _ _ h)).trans h

def UpTo (w : World) (n : Nat) (iv : Value) (wr : World) : Prop := ∃ i : Nat, iv = .int .i64 (i : Int) ∧ i ≤ n ∧ Below w.heap.size w wr
/-- the reads that were found so far -/
def FoundTo (w : World) (g : Gr) (out : List (List Nat)) (m : List Nat) (i : Nat) (bv kv : Value) (wr : World) : Prop :=
  ∃ (b : Bool) (k : Nat), bv = .bool b ∧ kv = .int .i64 (k : Int) ∧ k ≤ m.length ∧ (∀ k' x y, k' < k → m[k']? = some x → y ∈ edges g x → posOf out y = (i : Int) → b = true) ∧ Below w.heap.size w wr
def FoundIn (w : World) (g : Gr) (out : List (List Nat)) (m : List Nat) (i k : Nat) (r : List Nat) (bv tv : Value) (wr : World) : Prop :=
  ∃ (b : Bool) (t : Nat), bv = .bool b ∧ tv = .int .i64 (t : Int) ∧ t ≤ r.length ∧ (∀ k' x y, k' < k → m[k']? = some x → y ∈ edges g x → posOf out y = (i : Int) → b = true) ∧ (∀ t' y, t' < t → r[t']? = some y → posOf out y = (i : Int) → b = true) ∧ Below w.heap.size w wr

set_option maxRecDepth 20000 in
set_option maxHeartbeats 4000000 in
theorem order_any (w : World) (v0 : Value) (L : List (List Nat)) (h : RawIn w v0 L) : Calls Try.prog 5 #[v0] w (HeadEnd w) := by
  have H := hid h
  clear h
  go_enter Try.func5, Try.ntmps5
  go_wp2_with fail
  refine (examples_any w).mono ?_
  rintro e w1 ⟨rfl, hb1⟩
  go_wp2_with fail
  refine (of_any w1 v0 L (H.out.below hb1)).mono ?_
  rintro e w2 ⟨gb, n, hn, rfl, r2, hb2⟩
  have hn60 : n ≤ 60 := by rw [hn]; unfold nodesOf; omega
  have HB12 := hid (hb1.trans (below_low0 hb2 hb1.size))
  have HN := hid hn
  have HR2 := hid r2
  clear hn hb1 hb2 r2
  go_wp2_with fail
  refine (parts_gr HR2.out.rows (ofG_rightG L) (by rw [ofG_length]; unfold nodesOf; omega) (ofG_few L)).mono ?_
  rintro e w5 ⟨v5, out, rfl, ip, r5, hb5⟩
  obtain ⟨a5, c5, rfl, hol⟩ := rows_view r5
  rw [castG_length] at r5 hol ⊢
  obtain ⟨on, hon⟩ : ∃ on, on = out.length := ⟨_, rfl⟩
  rw [← hon] at r5 hol ⊢
  have HON := hid hon
  have HIP := hid ip
  have hgl : n = (ofG L).length := by rw [ofG_length]; exact HN.out
  have HGL := hid hgl
  have hon60 : on ≤ 60 := by have := ip.length; rw [hon]; omega
  have HP := hid (pos_any (n := n) r5 (by omega) (fun l hl x hx => by
    obtain ⟨k, hk⟩ := List.getElem?_of_mem hl
    have := ip.lt hk hx
    omega))
  have HR5 := hid r5
  have HB5 := hid hb5
  clear hon ip r5 hgl hb5
  go_wp2_with fail
  refine HP.out.mono ?_
  rintro e w6 ⟨rfl, hF, hb6⟩
  obtain ⟨fb, hfb⟩ : ∃ fb, fb = w5.heap.size := ⟨_, rfl⟩
  rw [← hfb] at hF ⊢
  have HF := hid hF
  have HG6 := hid ((HR2.out.rows.below HB5.out).below hb6)
  have HP6 := hid (HR5.out.below hb6)
  have HB6 := hid (HB12.out.trans (below_low0 (HB5.out.trans (below_low0 hb6 HB5.out.size)) HB12.out.size))
  clear hF hfb hb6 HP HR2 HR5 HB5 HB12
  go_wp2_with fail
  go_loopw [8] (fun iv y => UpTo w6 n iv y) (fun iv _ => n - (intOf iv).toNat)
  case atStart => exact ⟨0, rfl, by omega, Below.refl _ _⟩
  case round =>
    obtain ⟨i, rfl, hi, hb⟩ := hrel
    by_cases hgo : i < n
    · obtain ⟨b1, o1, lo, lc, e1, hcl, hil⟩ := rows_cell HG6.out (ofG_row (L := L) (i := i) (HN.out ▸ hgo))
      injection e1 with e1
      injection e1 with e1 e1'
      subst e1 e1'
      rw [Nat.zero_add, List.length_map] at hcl
      rw [List.length_map] at hil
      obtain ⟨rn, hrn⟩ : ∃ rn, rn = (rowOf L i).length := ⟨_, rfl⟩
      rw [← hrn] at hcl hil
      have HRN := hid hrn
      have hrn8 : rn ≤ 8 := by rw [hrn]; exact rowOf_length L i
      have HIL := hid hil
      have HCL := hid hcl
      have HB := hid hb
      clear hb hrn hil hcl
      go_wp2_with fail
      go_loopw [9] (fun kv y => UpTo w6 rn kv y) (fun kv _ => rn - (intOf kv).toNat)
      case atStart => exact ⟨0, rfl, by omega, HB.out⟩
      case round =>
        clear HB
        obtain ⟨k, rfl, hk, hb⟩ := hrel
        have c1 := cell_below HCL.out hb
        by_cases hkn : k < rn
        · obtain ⟨x, hx⟩ : ∃ x, (rowOf L i)[k]? = some x := ⟨_, List.getElem?_eq_getElem (by have := HRN.out; omega)⟩
          obtain ⟨b2, o2, rfl, c2w, x1, x2⟩ := ints_cell HIL.out (i := k) (x := (x : Int)) (by rw [List.getElem?_map, hx]; rfl)
          have he : edge (ofG L) i x := by
            unfold edge
            rw [ofG_edges, if_pos (HN.out ▸ hgo)]
            exact List.mem_of_getElem? hx
          have hxn : x < n := by have := ofG_rightG L i x he; have := HGL.out; omega
          have hle := HIP.out.pos_le (ofG_rightG L) he
          have f1 := (HF.out.below hb).get hxn
          have f2 := (HF.out.below hb).get hgo
          obtain ⟨a, ha⟩ : ∃ a, a = posOf out x := ⟨_, rfl⟩
          obtain ⟨b, hb'⟩ : ∃ b, b = posOf out i := ⟨_, rfl⟩
          rw [← ha, ← hb'] at hle
          rw [← ha] at f1
          rw [← hb'] at f2
          have d1 : ∀ m, (wr.drewN m).cell? ⟨gb, i, none⟩ = some (.slice (some ⟨b2, o2, none⟩) rn lc) := fun m => c1
          have d2 : ∀ m, (wr.drewN m).cell? ⟨b2, o2 + k, none⟩ = some (.int .i64 (x : Int)) := fun m => cell_below c2w (bdrew hb m)
          have d3 : ∀ m, (wr.drewN m).cell? ⟨fb, x, none⟩ = some (.int .i64 a) := fun m => f1
          have d4 : ∀ m, (wr.drewN m).cell? ⟨fb, i, none⟩ = some (.int .i64 b) := fun m => f2
          have hnot : (b < a) = False := by rw [eq_iff_iff, iff_false]; omega
          have RR := hid (fun m => show UpTo w6 rn (.int .i64 ((k : Int) + 1)) (wr.drewN m) from ⟨k + 1, by simp, by omega, bdrew hb _⟩)
          clear hb hx he c2w ha hb' f1 f2
          go_wp2_with fail
          go_quiet (fail)
          go_wp2_with fail
          go_roundw
          case rel => exact RR.out _
          case measure => simp [intOf]; omega
        · have RR := hid (show UpTo w6 n (.int .i64 ((i : Int) + 1)) wr from ⟨i + 1, by simp, by omega, hb⟩)
          clear hb
          go_wp2_with fail
          go_roundw
          case rel => exact RR.out
          case measure => simp [intOf]; omega
    · have HB := hid hb
      clear hb
      go_wp2_with fail
      go_loopw [10] (fun iv y => UpTo w6 on iv y) (fun iv _ => on - (intOf iv).toNat)
      case atStart => exact ⟨0, rfl, by omega, HB.out⟩
      case round =>
        clear HB
        obtain ⟨i, rfl, hi, hb⟩ := hrel
        by_cases hio : i + 1 < on
        · obtain ⟨q, l, hql⟩ : ∃ q l, out[i]? = some (q :: l) := by
            obtain ⟨q, t, e, _⟩ := HIP.out.first (List.getElem?_eq_getElem (show i < out.length by have := HON.out; omega))
            exact ⟨q, t, by rw [List.getElem?_eq_getElem (show i < out.length by have := HON.out; omega), e]⟩
          obtain ⟨p, m, hpm⟩ : ∃ p m, out[i + 1]? = some (p :: m) := by
            obtain ⟨q, t, e, _⟩ := HIP.out.first (List.getElem?_eq_getElem (show i + 1 < out.length by have := HON.out; omega))
            exact ⟨q, t, by rw [List.getElem?_eq_getElem (show i + 1 < out.length by have := HON.out; omega), e]⟩
          obtain ⟨ab, aoff, lo1, lc1, rfl, k1, i1⟩ := rows_cell HP6.out (castG_row hql)
          obtain ⟨ab', aoff', lo2, lc2, e2, k2, i2⟩ := rows_cell HP6.out (castG_row hpm)
          injection e2 with e2
          injection e2 with e2 e2'
          subst e2 e2'
          obtain ⟨b7, o7, rfl, k3, q1, q2⟩ := ints_cell i1 (i := 0) (x := (q : Int)) rfl
          obtain ⟨b8, o8, rfl, k4, p1, p2⟩ := ints_cell i2 (i := 0) (x := (p : Int)) rfl
          rw [Nat.add_zero] at k3 k4
          obtain ⟨la, hla⟩ : ∃ la, la = (q :: l).length := ⟨_, rfl⟩
          obtain ⟨lb, hlb⟩ : ∃ lb, lb = (p :: m).length := ⟨_, rfl⟩
          rw [List.length_map, ← hla] at k1 i1
          rw [List.length_map, ← hlb] at k2 i2
          have hla1 : 0 < la := by rw [hla]; simp
          have hlb1 : 0 < lb := by rw [hlb]; simp
          have hla2 := (ints_len i1).1
          have hlb2 := (ints_len i2).1
          have HLB := hid hlb
          have HQL := hid hql
          have HPM := hid hpm
          have HI2 := hid i2
          have HK2 := hid k2
          have d1 : ∀ m, (wr.drewN m).cell? ⟨ab, aoff + i, none⟩ = some (.slice (some ⟨b7, o7, none⟩) la lc1) := fun m => cell_below k1 (bdrew hb m)
          have d2 : ∀ m, (wr.drewN m).cell? ⟨ab, aoff + (i + 1), none⟩ = some (.slice (some ⟨b8, o8, none⟩) lb lc2) := fun m => cell_below k2 (bdrew hb m)
          have d3 : ∀ m, (wr.drewN m).cell? ⟨b7, o7, none⟩ = some (.int .i64 (q : Int)) := fun m => cell_below k3 (bdrew hb m)
          have d4 : ∀ m, (wr.drewN m).cell? ⟨b8, o8, none⟩ = some (.int .i64 (p : Int)) := fun m => cell_below k4 (bdrew hb m)
          have RC := hid (fun s => show UpTo w6 on (.int .i64 ((i : Int) + 1)) (wr.drewN s) from ⟨i + 1, by simp, by omega, bdrew hb _⟩)
          have HB := hid hb
          clear hb k1 k2 k3 k4 i1 i2 hla hlb hql hpm
          by_cases hqp : q < p
          · have hd : (q < p) = True := by rw [eq_iff_iff, iff_true]; exact hqp
            go_wp2_with fail
            go_quiet (fail)
            go_wp2_with fail
            go_roundw
            case rel => exact RC.out _
            case measure => simp [intOf]; omega
          · have hd : (q < p) = False := by rw [eq_iff_iff, iff_false]; exact hqp
            have HQP := hid hqp
            clear hqp
            go_wp2_with fail
            go_quiet (fail)
            go_wp2_with fail
            clear d1 d2 d3 d4 hd
            go_loopw [11, 12] (fun bv kv y => FoundTo w6 (ofG L) out (p :: m) i bv kv y) (fun _ kv _ => lb - (intOf kv).toNat)
            case atStart => exact ⟨false, 0, rfl, rfl, Nat.zero_le _, fun k' x y hk' => by omega, bdrew HB.out _⟩
            case round =>
              clear HB RC
              obtain ⟨b, k, rfl, rfl, hk, hfound, hb⟩ := hrel
              rw [← HLB.out] at hk
              have c2 := cell_below HK2.out hb
              by_cases hkl : k < lb
              · obtain ⟨x, hx⟩ : ∃ x, (p :: m)[k]? = some x := ⟨_, List.getElem?_eq_getElem (HLB.out ▸ hkl)⟩
                obtain ⟨b8', o8', e8, c3w, x1, x2⟩ := ints_cell HI2.out (i := k) (x := (x : Int)) (by rw [List.getElem?_map, hx]; rfl)
                injection e8 with e8
                injection e8 with e8 e8'
                subst e8 e8'
                have c3 := cell_below c3w hb
                have hxn : x < n := by have := HIP.out.lt HPM.out (List.mem_of_getElem? hx); have := HGL.out; omega
                obtain ⟨b1, o1, lo, lc, e1, hcl, hil⟩ := rows_cell HG6.out (ofG_row (L := L) (i := x) (HN.out ▸ hxn))
                injection e1 with e1
                injection e1 with e1 e1'
                subst e1 e1'
                rw [Nat.zero_add, List.length_map] at hcl
                rw [List.length_map] at hil
                obtain ⟨rn, hrn⟩ : ∃ rn, rn = (rowOf L x).length := ⟨_, rfl⟩
                rw [← hrn] at hcl hil
                have HRN := hid hrn
                have hrn8 : rn ≤ 8 := by rw [hrn]; exact rowOf_length L x
                have HIL := hid hil
                have HCL := hid hcl
                have HX := hid hx
                have HC3 := hid c3w
                have RI := hid (show FoundIn w6 (ofG L) out (p :: m) i k (rowOf L x) (.bool b) (.int .i64 0) wr from ⟨b, 0, rfl, rfl, Nat.zero_le _, hfound, fun t' y ht' => by omega, hb⟩)
                clear hb hfound hrn hil hcl hx c3w
                go_wp2_with fail
                clear c2 c3
                go_loopw [11, 13] (fun bv tv y => FoundIn w6 (ofG L) out (p :: m) i k (rowOf L x) bv tv y) (fun _ tv _ => rn - (intOf tv).toNat)
                case atStart => exact RI.out
                case round =>
                  clear RI
                  obtain ⟨b, t, rfl, rfl, ht, hfound, hin, hb⟩ := hrel
                  rw [← HRN.out] at ht
                  have c2 := cell_below HK2.out hb
                  have c3 := cell_below HC3.out hb
                  have c4 := cell_below HCL.out hb
                  by_cases htn : t < rn
                  · obtain ⟨y, hy⟩ : ∃ y, (rowOf L x)[t]? = some y := ⟨_, List.getElem?_eq_getElem (by have := HRN.out; omega)⟩
                    obtain ⟨b9, o9, rfl, c5w, y1, y2⟩ := ints_cell HIL.out (i := t) (x := (y : Int)) (by rw [List.getElem?_map, hy]; rfl)
                    have c5' := cell_below c5w hb
                    have he : edge (ofG L) x y := by
                      unfold edge
                      rw [ofG_edges, if_pos (HN.out ▸ hxn)]
                      exact List.mem_of_getElem? hy
                    have hyn : y < n := by have := ofG_rightG L x y he; have := HGL.out; omega
                    have f1 := (HF.out.below hb).get hyn
                    obtain ⟨a, ha⟩ : ∃ a, a = posOf out y := ⟨_, rfl⟩
                    rw [← ha] at f1
                    have step : ∀ b', (b = true → b' = true) → (a = (i : Int) → b' = true) → FoundIn w6 (ofG L) out (p :: m) i k (rowOf L x) (.bool b') (.int .i64 ((t : Int) + 1)) wr := fun b' g1 g2 =>
                      ⟨b', t + 1, rfl, by simp, by have := HRN.out; omega, fun k' x' y' z1 z2 z3 z4 => g1 (hfound k' x' y' z1 z2 z3 z4), fun t' y' z1 z2 z3 => by
                        by_cases e : t' = t
                        · subst e
                          rw [hy] at z2
                          have := Option.some.inj z2
                          subst this
                          exact g2 (ha.trans z3)
                        · exact g1 (hin t' y' (by omega) z2 z3), hb⟩
                    have ST := hid step
                    clear hb hy he c5w ha hfound hin step
                    cases b with
                    | true =>
                      have RR := hid (ST.out true (fun _ => rfl) (fun _ => rfl))
                      go_wp2_with fail
                      go_roundw
                      case rel => exact RR.out
                      case measure => simp [intOf]; omega
                    | false =>
                      by_cases hai : a = (i : Int)
                      · have RR := hid (ST.out true (fun _ => rfl) (fun _ => rfl))
                        subst hai
                        go_wp2_with fail
                        go_roundw
                        case rel => exact RR.out
                        case measure => simp [intOf]; omega
                      · have RR := hid (ST.out false (fun h => h) (fun h => (hai h).elim))
                        have HE := hid (show (a == (i : Int)) = false by simpa using hai)
                        go_wp2_with fail
                        go_roundw
                        case rel => rw [HE.out]; exact RR.out
                        case measure => simp [intOf]; omega
                  · have RR := hid (show FoundTo w6 (ofG L) out (p :: m) i (.bool b) (.int .i64 ((k : Int) + 1)) wr from ⟨b, k + 1, rfl, by simp, by have := HLB.out; omega, fun k' x' y' z1 z2 z3 z4 => by
                      by_cases e : k' = k
                      · subst e
                        rw [HX.out] at z2
                        have := Option.some.inj z2
                        subst this
                        rw [ofG_edges, if_pos (HN.out ▸ hxn)] at z3
                        obtain ⟨t', ht'⟩ := List.getElem?_of_mem z3
                        have := (List.getElem?_eq_some_iff.1 ht').1
                        exact hin t' y' (by have := HRN.out; omega) ht' z4
                      · exact hfound k' x' y' (by omega) z2 z3 z4, hb⟩)
                    clear hb hfound hin
                    go_wp2_with fail
                    go_roundw
                    case rel => exact RR.out
                    case measure => simp [intOf]; omega
              · have hbt : b = true := by
                  obtain ⟨x, y, h1, h2, h3⟩ := HIP.out.reads (ofG_rightG L) HQL.out HPM.out HQP.out
                  obtain ⟨k', hk'⟩ := List.getElem?_of_mem h1
                  have := (List.getElem?_eq_some_iff.1 hk').1
                  exact hfound k' x y (by have := HLB.out; omega) hk' h2 (HIP.out.pos HQL.out h3)
                subst hbt
                have RR := hid (show UpTo w6 on (.int .i64 ((i : Int) + 1)) wr from ⟨i + 1, by simp, by omega, hb⟩)
                clear hb hfound
                go_wp2_with fail
                go_roundw
                case rel => exact RR.out
                case measure => simp [intOf]; omega
        · have HEND := hid (HB6.out.trans (below_low0 hb HB6.out.size))
          have hio2 : ¬ ((i : Int) + 1 < (on : Int)) := by omega
          clear hb
          go_wp2_with fail
          go_ret
          exact ⟨rfl, HEND.out⟩

end Go.Proofs.Ytagfgbmaibadjaa
