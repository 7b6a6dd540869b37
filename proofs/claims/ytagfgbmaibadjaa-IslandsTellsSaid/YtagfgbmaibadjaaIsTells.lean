/- IslandsTells answers true. -/
import Derived.Test.YtagfgbmaibadjaaIsFew
import Derived.Test.YtagfgbmaibadjaaIsOf
import Derived.Deep.RegionHeld3
namespace Go.Proofs.Ytagfgbmaibadjaa
open Go.RowKit Go.Lib

def TlRel (W : World) (n : Nat) (iv : Value) (wr : World) : Prop := ∃ i : Nat, iv = .int .i64 (i : Int) ∧ i ≤ n ∧ Below W.heap.size W wr

theorem loop_as {w : World} {gv pv : Value} {G : List (List Int)} {part : List Int} {b : Bool} (h : RowsIn w gv G) (hp : IntsIn w pv part) (e : loopB G part = b) : Calls Try.prog 15 #[gv, pv] w (LoopEnd w b) := by
  rw [← e]; exact loop_any w gv pv G part h hp
theorem rloop_as {w : World} {gv pv : Value} {G : List (List Int)} {part : List Int} {b : Bool} (h : RowsIn w gv G) (hp : IntsIn w pv part) (e : loopB G part = b) : Calls Try.prog 16 #[gv, pv] w (LoopEnd w b) := by
  rw [← e]; exact rloop_any w gv pv G part h hp

theorem ofG_few' (L : List (List Nat)) : Few (castG (ofG L)) := ⟨8, fun l hl => by
  obtain ⟨r, hr, rfl⟩ := List.mem_map.1 hl
  unfold ofG at hr
  obtain ⟨i, _, rfl⟩ := List.mem_map.1 hr
  rw [List.length_map]
  exact rowOf_length L i, by
  rw [castG_length, ofG_length]
  unfold nodesOf
  omega⟩

set_option maxRecDepth 20000 in
set_option maxHeartbeats 8000000 in
theorem tells_any (w : World) (v0 v1 v2 : Value) (G : List (List Int)) (L : List (List Nat)) (part : List Int) (h0 : RowsIn w v0 G) (h1 : RawIn w v1 L) (h2 : IntsIn w v2 part) : Calls Try.prog 3 #[v0, v1, v2] w (HeadEnd w) := by
  have H0 := hid h0
  have H1 := hid h1
  have H2 := hid h2
  clear h0 h1 h2
  go_enter Try.func3, Try.ntmps3
  go_wp2_with fail
  refine (examples_any w).mono ?_
  rintro e w1 ⟨rfl, hb1⟩
  have HB1 := hid hb1
  clear hb1
  go_wp2_with fail
  refine (few_any w1 v0 G (H0.out.below HB1.out)).mono ?_
  rintro e w1' ⟨fw, rfl, hfw, hww⟩
  obtain rfl : w1 = w1' := hww.symm
  cases fw
  · clear hfw
    go_wp2_with fail
    go_ret
    exact ⟨rfl, HB1.out⟩
  have HFW := hid (hfw rfl)
  clear hfw
  go_wp2_with fail
  refine (of_any w1 v1 L (H1.out.below HB1.out)).mono ?_
  rintro e w2 ⟨gb, n, hn, rfl, r2, hb2⟩
  have HB2 := hid (HB1.out.trans (below_low0 hb2 HB1.out.size))
  have HG2 := hid r2.rows
  obtain ⟨gv, hgv⟩ : ∃ gv, gv = Value.slice (some ⟨gb, 0, none⟩) n n := ⟨_, rfl⟩
  rw [← hgv] at HG2 ⊢
  clear hn r2 hb2 hgv HB1
  go_wp2_with fail
  refine (parts_all (H0.out.below HB2.out) HFW.out).mono ?_
  rintro e w3 ⟨va, rfl, ra, hb3⟩
  obtain ⟨cr, hcr⟩ : ∃ cr, cr = codeOf G := ⟨_, rfl⟩
  have HCR := hid hcr
  rw [← hcr]
  have HB3 := hid (HB2.out.trans (below_low0 hb3 HB2.out.size))
  have HG3 := hid (HG2.out.below hb3)
  have HA3 := hid ra
  clear hcr ra hb3 HB2 HG2
  go_wp2_with fail
  refine (doc_all (H0.out.below HB3.out) HFW.out).mono ?_
  rintro e w4 ⟨vb, rfl, rb, hb4⟩
  rw [← HCR.out]
  have HB4 := hid (HB3.out.trans (below_low0 hb4 HB3.out.size))
  have HG4 := hid (HG3.out.below hb4)
  have HA4 := hid (HA3.out.below hb4)
  have HQ4 := hid rb
  clear rb hb4 HB3 HG3 HA3
  go_wp2_with fail
  refine (parts_all HG4.out (ofG_few' L)).mono ?_
  rintro e w5 ⟨vc, rfl, rc, hb5⟩
  obtain ⟨cg, hcg⟩ : ∃ cg, cg = codeOf (castG (ofG L)) := ⟨_, rfl⟩
  have HCG := hid hcg
  rw [← hcg]
  have HB5 := hid (HB4.out.trans (below_low0 hb5 HB4.out.size))
  have HG5 := hid (HG4.out.below hb5)
  have HA5 := hid (HA4.out.below hb5)
  have HQ5 := hid (HQ4.out.below hb5)
  have HC5 := hid rc
  clear hcg rc hb5 HB4 HG4 HA4 HQ4
  go_wp2_with fail
  refine (doc_all HG5.out (ofG_few' L)).mono ?_
  rintro e w6 ⟨vd, rfl, rd, hb6⟩
  rw [← HCG.out]
  have HB6 := hid (HB5.out.trans (below_low0 hb6 HB5.out.size))
  have HG6 := hid (HG5.out.below hb6)
  have HA6 := hid (HA5.out.below hb6)
  have HQ6 := hid (HQ5.out.below hb6)
  have HC6 := hid (HC5.out.below hb6)
  obtain ⟨da, dc, rfl, hdl⟩ := rows_view rd
  obtain ⟨dn, hdn⟩ : ∃ dn, dn = (ansOf (castG (ofG L))).length := ⟨_, rfl⟩
  rw [← hdn] at rd hdl ⊢
  have HDN := hid hdn
  have HD6 := hid rd
  clear rd hb6 hdn HB5 HG5 HA5 HQ5 HC5
  go_wp2_with fail
  go_loopw [17] (fun iv y => TlRel w6 dn iv y) (fun iv _ => dn - (intOf iv).toNat)
  case atStart => exact ⟨0, rfl, Nat.zero_le _, Below.refl _ _⟩
  case round =>
    obtain ⟨i, rfl, hi, hb⟩ := hrel
    have HB := hid hb
    clear hb
    by_cases hio : i < dn
    · obtain ⟨l, hl⟩ : ∃ l, (ansOf (castG (ofG L)))[i]? = some l := ⟨_, List.getElem?_eq_getElem (HDN.out ▸ hio)⟩
      obtain ⟨b1, o1, lo, lc, rfl, c1, i1⟩ := rows_cell HD6.out hl
      obtain ⟨lb, hlb⟩ : ∃ lb, lb = loopB (castG (ofG L)) l := ⟨_, rfl⟩
      obtain ⟨lv, hlv⟩ : ∃ lv, lv = Value.slice lo l.length lc := ⟨_, rfl⟩
      rw [← hlv] at c1 i1
      have HLB := hid hlb
      have HI1 := hid i1
      have HQA := hid (fun (y : World) (hy : Below w6.heap.size w6 y) => loop_as (HG6.out.below hy) (HI1.out.below hy) HLB.out.symm)
      have HQB := hid (fun (y : World) (hy : Below w6.heap.size w6 y) => rloop_as (HG6.out.below hy) (HI1.out.below hy) HLB.out.symm)
      have HKC := hid (fun (y : World) (hy : Below w6.heap.size w6 y) => cell_below c1 hy)
      have RR := hid (fun (y : World) (hy : Below w6.heap.size w6 y) => show TlRel w6 dn (.int .i64 ((i : Int) + 1)) y from ⟨i + 1, by simp, by omega, hy⟩)
      have hbb : Below w6.heap.size w6 wr.drew := bdrew HB.out 1
      have k1 : wr.drew.cell? ⟨b1, o1 + i, none⟩ = some lv := cell_below c1 hbb
      have HB2 := hid HB.out
      clear HB
      clear hlb hl hlv i1 c1
      go_wp2_with fail
      go_region_held3 (fun y => y.cell? ⟨b1, o1 + i, none⟩ = some lv ∧ Below w6.heap.size w6 y) (first | exact hbw | exact HKC.out _ hbw | exact k1 | exact hbb | exact ⟨HKC.out _ hbw, hbw⟩ | exact ⟨k1, hbb⟩ | (trace_state; fail)) (first | (go_at_call 15; refine (HQA.out _ (by first | exact hbw | exact hbb | assumption)).mono ?_; rintro e w9 ⟨rfl, hbz⟩; first | (have hbw := hbw.trans (below_low0 hbz hbw.size)) | (have hbw := hbb.trans (below_low0 hbz hbb.size))) | (go_at_call 16; refine (HQB.out _ (by first | exact hbw | exact hbb | assumption)).mono ?_; rintro e w9 ⟨rfl, hbz⟩; first | (have hbw := hbw.trans (below_low0 hbz hbw.size)) | (have hbw := hbb.trans (below_low0 hbz hbb.size))))
      have R2 := hid (RR.out _ hbw)
      clear hbw hbb k1 RR HKC HQA HQB
      go_wp2_with fail
      go_roundw
      case rel => exact R2.out
      case measure => simp [intOf]; omega
    · have HBW := hid (HB6.out.trans (below_low0 HB.out HB6.out.size))
      have S1 := hid (same_true (HA6.out.below HB.out) (HQ6.out.below HB.out) (by simp))
      have HG7 := hid (HG6.out.below HB.out)
      have HC7 := hid (HC6.out.below HB.out)
      have HD7 := hid (HD6.out.below HB.out)
      have S2' := hid (fun (y : World) (hy : Below wr.heap.size wr y) => same_true (HC7.out.below hy) (HD7.out.below hy) (by simp))
      obtain ⟨lr, hlr⟩ : ∃ lr, lr = loopB G part := ⟨_, rfl⟩
      obtain ⟨lg, hlg⟩ : ∃ lg, lg = loopB (castG (ofG L)) part := ⟨_, rfl⟩
      have HLR := hid hlr
      have HLG := hid hlg
      clear hlr hlg HA6 HQ6 HG6 HC6 HD6 HB HB6
      go_wp2_with fail
      refine S1.out.mono ?_
      rintro e x1 ⟨rfl, hb1⟩
      have HX1 := hid hb1
      have HBX := hid (HBW.out.trans (below_low0 hb1 HBW.out.size))
      have S2 := hid (S2'.out _ HX1.out)
      have HG8 := hid (HG7.out.below HX1.out)
      clear hb1 HG7 HC7 HD7 HX1 HBW S2'
      go_wp2_with fail
      refine S2.out.mono ?_
      rintro e x2 ⟨rfl, hb2⟩
      have HBX2 := hid (HBX.out.trans (below_low0 hb2 HBX.out.size))
      have HG9 := hid (HG8.out.below hb2)
      have S3 := hid (loop_as (H0.out.below HBX2.out) (H2.out.below HBX2.out) HLR.out.symm)
      clear hb2 HBX HG8
      go_wp2_with fail
      refine S3.out.mono ?_
      rintro e x3 ⟨rfl, hb3⟩
      have HBX3 := hid (HBX2.out.trans (below_low0 hb3 HBX2.out.size))
      have HG10 := hid (HG9.out.below hb3)
      have S4 := hid (rloop_as (H0.out.below HBX3.out) (H2.out.below HBX3.out) HLR.out.symm)
      clear hb3 HBX2 HG9 S3
      go_wp2_with fail
      refine S4.out.mono ?_
      rintro e x4 ⟨rfl, hb4⟩
      have HBX4 := hid (HBX3.out.trans (below_low0 hb4 HBX3.out.size))
      have HG11 := hid (HG10.out.below hb4)
      have S5 := hid (loop_as HG11.out (H2.out.below HBX4.out) HLG.out.symm)
      clear hb4 HBX3 HG10 S4
      go_wp2_with fail
      refine S5.out.mono ?_
      rintro e x5 ⟨rfl, hb5⟩
      have HBX5 := hid (HBX4.out.trans (below_low0 hb5 HBX4.out.size))
      have S6 := hid (rloop_as (HG11.out.below hb5) (H2.out.below HBX5.out) HLG.out.symm)
      clear hb5 HBX4 HG11 S5
      go_wp2_with fail
      refine S6.out.mono ?_
      rintro e x6 ⟨rfl, hb6⟩
      have HBX6 := hid (HBX5.out.trans (below_low0 hb6 HBX5.out.size))
      clear hb6 HBX5 S6
      go_wp2_with fail
      go_ret
      exact ⟨rfl, HBX6.out⟩

end Go.Proofs.Ytagfgbmaibadjaa
