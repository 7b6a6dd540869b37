/- Contracts of the document's fold (any short text), and of its tests of a sheet's name at "S" and "T". No condition. Contract of the document's test of a cell, in a row of cells whose inputs are "1". No condition. Contracts of the document's count, sheet, Check and Cells at a workbook of two sheets whose inputs are "1". No condition. Contract of the document's Cells at a workbook of two sheets whose inputs are "1". No condition. -/
import Derived.Test.YtmmknjpcffaidaaGreatDoorSpVFold
import Derived.Test.YtmmknjpcffaidaaGreatDoorSpDig
import Derived.Test.YtmmknjpcffaidaaGreatDoorSpCells
import Derived.Test.YtmmknjpcffaidaaGreatDoorSpBook

/- Contracts of the document's fold (any short text), and of its tests of a sheet's name at "S" and "T". No condition. -/
namespace Go.Proofs.YtmmknjpcffaidaaGreatDoor
open Go.RowKit Go.Lib

set_option maxRecDepth 20000 in
set_option maxHeartbeats 1000000 in
theorem rfold_any (s : ByteArray) (hs : s.size ≤ 1000) (w : World) : Calls Tryz.prog 144 #[.string s] w fun e w' => e = .returned (.string (lowS s)) ∧ Below w.heap.size w w' := by
  have hcv := Go.Lib.run_convert_string_bytes (P := Tryz.prog) w 9 188 5 s Tryz.underlying9 Tryz.underlying188 Tryz.underlying5
  have R0 := hid (show VfRel w s (.int .i64 0) (bytesWorld w 5 s) from ⟨0, rfl, by omega, vf_start w s hs, below_bytes w _ s⟩)
  obtain ⟨n, hn⟩ : ∃ n, n = s.size := ⟨_, rfl⟩
  rw [← hn] at hcv hs
  have HN := hid hn
  obtain ⟨cp, hcp⟩ : ∃ cp, cp = grownCap w n 0 5 := ⟨_, rfl⟩
  rw [← hcp] at hcv
  obtain ⟨g, hg⟩ : ∃ g, g = w.heap.size := ⟨_, rfl⟩
  rw [← hg] at hcv
  have HG := hid hg
  clear hcp hg hn
  go_enter Tryz.func144, Tryz.ntmps144
  go_wp2_with fail
  generalize bytesWorld _ _ _ = w1 at R0 ⊢
  clear hcv
  go_loopw [4] (fun iv wr => VfRel w s iv wr) (fun iv _ => n - (RowKit.intOf iv).toNat)
  case atStart => exact R0.out
  case round =>
    obtain ⟨i, rfl, hi, hv, hb⟩ := hrel
    rw [← HN.out] at hi
    rw [← HG.out] at hv
    have HV := hid hv
    have HB := hid hb
    clear hb R0
    by_cases hin : i < n
    · have his : i < s.size := by rw [← HN.out]; exact hin
      have hd1 : ((i : Int) < (n : Int)) = True := by rw [eq_iff_iff, iff_true]; omega
      have c0 := hv.cell his
      have f0 := hv.free his
      have hgi : w.heap.size ≤ g := by rw [HG.out]; exact Nat.le_refl _
      have HP := hid (hv.put his)
      have HS := hid (fun h => hv.same his h)
      obtain ⟨b, hb⟩ : ∃ b, b = s[i].toNat := ⟨_, rfl⟩
      have hb256 : b < 256 := by rw [hb]; exact UInt8.toNat_lt _
      rw [← hb] at c0
      have HBI := hid hb
      clear hv hb
      by_cases h65 : 65 ≤ b
      · have hd2 : (65 ≤ (b : Int)) = True := by rw [eq_iff_iff, iff_true]; omega
        by_cases h90 : b ≤ 90
        · have hd3 : ((b : Int) ≤ 90) = True := by rw [eq_iff_iff, iff_true]; omega
          have HL := hid (show ((lowB s[i]).toNat : Int) = (b : Int) + 32 by rw [lowB_big (by rw [← HBI.out]; exact ⟨h65, h90⟩), ← HBI.out]; omega)
          have HP2 := HP.out
          rw [HL.out] at HP2
          have HP3 := hid HP2
          have g1 : IntKind.u8.wrap ((b : Int) + 32) = (b : Int) + 32 := IntWalk.u8_in _ (by omega)
          clear HP2 HP HS HL
          go_wp2_with fail
          go_roundw
          case rel => exact ⟨i + 1, by simp, by rw [← HN.out]; omega, by rw [← HG.out]; exact HP3.out, HB.out.setCell hgi _⟩
          case measure => simp [RowKit.intOf]; omega
        · have hd3 : ((b : Int) ≤ 90) = False := by rw [eq_iff_iff, iff_false]; omega
          have HSAME := hid (HS.out (lowB_other (by rw [← HBI.out]; omega)))
          go_wp2_with fail
          go_roundw
          case rel => exact ⟨i + 1, by simp, by rw [← HN.out]; omega, by rw [← HG.out]; exact HSAME.out, HB.out⟩
          case measure => simp [RowKit.intOf]; omega
      · have hd2 : (65 ≤ (b : Int)) = False := by rw [eq_iff_iff, iff_false]; omega
        have HSAME := hid (HS.out (lowB_other (by rw [← HBI.out]; omega)))
        go_wp2_with fail
        go_roundw
        case rel => exact ⟨i + 1, by simp, by rw [← HN.out]; omega, by rw [← HG.out]; exact HSAME.out, HB.out⟩
        case measure => simp [RowKit.intOf]; omega
    · obtain rfl : n = i := by omega
      have hd1 : ((n : Int) < (n : Int)) = False := by rw [eq_iff_iff, iff_false]; omega
      have hbk := fun cap => run_convert_whole (P := Tryz.prog) wr 188 5 9 Tryz.underlying188 Tryz.underlying5 Tryz.underlying9 g 0 (lowS s) (HV.out.bytes (by rw [← HN.out]; exact Nat.le_refl _)) cap
      rw [lowS_size, ← HN.out] at hbk
      go_wp2_with fail
      go_ret
      exact ⟨rfl, HB.out⟩

theorem byte_S : (nameS[0]'(by decide)).toNat = 83 := rfl
theorem whole_S : nameS.extract 0 1 = nameS := by kernel_rfl
set_option maxRecDepth 20000 in
set_option maxHeartbeats 1000000 in
theorem sign_S (w : World) : Calls Tryz.prog 196 #[.string nameS] w fun e w' => e = .returned (.int .i64 1) ∧ w = w' := by
  have hb := byte_S
  go_enter Tryz.func196, Tryz.ntmps196
  go_wp2_with fail
  go_ret
  exact ⟨rfl, rfl⟩
set_option maxRecDepth 20000 in
set_option maxHeartbeats 1000000 in
theorem isText_S (w : World) : Calls Tryz.prog 145 #[.string nameS] w fun e w' => e = .returned (.bool true) ∧ w = w' := by
  have hb := byte_S
  go_enter Tryz.func145, Tryz.ntmps145
  go_wp2_with fail
  refine wp_loop_rounds 2 ?_
  rw [rounds_succ]
  go_wp2_with fail
  rw [whole_S]
  refine (sign_S _).mono ?_
  rintro e w' ⟨rfl, rfl⟩
  go_wp2_with fail
  rw [rounds_succ]
  go_wp2_with fail
  go_ret
  exact ⟨rfl, rfl⟩
set_option maxRecDepth 20000 in
set_option maxHeartbeats 1000000 in
theorem isSheet_S (w : World) : Calls Tryz.prog 106 #[.string nameS] w fun e w' => e = .returned (.bool true) ∧ w = w' := by
  go_enter Tryz.func106, Tryz.ntmps106
  go_wp2_with fail
  refine (isText_S _).mono ?_
  rintro e w' ⟨rfl, rfl⟩
  go_wp2_with fail
  go_ret
  exact ⟨rfl, rfl⟩
theorem byte_T : (nameT[0]'(by decide)).toNat = 84 := rfl
theorem whole_T : nameT.extract 0 1 = nameT := by kernel_rfl
set_option maxRecDepth 20000 in
set_option maxHeartbeats 1000000 in
theorem sign_T (w : World) : Calls Tryz.prog 196 #[.string nameT] w fun e w' => e = .returned (.int .i64 1) ∧ w = w' := by
  have hb := byte_T
  go_enter Tryz.func196, Tryz.ntmps196
  go_wp2_with fail
  go_ret
  exact ⟨rfl, rfl⟩
set_option maxRecDepth 20000 in
set_option maxHeartbeats 1000000 in
theorem isText_T (w : World) : Calls Tryz.prog 145 #[.string nameT] w fun e w' => e = .returned (.bool true) ∧ w = w' := by
  have hb := byte_T
  go_enter Tryz.func145, Tryz.ntmps145
  go_wp2_with fail
  refine wp_loop_rounds 2 ?_
  rw [rounds_succ]
  go_wp2_with fail
  rw [whole_T]
  refine (sign_T _).mono ?_
  rintro e w' ⟨rfl, rfl⟩
  go_wp2_with fail
  rw [rounds_succ]
  go_wp2_with fail
  go_ret
  exact ⟨rfl, rfl⟩
set_option maxRecDepth 20000 in
set_option maxHeartbeats 1000000 in
theorem isSheet_T (w : World) : Calls Tryz.prog 106 #[.string nameT] w fun e w' => e = .returned (.bool true) ∧ w = w' := by
  go_enter Tryz.func106, Tryz.ntmps106
  go_wp2_with fail
  refine (isText_T _).mono ?_
  rintro e w' ⟨rfl, rfl⟩
  go_wp2_with fail
  go_ret
  exact ⟨rfl, rfl⟩
theorem rlow_S : lowS nameS = ⟨#[115]⟩ := by kernel_rfl
theorem rlow_T : lowS nameT = ⟨#[116]⟩ := by kernel_rfl
set_option maxRecDepth 20000 in
set_option maxHeartbeats 1000000 in
theorem same_ST (w : World) : Calls Tryz.prog 105 #[.string nameS, .string nameT] w fun e w' => e = .returned (.bool false) ∧ Below w.heap.size w w' := by
  have HS := hid (rfold_any nameS (by decide))
  have HT := hid (rfold_any nameT (by decide))
  rw [rlow_S] at HS
  rw [rlow_T] at HT
  have hne : ((⟨#[115]⟩ : ByteArray).toList == (⟨#[116]⟩ : ByteArray).toList) = false := by kernel_rfl
  go_enter Tryz.func105, Tryz.ntmps105
  go_wp2_with fail
  refine (HS.out _).mono ?_
  rintro e w1 ⟨rfl, b1⟩
  go_wp2_with fail
  refine (HT.out _).mono ?_
  rintro e w2 ⟨rfl, b2⟩
  go_wp2_with fail
  go_ret
  exact ⟨rfl, b1.trans (b2.mono b1.size)⟩
end Go.Proofs.YtmmknjpcffaidaaGreatDoor

/- Contract of the document's test of a cell, in a row of cells whose inputs are "1". No condition. -/
namespace Go.Proofs.YtmmknjpcffaidaaGreatDoor
open Go.RowKit Go.Lib

theorem rise_step {L : List PAt} (h : Rising L) {s : Int} (hs : ∀ p, p ∈ L → p.1 = s) {j : Nat} {p q : PAt} (hp : L[j]? = some p) (hq : L[j + 1]? = some q) : p.2.1 < q.2.1 ∨ (p.2.1 = q.2.1 ∧ p.2.2 < q.2.2) := by
  obtain ⟨h1, e1⟩ := List.getElem?_eq_some_iff.1 hp
  obtain ⟨h2, e2⟩ := List.getElem?_eq_some_iff.1 hq
  have := List.pairwise_iff_getElem.1 h j (j + 1) h1 h2 (by omega)
  rw [e1, e2] at this
  have a := hs p (List.mem_of_getElem? hp)
  have b := hs q (List.mem_of_getElem? hq)
  unfold aheadP at this
  omega
set_option maxRecDepth 20000 in
set_option maxHeartbeats 20000000 in
theorem r9cell_any (w : World) (v : Value) (L : List PAt) (s : Int) (h : CellsIn w v one1 L) (hr : Rising L) (hs : ∀ p, p ∈ L → p.1 = s ∧ InTwo p) (hl : L.length ≤ 1000) (k : Nat) (hk : k < L.length) :
    Calls Tryz.prog 75 #[v, .int .i64 (k : Int)] w fun e w' => e = .returned (.bool true) ∧ Below w.heap.size w w' := by
  obtain ⟨ao, c, cb, co, rfl, -, hcl⟩ := h.view
  obtain ⟨n, hn⟩ : ∃ n, n = L.length := ⟨_, rfl⟩
  rw [← hn] at hl hk ⊢
  obtain ⟨p, hp⟩ : ∃ p, L[k]? = some p := ⟨_, List.getElem?_eq_getElem (by omega)⟩
  obtain ⟨rfl, p0, p1, p2⟩ := hcl k p hp
  have p2 : w.cell? ⟨cb, co + k * 3 + 2, none⟩ = some (.string text1) := p2
  obtain ⟨-, -, -, u1, u2, u3, u4⟩ := hs p (List.mem_of_getElem? hp)
  obtain ⟨r, er⟩ : ∃ r, r = p.2.1 := ⟨_, rfl⟩
  obtain ⟨q, eq⟩ : ∃ q, q = p.2.2 := ⟨_, rfl⟩
  rw [← er] at p0 u1 u2
  rw [← eq] at p1 u3 u4
  have lt := World.block_lt_of_cell? _ _ p0
  have t1 : (r < 0) = False := by rw [eq_iff_iff, iff_false]; omega
  have t2 : (r > 199) = False := by rw [eq_iff_iff, iff_false]; omega
  have t3 : (q < 0) = False := by rw [eq_iff_iff, iff_false]; omega
  have t4 : (q > 51) = False := by rw [eq_iff_iff, iff_false]; omega
  have hk2 : (k : Int) < (n : Int) := by omega
  obtain ⟨g, hg⟩ : ∃ g, g = w.heap.size := ⟨_, rfl⟩
  have m0 := heap_alloc_new w (.cells #[.int .i64 r, .int .i64 q, .string text1] 63)
  rw [← hg] at m0
  have HM := hid (show (w.alloc (.cells #[.int .i64 r, .int .i64 q, .string text1] 63)).heap[g]? = _ ∧ Below w.heap.size w (w.alloc (.cells #[.int .i64 r, .int .i64 q, .string text1] 63)) from ⟨m0, (Below.refl _ w).alloc (Nat.le_refl _) _⟩)
  have HCL := hid hcl
  have HE := hid (show r = p.2.1 ∧ q = p.2.2 from ⟨er, eq⟩)
  have HP := hid hp
  have HS := hid hs
  have HR := hid hr
  have HN := hid hn
  clear hcl er eq hp hs hr hn m0 h u1 u2 u3 u4
  have c0 := cell_of (i := 0) HM.out.1 rfl
  have c1 := cell_of (i := 1) HM.out.1 rfl
  have c2 := cell_of (i := 2) HM.out.1 rfl
  go_enter Tryz.func75, Tryz.ntmps75
  go_wp2_with fail
  refine (r9input_one _).mono ?_
  rintro e w2 ⟨rfl, b2⟩
  rw [← hg]
  have B2 := hid (HM.out.2.trans (b2.mono HM.out.2.size))
  have G2 := (b2.block _ (heap_lt HM.out.1)).trans HM.out.1
  clear c0 c1 c2 p0 p1 p2
  have c0 : w2.cell? ⟨g, 0, none⟩ = some (.int .i64 r) := cell_of G2 rfl
  have c1 : w2.cell? ⟨g, 1, none⟩ = some (.int .i64 q) := cell_of G2 rfl
  clear G2 b2 hg
  rcases k with _ | k
  · go_wp2_with fail
    go_quiet (fail)
    go_wp2_with fail
    go_ret
    exact ⟨rfl, below_drewN B2.out _⟩
  · obtain ⟨p', hp'⟩ : ∃ p', L[k]? = some p' := ⟨_, List.getElem?_eq_getElem (by rw [← HN.out]; omega)⟩
    obtain ⟨e1, k0, k1, -⟩ := HCL.out k p' hp'
    have hst := rise_step HR.out (fun x hx => (HS.out x hx).1) hp' HP.out
    rw [← HE.out.1, ← HE.out.2] at hst
    obtain ⟨r', er⟩ : ∃ r, r = p'.2.1 := ⟨_, rfl⟩
    obtain ⟨q', eq⟩ : ∃ q, q = p'.2.2 := ⟨_, rfl⟩
    rw [← er] at k0 hst
    rw [← eq] at k1 hst
    have k0' := (B2.out.cell lt).trans k0
    have k1' := (B2.out.cell lt).trans k1
    have hkn : (k : Int) < (n : Int) := by omega
    have hnk : ((k : Int) + 1 == 0) = false := by rw [beq_eq_false_iff_ne]; omega
    have hwk : IntKind.i64.wrap (k : Int) = (k : Int) := IntWalk.i64_in _ (by omega)
    clear k0 k1 hp' e1 er eq HCL HP HS HR HE HN HM
    rcases hst with hst | ⟨rfl, hst⟩
    · have d1 : (r' < r) = True := by rw [eq_iff_iff, iff_true]; exact hst
      clear hst
      go_wp2_with fail
      go_quiet (fail)
      go_wp2_with fail
      go_ret
      exact ⟨rfl, below_drewN B2.out _⟩
    · have d1 : (q' < q) = True := by rw [eq_iff_iff, iff_true]; exact hst
      clear hst
      go_wp2_with fail
      go_quiet (fail)
      go_wp2_with fail
      go_ret
      exact ⟨rfl, below_drewN B2.out _⟩
end Go.Proofs.YtmmknjpcffaidaaGreatDoor

/- Contracts of the document's count, sheet, Check and Cells at a workbook of two sheets whose inputs are "1". No condition. -/
namespace Go.Proofs.YtmmknjpcffaidaaGreatDoor
open Go.RowKit Go.Lib

set_option maxHeartbeats 1000000 in
theorem r9count_any (w : World) (v : Value) (A : List PAt) (tx : PAt → ByteArray) (h : BookAt w v A tx) : Calls Tryz.prog 73 #[v] w fun e w' => (∃ n : Nat, e = .returned (.int .i64 (n : Int)) ∧ n ≤ 26) ∧ Below w.heap.size w w' := by
  obtain ⟨⟨b, off, v0, v1, rfl, h2, h3, h4, h5, h6, h7⟩, hr, ht, hf, ho⟩ := h
  obtain ⟨a0, c0, b0, o0, rfl, l0, k0⟩ := h6.view
  obtain ⟨a1, c1, b1, o1, rfl, l1, k1⟩ := h7.view
  have hn0 := onSheet_le A 0
  have hn1 := onSheet_le A 1
  obtain ⟨n0, e0⟩ : ∃ n, n = (onSheet A 0).length := ⟨_, rfl⟩
  obtain ⟨n1, e1⟩ : ∃ n, n = (onSheet A 1).length := ⟨_, rfl⟩
  rw [← e0] at h3 hn0
  rw [← e1] at h5 hn1
  have m0 : n0 ≤ 13 := by omega
  have m1 : n1 ≤ 13 := by omega
  have b00 := World.block_lt_of_cell? _ _ h2
  have g2 := fun o1 => ((Below.refl w.heap.size w).alloc (Nat.le_refl _) o1)
  clear k0 k1 h6 h7 hr ht hf ho hn0 hn1 e0 e1 l0 l1
  go_enter Tryz.func73, Tryz.ntmps73
  go_wp2_with fail
  refine wp_loop_rounds 3 ?_
  rw [rounds_succ]
  go_wp2_with fail
  rw [rounds_succ]
  go_wp2_with fail
  rw [rounds_succ]
  go_wp2_with fail
  go_ret
  exact ⟨⟨n0 + n1, by simp, by omega⟩, g2 _⟩

set_option maxHeartbeats 1000000 in
theorem r9sheet_S (w : World) (b off : Nat) (h2 : w.cell? ⟨b, off, none⟩ = some (.string nameS)) : Calls Tryz.prog 74 #[.agg (bookC b off), .int .i64 0] w fun e w' => e = .returned (.bool true) ∧ Below w.heap.size w w' := by
  have b00 := World.block_lt_of_cell? _ _ h2
  have g2 := hid (fun o1 => ((Below.refl w.heap.size w).alloc (Nat.le_refl _) o1))
  go_enter Tryz.func74, Tryz.ntmps74
  go_wp2_with fail
  refine wp_loop_rounds 1 ?_
  rw [rounds_succ]
  go_wp2_with fail
  refine (isSheet_S _).mono ?_
  rintro e w' ⟨rfl, rfl⟩
  go_wp2_with fail
  go_ret
  exact ⟨rfl, g2.out _⟩
set_option maxHeartbeats 1000000 in
theorem r9sheet_T (w : World) (b off : Nat) (h2 : w.cell? ⟨b, off, none⟩ = some (.string nameS)) (h3 : w.cell? ⟨b, off + 2, none⟩ = some (.string nameT)) : Calls Tryz.prog 74 #[.agg (bookC b off), .int .i64 1] w fun e w' => e = .returned (.bool true) ∧ Below w.heap.size w w' := by
  have b00 := World.block_lt_of_cell? _ _ h2
  have g2 := hid (fun o1 => ((Below.refl w.heap.size w).alloc (Nat.le_refl _) o1))
  go_enter Tryz.func74, Tryz.ntmps74
  go_wp2_with fail
  refine wp_loop_rounds 2 ?_
  rw [rounds_succ]
  go_wp2_with fail
  refine (same_ST _).mono ?_
  rintro e w1 ⟨rfl, b1⟩
  have B1 := hid ((g2.out _).trans (b1.mono (g2.out _).size))
  clear b1
  go_wp2_with fail
  rw [rounds_succ]
  go_wp2_with fail
  refine (isSheet_T _).mono ?_
  rintro e w' ⟨rfl, rfl⟩
  go_wp2_with fail
  go_ret
  exact ⟨rfl, B1.out⟩

def R9c (w : World) (b off : Nat) (g : Nat) (n : Nat) (iv : Value) (wr : World) : Prop := ∃ k : Nat, iv = .int .i64 (k : Int) ∧ k ≤ n ∧ Cx w (bookC b off) wr ∧ wr.heap[g]? = some (.cells #[.int .i64 0, .int .i64 0, .int .i64 0] 25 (0, 0))
def R9s (w : World) (b off : Nat) (g : Nat) (iv : Value) (wr : World) : Prop := ∃ k : Nat, iv = .int .i64 (k : Int) ∧ k ≤ 2 ∧ Cx w (bookC b off) wr ∧ wr.heap[g]? = some (.cells #[.int .i64 0, .int .i64 0, .int .i64 0] 25 (0, 0))
set_option maxRecDepth 20000 in
set_option maxHeartbeats 4000000 in
theorem r9check_any (w : World) (v : Value) (A : List PAt) (h : BookAt w v A one1) : Calls Tryz.prog 48 #[v] w fun e w' => e = .returned (.tuple #[.agg #[.int .i64 0, .int .i64 0, .int .i64 0], .int .i64 0]) ∧ Below w.heap.size w w' := by
  have HMY := hid (fun w h => r9count_any w v A one1 h)
  have HBK := hid h
  obtain ⟨⟨b, off, v0, v1, rfl, h2, h3, h4, h5, h6, h7⟩, hr, ht, hf, ho⟩ := h
  have H23 := hid (show _ ∧ _ from ⟨h2, h4⟩)
  have lt := World.block_lt_of_cell? _ _ h2
  have LT := hid lt
  have X0 := hid (show Cx w (bookC b off) ((w.alloc (.cells (bookC b off) 35)).alloc (.cells #[.int .i64 0, .int .i64 0, .int .i64 0] 25)) from ⟨heap_alloc_keep (heap_alloc_new w _) _, ((Below.refl w.heap.size w).alloc (Nat.le_refl _) _).alloc (by simp) _⟩)
  have G0 := hid (heap_alloc2_new w (.cells (bookC b off) 35) (.cells #[.int .i64 0, .int .i64 0, .int .i64 0] 25))
  clear h2 h3 h4 h5 h6 h7 hr ht hf ho lt
  go_enter Tryz.func48, Tryz.ntmps48
  go_wp2_with fail
  refine (HMY.out _ (HBK.out.below X0.out.low)).mono ?_
  rintro e w1 ⟨⟨n, rfl, hn⟩, b1⟩
  have X1 := hid (X0.out.keep b1)
  have G1 := hid ((b1.block _ (heap_lt G0.out)).trans G0.out)
  have q0 := X1.out.c0
  have q1 := X1.out.c1
  have q2 := X1.out.c2
  have q3 := X1.out.c3
  have hn4 : ¬ ((n : Int) > 400) := by omega
  clear b1 X0 G0 HMY
  go_wp2_with fail
  rename_i K hK
  have HC := hid hK
  clear hK
  refine wp_loop_rounds 3 ?_
  rw [rounds_succ]
  go_wp2_with fail
  refine (r9sheet_S w1 b off ((X1.out.low.cell LT.out).trans H23.out.1)).mono ?_
  rintro e w2 ⟨rfl, b2⟩
  have X2 := hid (X1.out.keep b2)
  have G2 := hid ((b2.block _ (heap_lt G1.out)).trans G1.out)
  clear q0 q1 q2 q3 b2 X1 G1
  have q0 := X2.out.c0
  have q1 := X2.out.c1
  have q2 := X2.out.c2
  have q3 := X2.out.c3
  go_wp2_with fail
  rw [rounds_succ]
  go_wp2_with fail
  refine (r9sheet_T w2 b off ((X2.out.low.cell LT.out).trans H23.out.1) ((X2.out.low.cell LT.out).trans H23.out.2)).mono ?_
  rintro e w3 ⟨rfl, b3⟩
  have X3 := hid (X2.out.keep b3)
  have G3 := hid ((b3.block _ (heap_lt G2.out)).trans G2.out)
  clear q0 q1 q2 q3 b3 X2 G2
  have q0 := X3.out.c0
  go_wp2_with fail
  rw [rounds_succ]
  go_wp2_with fail
  refine HC.out _ _ ?_
  clear HC q0
  go_wp2_with fail
  rename_i K2 hK2
  have HC := hid hK2
  clear hK2
  have HR0 := hid (show R9s w b off (w.heap.size + 1) (.int .i64 0) w3 from ⟨0, rfl, by omega, X3.out, G3.out⟩)
  clear X3 G3
  go_loopw [5] (fun i wr => R9s w b off (w.heap.size + 1) i wr) (fun i _ => 2 - (RowKit.intOf i).toNat)
  case atStart => exact HR0.out
  case round =>
    obtain ⟨j, rfl, hj, X4, G4⟩ := hrel
    have HX4 := hid X4
    have HG4 := hid G4
    have hlt := X4.lt
    have q0 := HX4.out.c0
    clear HR0
    by_cases hg : j < 2
    · obtain ⟨nm, sv, s0, s1, hc, hcw⟩ := HBK.out.sheet X4.low hg
      obtain ⟨ao, cc, cb, co, rfl, hl, hcl⟩ := hcw.view
      obtain ⟨m, hm⟩ : ∃ m, m = (onSheet A (j : Int)).length := ⟨_, rfl⟩
      have hm13 : m ≤ 13 := by rw [hm]; exact Nat.le_trans (onSheet_le _ _) HBK.out.few
      rw [← hm] at s1 hl
      have HCW := hid hcw
      rw [← hm] at HCW
      have HM := hid hm
      have HCE := hid (fun (y : World) (hb : Below w.heap.size w y) (k : Nat) (hk : k < m) => r9cell_any y (.slice ao m cc) (onSheet A (j : Int)) (j : Int) (by exact CellsIn.below (by rw [hm]; exact hcw) hb) (onSheet_rising HBK.out.rise _) (fun p hp => ⟨(onSheet_at hp).1, HBK.out.two p (onSheet_at hp).2⟩) (by omega) k (by omega))
      have hgt : ((j : Int) < 2) = True := by rw [eq_iff_iff, iff_true]; omega
      have HR1 := hid (show R9c w b off (w.heap.size + 1) m (.int .i64 0) wr from ⟨0, rfl, by omega, X4, G4⟩)
      clear X4 G4 hc hcw hm hcl HX4 HG4
      go_wp2_with fail
      rename_i K' hK'
      have HC' := hid hK'
      clear hK' s0 s1 hlt q0
      go_loopw [7] (fun i wr => R9c w b off (w.heap.size + 1) m i wr) (fun i _ => m - (RowKit.intOf i).toNat)
      case atStart => exact HR1.out
      case round =>
        obtain ⟨k, rfl, hk, X5, G5⟩ := hrel
        have HX5 := hid X5
        have HG5 := hid G5
        clear X5 G5 HR1
        by_cases hkm : k < m
        · have hkt : ((k : Int) < (m : Int)) = True := by rw [eq_iff_iff, iff_true]; omega
          go_wp2_with fail
          refine (HCE.out _ HX5.out.low k hkm).mono ?_
          rintro e w5 ⟨rfl, b5⟩
          have HX6 := hid (HX5.out.keep b5)
          have HG6 := hid ((b5.block _ (heap_lt HG5.out)).trans HG5.out)
          clear b5 HX5 HG5
          go_wp2_with fail
          go_roundw
          case rel => exact ⟨k + 1, by simp, by omega, HX6.out, HG6.out⟩
          case measure => simp [RowKit.intOf]; omega
        · obtain rfl : k = m := by omega
          go_wp2_with fail
          refine HC'.out _ _ ?_
          go_wp2_with fail
          exact ⟨⟨j + 1, by simp, by omega, HX5.out, HG5.out⟩, by simp [RowKit.intOf]; omega⟩
    · obtain rfl : j = 2 := by omega
      go_wp2_with fail
      refine HC.out _ _ ?_
      clear X4 G4
      have q1 := HX4.out.c1
      have q2 := HX4.out.c2
      have q3 := HX4.out.c3
      have f0 := free_of (i := 0) HG4.out
      have f1 := free_of (i := 1) HG4.out
      have f2 := free_of (i := 2) HG4.out
      have d0 := cell_of (i := 0) HG4.out rfl
      have d1 := cell_of (i := 1) HG4.out rfl
      have d2 := cell_of (i := 2) HG4.out rfl
      go_wp2_with fail
      refine wp_loop_rounds 1 ?_
      rw [rounds_succ]
      go_wp2_with fail
      refine wp_loop_rounds 1 ?_
      rw [rounds_succ]
      go_wp2_with fail
      refine wp_loop_rounds 1 ?_
      rw [rounds_succ]
      go_wp2_with fail
      refine bodyPost_ret (v := .tuple #[.agg #[.int .i64 0, .int .i64 0, .int .i64 0], .int .i64 0]) (by simp [results, Tryz.results48, go_sem, *]) rfl ?_
      exact ⟨rfl, ((HX4.out.low.setCell (by simp) _).setCell (by simp) _).setCell (by simp) _⟩
end Go.Proofs.YtmmknjpcffaidaaGreatDoor

/- Contract of the document's Cells at a workbook of two sheets whose inputs are "1". No condition. -/
namespace Go.Proofs.YtmmknjpcffaidaaGreatDoor
open Go.RowKit Go.Lib

set_option maxRecDepth 20000 in
set_option maxHeartbeats 4000000 in
theorem r9cells_any (w : World) (v : Value) (A : List PAt) (h : BookAt w v A one1) : Calls Tryz.prog 31 #[v] w fun e w' => (∃ ov, e = .returned (.tuple #[ov, .int .i64 0]) ∧ AtsIn w' ov A) ∧ Below w.heap.size w w' := by
  have HB := hid h
  have HCK := hid (fun y (hb : BookAt y v A one1) => r9check_any y v A hb)
  obtain ⟨⟨b, off, v0, v1, rfl, -⟩, -⟩ := h
  have HX0 := hid (show Cx w (bookC b off) (w.alloc (.cells (bookC b off) 35)) from ⟨heap_alloc_new w _, (Below.refl _ w).alloc (Nat.le_refl _) _⟩)
  go_enter Tryz.func31, Tryz.ntmps31
  go_wp2_with fail
  refine (HCK.out _ (HB.out.below HX0.out.low)).mono ?_
  rintro e w1 ⟨rfl, b1⟩
  have HX1 := hid (HX0.out.keep b1)
  clear b1 HX0 HCK
  have q0 := HX1.out.c0
  have hlt := HX1.out.lt
  go_wp2_with fail
  have X2 : Cx w (bookC b off) (w1.alloc (.cells #[.int .i64 0, .int .i64 0, .int .i64 0] 25)) := HX1.out.keep ((Below.refl _ w1).alloc (Nat.le_refl _) _)
  generalize World.alloc _ _ = w2 at X2 ⊢
  have HX2 := hid X2
  clear X2 q0 hlt HX1
  rename_i K hK
  have HC := hid hK
  clear hK
  go_loopw [6, 7] (fun o i wr => CsRel w (bookC b off) A o i wr) (fun _ i _ => 2 - (RowKit.intOf i).toNat)
  case atStart => exact ⟨0, rfl, by omega, HX2.out, AtsOwn.nil _ _⟩
  case round =>
    obtain ⟨j, rfl, hj, X3, O3⟩ := hrel
    obtain ⟨oa, om, oc, rfl, hom⟩ := O3.view
    have HOM := hid hom
    clear hom
    have HX3 := hid X3
    have HO3 := hid O3
    have q0 := X3.c0
    by_cases hg : j < 2
    · obtain ⟨nm, sv, s0, s1, hc, hcw⟩ := HB.out.sheet X3.low hg
      obtain ⟨ao, cc, cb, co, rfl, hl, hcl⟩ := hcw.view
      obtain ⟨n, hn⟩ : ∃ n, n = (onSheet A (j : Int)).length := ⟨_, rfl⟩
      have hn12 : n ≤ 13 := by rw [hn]; exact Nat.le_trans (onSheet_le _ _) HB.out.few
      rw [← hn] at s1 hl
      have HN := hid hn
      have HCL := hid hcl
      have hgt : ((j : Int) < 2) = True := by rw [eq_iff_iff, iff_true]; omega
      clear hc hcw hn hcl
      go_wp2_with fail
      have HR := hid (show CiRel w (bookC b off) A j n (.slice oa om oc) (.int .i64 0) wr from ⟨0, rfl, by omega, X3, by simpa using O3⟩)
      clear X3 O3 HX3 HO3 s0 s1 q0
      rename_i K' hK'
      have HC' := hid hK'
      clear hK'
      go_loopw [6, 9] (fun o i wr => CiRel w (bookC b off) A j n o i wr) (fun _ i _ => n - (RowKit.intOf i).toNat)
      case atStart => exact HR.out
      case round =>
        obtain ⟨k, rfl, hk, X5, O5⟩ := hrel
        obtain ⟨pa, pm, pc, rfl, hpm⟩ := O5.view
        have HPM := hid hpm
        clear hpm
        have HX5 := hid X5
        have HO5 := hid O5
        by_cases hkn : k < n
        · obtain ⟨p, hp⟩ : ∃ p, (onSheet A (j : Int))[k]? = some p := ⟨_, List.getElem?_eq_getElem (by rw [← HN.out]; exact hkn)⟩
          obtain ⟨rfl, p0, p1, -⟩ := HCL.out k p hp
          have lt := World.block_lt_of_cell? _ _ p0
          have kk : ∀ {q : Addr} {u : Value}, w.cell? q = some u → wr.cell? q = some u := fun {q u} hc => (X5.low.cell (World.block_lt_of_cell? _ _ hc)).trans hc
          have p0' := kk p0
          have p1' := kk p1
          have hpa := (onSheet_at (List.mem_of_getElem? hp)).1
          obtain ⟨r, hr⟩ : ∃ r, r = p.2.1 := ⟨_, rfl⟩
          obtain ⟨k2, hk2⟩ : ∃ k2, k2 = p.2.2 := ⟨_, rfl⟩
          rw [← hr] at p0'
          rw [← hk2] at p1'
          have hup := uptoSh_le A hj
          have hfew := HB.out.few
          have htk : pm ≤ 1000 := by rw [HPM.out, List.length_append, List.length_take]; omega
          have bD : Below wr.heap.size wr wr.drew := (Below.refl _ wr).drew
          have happ := (HO5.out.below bD).app (g := wr.heap.size) (by have := HX5.out.lt; simp; omega) HPM.out (by simp) (by omega) p
          have ep : atC p = [.int .i64 (j : Int), .int .i64 r, .int .i64 k2] := by rw [hr, hk2, ← hpa]; rfl
          rw [ep] at happ
          obtain ⟨a2, c2, w2', happ, hown, hchg, -⟩ := happ
          have hX6 := (HX5.out.keep bD).chg hchg (fun g hg => by
            have hg' : (Value.slice pa pm pc).ownBlock = some g := by simpa [own] using hg
            exact (HO5.out.low g hg').1)
          have hown2 : AtsOwn w2' (w.heap.size + 1) (.slice a2 (pm + 1) c2) (uptoSh A j ++ (onSheet A (j : Int)).take (k + 1)) := by
            have e : uptoSh A j ++ (onSheet A (j : Int)).take k ++ [p] = uptoSh A j ++ (onSheet A (j : Int)).take (k + 1) := by
              obtain ⟨hk', ek⟩ := List.getElem?_eq_some_iff.1 hp
              rw [List.append_assoc, List.take_succ_eq_append_getElem hk', ek]
            exact Eq.mp (congrArg (AtsOwn w2' (w.heap.size + 1) _) e) hown
          have hnot : cb ∉ own (Value.slice pa pm pc) := fun hg => by
            have hg' : (Value.slice pa pm pc).ownBlock = some cb := by simpa [own] using hg
            have := (HO5.out.low cb hg').1
            simp only at lt
            omega
          have keep3 := And.intro (hchg.cell (a := wr.drew) p0' hnot) (hchg.cell (a := wr.drew) p1' hnot)
          have bAl := (Below.refl wr.heap.size wr).alloc (Nat.le_refl _) (.cells #[.int .i64 (j : Int), .int .i64 r, .int .i64 k2] 25)
          have keep2 := And.intro ((bAl.cell (World.block_lt_of_cell? _ _ p0')).trans p0') ((bAl.cell (World.block_lt_of_cell? _ _ p1')).trans p1')
          have RR := hid (show CiRel w (bookC b off) A j n (.slice a2 (pm + 1) c2) (.int .i64 ((k : Int) + 1)) w2' from ⟨k + 1, by simp, by omega, hX6, hown2⟩)
          have hkt : ((k : Int) < (n : Int)) = True := by rw [eq_iff_iff, iff_true]; omega
          clear kk p0 p1 hpa hr hk2 hup hfew htk hp X5 O5 hX6 hown hown2 hchg ep bD HCL HR lt hnot bAl
          go_wp2_with fail
          refine wp_region_held_drew (S := fun y => y.cell? ⟨cb, co + k * 3, none⟩ = some (.int .i64 r) ∧ y.cell? ⟨cb, co + k * 3 + 1, none⟩ = some (.int .i64 k2)) (by kernel_rfl) ⟨p0', p1'⟩ (fun hS => ?_)
          refine wpAnyH_take (i := 0) (oi := { dst := Option.some 37, op := Op.move (Operand.tmp 6), type := 22, pos := "ref.go:343", after := #[], guard := Option.none }) (v := ?_) rfl (by kernel_rfl) (by kernel_rfl) (by kernel_rfl) (fun _ _ _ h => h) (Or.inl ⟨by rfl, ?_⟩) hS ?_
          rotate_left 1
          · rintro wx ⟨s0, s1⟩
            (go_simp <;> (try with_reducible rfl))
          try simp only [Act.put, List.setIfInBounds_toArray, List.set_cons_zero, List.set_cons_succ]
          refine wpAnyH_take (i := 1) (oi := { dst := Option.some 38, op := Op.move (Operand.tmp 7), type := 3, pos := "ref.go:343", after := #[], guard := Option.none }) (v := ?_) rfl (by kernel_rfl) (by kernel_rfl) (by kernel_rfl) (fun _ _ _ h => h) (Or.inl ⟨by rfl, ?_⟩) hS ?_
          rotate_left 1
          · rintro wx ⟨s0, s1⟩
            (go_simp <;> (try with_reducible rfl))
          try simp only [Act.put, List.setIfInBounds_toArray, List.set_cons_zero, List.set_cons_succ]
          refine wpAnyH_take (i := 2) (oi := { dst := Option.some 39, op := Op.move (Operand.tmp 8), type := 59, pos := "ref.go:343", after := #[], guard := Option.none }) (v := ?_) rfl (by kernel_rfl) (by kernel_rfl) (by kernel_rfl) (fun _ _ _ h => h) (Or.inl ⟨by rfl, ?_⟩) hS ?_
          rotate_left 1
          · rintro wx ⟨s0, s1⟩
            (go_simp <;> (try with_reducible rfl))
          try simp only [Act.put, List.setIfInBounds_toArray, List.set_cons_zero, List.set_cons_succ]
          refine wpAnyH_take (i := 3) (oi := { dst := Option.some 40, op := Op.move (Operand.tmp 9), type := 3, pos := "ref.go:343", after := #[], guard := Option.none }) (v := ?_) rfl (by kernel_rfl) (by kernel_rfl) (by kernel_rfl) (fun _ _ _ h => h) (Or.inl ⟨by rfl, ?_⟩) hS ?_
          rotate_left 1
          · rintro wx ⟨s0, s1⟩
            (go_simp <;> (try with_reducible rfl))
          try simp only [Act.put, List.setIfInBounds_toArray, List.set_cons_zero, List.set_cons_succ]
          refine wpAnyH_take (i := 4) (oi := { dst := Option.some 41, op := Op.indexAddr 59 (Operand.tmp 39) (Operand.tmp 40), type := 0, pos := "ref.go:343", after := #[{ on := 2, ground := Ground.data }, { on := 3, ground := Ground.data }], guard := Option.none }) (v := ?_) rfl (by kernel_rfl) (by kernel_rfl) (by kernel_rfl) (fun _ _ _ h => h) (Or.inl ⟨by rfl, ?_⟩) hS ?_
          rotate_left 1
          · rintro wx ⟨s0, s1⟩
            (go_simp <;> (try with_reducible rfl))
          try simp only [Act.put, List.setIfInBounds_toArray, List.set_cons_zero, List.set_cons_succ]
          refine wpAnyH_take (i := 5) (oi := { dst := Option.some 42, op := Op.fieldAddr 63 (Operand.tmp 41) 0, type := 0, pos := "ref.go:343", after := #[{ on := 4, ground := Ground.data }], guard := Option.none }) (v := ?_) rfl (by kernel_rfl) (by kernel_rfl) (by kernel_rfl) (fun _ _ _ h => h) (Or.inl ⟨by rfl, ?_⟩) hS ?_
          rotate_left 1
          · rintro wx ⟨s0, s1⟩
            (go_simp <;> (try with_reducible rfl))
          try simp only [Act.put, List.setIfInBounds_toArray, List.set_cons_zero, List.set_cons_succ]
          refine wpAnyH_take (i := 6) (oi := { dst := Option.some 43, op := Op.load 3 (Operand.tmp 42), type := 3, pos := "ref.go:343", after := #[{ on := 5, ground := Ground.data }], guard := Option.none }) (v := ?_) rfl (by kernel_rfl) (by kernel_rfl) (by kernel_rfl) (fun _ _ _ h => h) (Or.inl ⟨by rfl, ?_⟩) hS ?_
          rotate_left 1
          · rintro wx ⟨s0, s1⟩
            (go_simp <;> (try with_reducible rfl))
          try simp only [Act.put, List.setIfInBounds_toArray, List.set_cons_zero, List.set_cons_succ]
          refine wpAnyH_take (i := 7) (oi := { dst := Option.some 44, op := Op.move (Operand.tmp 8), type := 59, pos := "ref.go:343", after := #[], guard := Option.none }) (v := ?_) rfl (by kernel_rfl) (by kernel_rfl) (by kernel_rfl) (fun _ _ _ h => h) (Or.inl ⟨by rfl, ?_⟩) hS ?_
          rotate_left 1
          · rintro wx ⟨s0, s1⟩
            (go_simp <;> (try with_reducible rfl))
          try simp only [Act.put, List.setIfInBounds_toArray, List.set_cons_zero, List.set_cons_succ]
          refine wpAnyH_take (i := 8) (oi := { dst := Option.some 45, op := Op.move (Operand.tmp 9), type := 3, pos := "ref.go:343", after := #[], guard := Option.none }) (v := ?_) rfl (by kernel_rfl) (by kernel_rfl) (by kernel_rfl) (fun _ _ _ h => h) (Or.inl ⟨by rfl, ?_⟩) hS ?_
          rotate_left 1
          · rintro wx ⟨s0, s1⟩
            (go_simp <;> (try with_reducible rfl))
          try simp only [Act.put, List.setIfInBounds_toArray, List.set_cons_zero, List.set_cons_succ]
          refine wpAnyH_take (i := 9) (oi := { dst := Option.some 46, op := Op.indexAddr 59 (Operand.tmp 44) (Operand.tmp 45), type := 0, pos := "ref.go:343", after := #[{ on := 7, ground := Ground.data }, { on := 8, ground := Ground.data }], guard := Option.none }) (v := ?_) rfl (by kernel_rfl) (by kernel_rfl) (by kernel_rfl) (fun _ _ _ h => h) (Or.inl ⟨by rfl, ?_⟩) hS ?_
          rotate_left 1
          · rintro wx ⟨s0, s1⟩
            (go_simp <;> (try with_reducible rfl))
          try simp only [Act.put, List.setIfInBounds_toArray, List.set_cons_zero, List.set_cons_succ]
          refine wpAnyH_take (i := 10) (oi := { dst := Option.some 47, op := Op.fieldAddr 63 (Operand.tmp 46) 1, type := 0, pos := "ref.go:343", after := #[{ on := 9, ground := Ground.data }], guard := Option.none }) (v := ?_) rfl (by kernel_rfl) (by kernel_rfl) (by kernel_rfl) (fun _ _ _ h => h) (Or.inl ⟨by rfl, ?_⟩) hS ?_
          rotate_left 1
          · rintro wx ⟨s0, s1⟩
            (go_simp <;> (try with_reducible rfl))
          try simp only [Act.put, List.setIfInBounds_toArray, List.set_cons_zero, List.set_cons_succ]
          refine wpAnyH_take (i := 11) (oi := { dst := Option.some 48, op := Op.load 3 (Operand.tmp 47), type := 3, pos := "ref.go:343", after := #[{ on := 10, ground := Ground.data }], guard := Option.none }) (v := ?_) rfl (by kernel_rfl) (by kernel_rfl) (by kernel_rfl) (fun _ _ _ h => h) (Or.inl ⟨by rfl, ?_⟩) hS ?_
          rotate_left 1
          · rintro wx ⟨s0, s1⟩
            (go_simp <;> (try with_reducible rfl))
          try simp only [Act.put, List.setIfInBounds_toArray, List.set_cons_zero, List.set_cons_succ]
          refine wpAnyH_take (i := 12) (oi := { dst := Option.some 49, op := Op.build 25 #[(0, Operand.tmp 38), (1, Operand.tmp 43), (2, Operand.tmp 48)], type := 25, pos := "ref.go:343", after := #[{ on := 1, ground := Ground.data }, { on := 6, ground := Ground.data }, { on := 11, ground := Ground.data }], guard := Option.none }) (v := ?_) rfl (by kernel_rfl) (by kernel_rfl) (by kernel_rfl) (fun _ _ _ h => h) (Or.inl ⟨by rfl, ?_⟩) hS ?_
          rotate_left 1
          · rintro wx ⟨s0, s1⟩
            (go_simp <;> (try with_reducible rfl))
          try simp only [Act.put, List.setIfInBounds_toArray, List.set_cons_zero, List.set_cons_succ]
          refine wpAnyH_ready (rs := [13]) (by kernel_rfl) (by simp) ?_
          refine AllReadyH.cons (o := { dst := Option.some 50, op := Op.buildSlice 22 1 #[(0, Operand.tmp 49)], type := 22, pos := "ref.go:343", after := #[{ on := 12, ground := Ground.data }], guard := Option.none }) rfl (fun K hK => ?_) AllReadyH.nil
          go_simp
          refine hK.out _ _ keep2 (fun hS => ?_)
          clear hK K
          try simp only [Act.put, List.setIfInBounds_toArray, List.set_cons_zero, List.set_cons_succ]
          refine wpAnyH_ready (rs := [14]) (by kernel_rfl) (by simp) ?_
          refine AllReadyH.cons (o := { dst := Option.some 51, op := Op.call { callee := Callee.builtin Builtin.append, args := #[Operand.tmp 37, Operand.tmp 50], argTypes := #[22, 22] }, type := 22, pos := "ref.go:343", after := #[{ on := 0, ground := Ground.data }, { on := 13, ground := Ground.data }], guard := Option.none }) rfl (fun K hK => ?_) AllReadyH.nil
          refine step_append_run rfl (.tmp 37) (.tmp 50) 22 rfl _ _ (by simp [Act.eval]) (by simp [Act.eval]) happ ?_
          refine hK.out _ _ keep3 (fun hS => ?_)
          clear hK K
          try simp only [Act.put, List.setIfInBounds_toArray, List.set_cons_zero, List.set_cons_succ]
          refine wpAnyH_take (i := 15) (oi := { dst := Option.some 6, op := Op.assign (Operand.tmp 51), type := 22, pos := "ref.go:343", after := #[{ on := 14, ground := Ground.data }, { on := 14, ground := Ground.chain }, { on := 0, ground := Ground.phase }, { on := 1, ground := Ground.phase }, { on := 2, ground := Ground.phase }, { on := 3, ground := Ground.phase }, { on := 4, ground := Ground.phase }, { on := 5, ground := Ground.phase }, { on := 6, ground := Ground.phase }, { on := 7, ground := Ground.phase }, { on := 8, ground := Ground.phase }, { on := 9, ground := Ground.phase }, { on := 10, ground := Ground.phase }, { on := 11, ground := Ground.phase }, { on := 12, ground := Ground.phase }, { on := 13, ground := Ground.phase }, { on := 14, ground := Ground.phase }], guard := Option.none }) (v := ?_) rfl (by kernel_rfl) (by kernel_rfl) (by kernel_rfl) (fun _ _ _ h => h) (Or.inl ⟨by rfl, ?_⟩) hS ?_
          rotate_left 1
          · rintro wx ⟨s0, s1⟩
            (go_simp <;> (try with_reducible rfl))
          try simp only [Act.put, List.setIfInBounds_toArray, List.set_cons_zero, List.set_cons_succ]
          refine wpAnyH_done (by kernel_rfl) ?_ _
          go_wp2_with fail
          go_roundw
          case rel => exact RR.out
          case measure => simp [RowKit.intOf]; omega
        · obtain rfl : k = n := by omega
          have O6 : AtsOwn wr (w.heap.size + 1) (.slice pa pm pc) (uptoSh A (j + 1)) := by
            have e : uptoSh A j ++ (onSheet A (j : Int)).take k = uptoSh A (j + 1) := by rw [uptoSh_succ, HN.out, List.take_length]
            exact Eq.mp (congrArg (AtsOwn wr (w.heap.size + 1) (.slice pa pm pc)) e) HO5.out
          have RR := hid (show CsRel w (bookC b off) A (.slice pa pm pc) (.int .i64 ((j : Int) + 1)) wr from ⟨j + 1, by simp, by omega, HX5.out, O6⟩)
          clear X5 O5 O6 HO5 HCL HR
          go_wp2_with fail
          refine HC'.out _ _ ?_
          go_wp2_with fail
          exact ⟨RR.out, by simp [RowKit.intOf]; omega⟩
    · obtain rfl : j = 2 := by omega
      have R : AtsIn wr (.slice oa om oc) A := Eq.mp (congrArg (AtsIn wr (.slice oa om oc)) (uptoSh_two HB.out.rise HB.out.two)) O3.read
      clear X3 O3
      go_wp2_with fail
      refine HC.out _ _ ?_
      go_wp2_with fail
      go_ret2
      exact ⟨⟨_, rfl, R⟩, HX3.out.low⟩
end Go.Proofs.YtmmknjpcffaidaaGreatDoor
