/- Contract of spill.Place at a workbook of two sheets. Condition: utf8's tables lie as they were laid. -/
import Derived.Test.YthkjmplcmfabfaaGreatDoorSpPl
namespace Go.Proofs.YthkjmplcmfabfaaGreatDoor
open Go.RowKit Go.Lib Go.Maps

open Classical in
set_option maxRecDepth 20000 in
set_option maxHeartbeats 1000000 in
theorem place_no (w : World) (hT : Tabs w) (bv lv : Value) (A : List PAt) (tx : PAt → ByteArray) (l : List PSp) (hB : BookAt w bv A tx) (hl : SpsIn w lv l) (hm : ¬ mayP A l) :
    Calls Tryz.prog 7 #[bv, lv] w fun e w' => e = .returned (.tuple #[.slice none 0 0, .slice none 0 0, .int .i64 140]) ∧ Below w.heap.size w w' := by
  have HCE := hid (fun (y : World) (hb : Below w.heap.size w y) => cells_any y (hT.below hb) bv A tx (hB.below hb))
  have HMA := hid (fun (y : World) (cv : Value) (hb : Below w.heap.size w y) (hc : AtsIn y cv A) => by
    have := may_any y lv cv A l (hl.below hb) hc hB.rise (by have := hB.few; omega)
    rwa [decide_eq_false hm] at this)
  obtain ⟨⟨b, off, bc, v0, v1, hbc, rfl, -⟩, -⟩ := hB
  obtain ⟨la, ln, lc, rfl⟩ : ∃ a n c, lv = .slice a n c := by obtain ⟨a, c, _, _, e, _⟩ := hl.view; exact ⟨_, _, _, e⟩
  have HX0 := hid (show Cx w (bookC b off bc) (w.alloc (.cells (bookC b off bc) 30)) from ⟨heap_alloc_new w _, (Below.refl _ w).alloc (Nat.le_refl _) _⟩)
  clear hT hl hm
  go_enter Tryz.func7, Tryz.ntmps7
  go_wp2_with fail
  refine (HCE.out _ HX0.out.low).mono ?_
  rintro e w1 ⟨⟨cv, rfl, hcv⟩, b1⟩
  have HX1 := hid (HX0.out.keep b1)
  have HCV := hid hcv
  obtain ⟨ca, cn, cc, rfl⟩ : ∃ a n c, cv = .slice a n c := by obtain ⟨a, c, _, _, e, _⟩ := hcv.view; exact ⟨_, _, _, e⟩
  clear b1 HX0 hcv
  go_wp2_with fail
  refine (HMA.out _ _ HX1.out.low HCV.out).mono ?_
  rintro e w2 ⟨rfl, b2⟩
  have HX2 := hid (HX1.out.keep b2)
  clear b2
  go_wp2_with fail
  go_ret3
  exact ⟨rfl, HX2.out.low⟩

open Classical in
set_option maxRecDepth 20000 in
set_option maxHeartbeats 4000000 in
theorem place_yes (w : World) (hT : Tabs w) (bv lv : Value) (A : List PAt) (tx : PAt → ByteArray) (l : List PSp) (hB : BookAt w bv A tx) (hl : SpsIn w lv l) (hm : mayP A l) (hll : l.length ≤ 1000) :
    Calls Tryz.prog 7 #[bv, lv] w fun e w' => (∃ pv qv, e = .returned (.tuple #[pv, qv, .int .i64 0]) ∧ SpsIn w' pv (placeP (fun p => p ∈ A) l).1 ∧ AtsIn w' qv (placeP (fun p => p ∈ A) l).2 ∧ Capped pv ∧ Capped qv) ∧ Below w.heap.size w w' := by
  have HCE := hid (fun (y : World) (hb : Below w.heap.size w y) => cells_any y (hT.below hb) bv A tx (hB.below hb))
  have HMA := hid (fun (y : World) (cv : Value) (hb : Below w.heap.size w y) (hc : AtsIn y cv A) => by
    have := may_any y lv cv A l (hl.below hb) hc hB.rise (by have := hB.few; omega)
    rwa [decide_eq_true hm] at this)
  have HFEW := hid hB.few
  have HTWO := hid hB.two
  have HOK := hid (mayP_ok hm)
  have HORD := hid (mayP_order hm)
  have hmm := @run_makeMap Tryz.prog
  obtain ⟨⟨b, off, bc, v0, v1, hbc, rfl, -⟩, -⟩ := hB
  obtain ⟨la, lc, lb, lo, rfl, -, hlv⟩ := hl.view
  have HLV := hid hlv
  obtain ⟨n, hn⟩ : ∃ n, n = l.length := ⟨_, rfl⟩
  rw [← hn] at hll ⊢
  have HN := hid hn
  have HX0 := hid (show Cx w (bookC b off bc) (w.alloc (.cells (bookC b off bc) 30)) from ⟨heap_alloc_new w _, (Below.refl _ w).alloc (Nat.le_refl _) _⟩)
  rw [← hn] at HMA
  clear hT hl hm hlv hn
  go_enter Tryz.func7, Tryz.ntmps7
  go_wp2_with fail
  refine (HCE.out _ HX0.out.low).mono ?_
  rintro e w1 ⟨⟨cv, rfl, hcv⟩, b1⟩
  have HX1 := hid (HX0.out.keep b1)
  have HCV := hid hcv
  obtain ⟨ca, cc, cb, co, rfl, hcl, hcw⟩ := hcv.view
  obtain ⟨cn, hcn⟩ : ∃ cn, cn = A.length := ⟨_, rfl⟩
  rw [← hcn] at hcl HCV ⊢
  have HCN := hid hcn
  have HCW := hid hcw
  clear b1 HX0 hcv hcn hcw
  go_wp2_with fail
  refine (HMA.out _ _ HX1.out.low HCV.out).mono ?_
  rintro e w2 ⟨rfl, b2⟩
  have HX2 := hid (HX1.out.keep b2)
  have HB2 := hid b2
  clear b2
  go_wp2_with fail
  obtain ⟨B, hBs⟩ : ∃ B, B = w2.heap.size := ⟨_, rfl⟩
  have HP0 := hid (show Pl w B 0 (fun p => p ∈ A.take 0) [] [] (.slice none 0 0) (.slice none 0 0) (w2.alloc (.map #[] 0)) from ⟨by
    have := TakenAt.made w2
    rw [← hBs] at this
    exact this.of_iff (Nat.le_refl _) (fun p => by simp), SpsOwn.nil _ _, AtsOwn.nil _ _, HX2.out.low.trans (((Below.refl _ w2).alloc (Nat.le_refl _) _).mono HX2.out.low.size), by rw [hBs]; exact HX2.out.lt⟩)
  have HCL := hid (fun (j : Nat) (p : PAt) (hp : A[j]? = some p) (y : World) (hy : Below w1.heap.size w1 y) => show ca = some ⟨cb, co, none⟩ ∧ y.cell? ⟨cb, co + j * 3, none⟩ = some (.int .i64 p.1) ∧ y.cell? ⟨cb, co + j * 3 + 1, none⟩ = some (.int .i64 p.2.1) ∧ y.cell? ⟨cb, co + j * 3 + 2, none⟩ = some (.int .i64 p.2.2) from by
    obtain ⟨h0, h1, h2, h3⟩ := HCW.out j p hp
    have k : ∀ {p : Addr} {u : Value}, w1.cell? p = some u → y.cell? p = some u := fun {p u} hc => (hy.cell (World.block_lt_of_cell? _ _ hc)).trans hc
    exact ⟨h0, k h1, k h2, k h3⟩)
  have HLO := hid (show w1.heap.size ≤ B by rw [hBs]; exact HB2.out.size)
  have HBW := hid (show Below w1.heap.size w1 (w2.alloc (.map #[] 0)) from HB2.out.trans (((Below.refl _ w2).alloc (Nat.le_refl _) _).mono HB2.out.size))
  rw [← hBs]
  generalize World.alloc _ _ = w3 at HP0 HBW ⊢
  clear HX1 HX2 HB2 HCW hBs hmm HCV HMA HCE
  rename_i K hK
  have HC := hid hK
  clear hK
  go_loopw [33] (fun i wr => P1Rel w w1 A B i wr) (fun i _ => cn - (RowKit.intOf i).toNat)
  case atStart => exact ⟨0, rfl, by omega, HP0.out, HBW.out⟩
  case round =>
    obtain ⟨j, rfl, hj, hP, hb1⟩ := hrel
    rw [← HCN.out] at hj
    have HP := hid hP
    have HB1 := hid hb1
    clear hP hb1 HP0 HBW
    by_cases hjn : j < cn
    · obtain ⟨p, hp⟩ : ∃ p, A[j]? = some p := ⟨_, List.getElem?_eq_getElem (by rw [← HCN.out]; omega)⟩
      obtain ⟨rfl, k0, k1, k2⟩ := HCL.out j p hp wr HB1.out
      have hcn := HFEW.out
      rw [← HCN.out] at hcn
      have hin := HTWO.out p (List.mem_of_getElem? hp)
      unfold InTwo at hin
      have bA := (Below.refl wr.heap.size wr).alloc (Nat.le_refl _) (.cells #[.int .i64 p.1, .int .i64 p.2.1, .int .i64 p.2.2] 38)
      obtain ⟨w', hput, hP', hchg⟩ := (HP.out.keep bA).put (by omega) p ⟨by omega, by omega, by omega⟩
      unfold atV at hput
      have hb2 : Below w1.heap.size w1 w' := (HB1.out.trans (bA.mono HB1.out.size)).trans (hchg.below (B := w1.heap.size) (fun g hg => by simp at hg; rw [hg]; exact HLO.out) (Nat.le_trans HB1.out.size (by simp)))
      have RR := hid (show P1Rel w w1 A B (.int .i64 ((j : Int) + 1)) w' from ⟨j + 1, by simp, by rw [← HCN.out]; omega, hP'.of_iff (Nat.le_refl _) (fun q => by
        obtain ⟨hk, ek⟩ := List.getElem?_eq_some_iff.1 hp
        rw [List.take_succ_eq_append_getElem hk, ek]
        simp), hb2⟩)
      clear hcn hin bA hP' hchg hb2 hp
      go_wp2_with fail
      go_roundw
      case rel => exact RR.out
      case measure => simp [RowKit.intOf]; omega
    · obtain rfl : j = cn := by omega
      have HP2 := hid (show Pl w B (A.length + 400 * 0) (takenP (fun p => p ∈ A) (l.take 0)) [] [] (.slice none 0 0) (.slice none 0 0) wr from HP.out.of_iff (by rw [HCN.out]; omega) (fun p => by rw [List.take_zero, takenP_nil, HCN.out, List.take_length]))
      clear HP HCL HB1 HLO
      go_wp2_with fail
      refine HC.out _ _ ?_
      go_wp2_with fail
      rename_i K' hK'
      have HC' := hid hK'
      clear hK'
      go_loopw [4, 5, 42] (fun pv qv i wr => P2Rel w A l B pv qv i wr) (fun _ _ i _ => n - (RowKit.intOf i).toNat)
      case atStart => exact ⟨0, rfl, by omega, HP2.out⟩
      case round =>
        obtain ⟨k, rfl, hk, hP⟩ := hrel
        rw [← HN.out] at hk
        obtain ⟨pa, pm, pc, rfl, hpm⟩ := hP.sp.view
        obtain ⟨qa, qm, qc, rfl, hqm⟩ := hP.at'.view
        have HPM := hid hpm
        have HQM := hid hqm
        have HP := hid hP
        have hsz := hP.size
        have hBl := hP.map.lt
        clear hP hpm hqm HP2
        by_cases hkn : k < n
        · obtain ⟨x, hx⟩ : ∃ x, l[k]? = some x := ⟨_, List.getElem?_eq_getElem (by rw [← HN.out]; omega)⟩
          obtain ⟨rfl, k0, k1, k2, k3, k4⟩ := HLV.out k x hx
          have kk : ∀ {p : Addr} {u : Value}, w.cell? p = some u → wr.cell? p = some u := fun {p u} hc => (HP.out.low.cell (World.block_lt_of_cell? _ _ hc)).trans hc
          have k0' := kk k0
          have k1' := kk k1
          have k2' := kk k2
          have k3' := kk k3
          have k4' := kk k4
          have hok := HOK.out x (List.mem_of_getElem? hx)
          have HX := hid hx
          have HOKX := hid hok
          have HAR := hid (fun w => area_any x w)
          have HRI := hid (fun w => right_any x w)
          clear kk k0 k1 k2 k3 k4 hx hok
          unfold spV at HAR HRI
          -- ROUND (printed by gen_place.py)
          have PA := HP.out.keep ((Below.refl wr.heap.size wr).alloc (Nat.le_refl _) (.cells #[.int .i64 x.1.1, .int .i64 x.1.2.1, .int .i64 x.1.2.2, .int .i64 x.2.1, .int .i64 x.2.2] 40))
          have GA := heap_alloc_new wr (.cells #[.int .i64 x.1.1, .int .i64 x.1.2.1, .int .i64 x.1.2.2, .int .i64 x.2.1, .int .i64 x.2.2] 40)
          have HPA := hid (show _ ∧ _ from ⟨PA, GA⟩)
          have hlen := placeP_length (l.take k) (fun p => p ∈ A)
          rw [← HPM.out, ← HQM.out, List.length_take, ← HN.out] at hlen
          have hpm1 : pm ≤ 1000 := by omega
          have hqm1 : qm ≤ 1000 := by omega
          have hown := HP.out.sp.low
          have HOWN := hid hown
          clear PA GA hlen hown hsz hBl
          go_wp2_with fail
          refine (HAR.out _).mono ?_
          rintro e w4 ⟨rfl, b4⟩
          have P4 := HPA.out.1.keep b4
          have G4 := (b4.block wr.heap.size (by simp)).trans HPA.out.2
          obtain ⟨g, hg⟩ : ∃ g, g = wr.heap.size := ⟨_, rfl⟩
          rw [← hg] at G4 ⊢
          have HPG4 := hid (show _ ∧ _ from ⟨P4, G4⟩)
          have HG := hid hg
          clear b4 P4 G4 HPA hg k0' k1' k2' k3' k4'
          go_wp2_with fail
          refine (HRI.out _).mono ?_
          rintro e w5 ⟨rfl, b5⟩
          have b5' := ((Below.refl w4.heap.size w4).alloc (Nat.le_refl _) (.cells #[.int .i64 x.1.1, .int .i64 x.1.2.1, .int .i64 x.1.2.2, .int .i64 x.2.1, .int .i64 x.2.2] 46)).trans (b5.mono (by simp))
          have P5 := HPG4.out.1.keep b5'
          have G5 := (b5'.block g (heap_lt HPG4.out.2)).trans HPG4.out.2
          have A5 := (b5.block w4.heap.size (by simp)).trans (heap_alloc_new w4 (.cells #[.int .i64 x.1.1, .int .i64 x.1.2.1, .int .i64 x.1.2.2, .int .i64 x.2.1, .int .i64 x.2.2] 46))
          have HPG5 := hid (show _ ∧ _ from ⟨P5, G5⟩)
          have d0 := cell_of (i := 0) A5 rfl
          have d1 := cell_of (i := 1) A5 rfl
          have d2 := cell_of (i := 2) A5 rfl
          have d3 := cell_of (i := 3) A5 rfl
          have d4 := cell_of (i := 4) A5 rfl
          clear b5 b5' P5 G5 A5 HPG4
          by_cases hr : rightP x
          · rw [decide_eq_true hr]
            have hfa := fun (w : World) (hmap : TakenAt w B (A.length + 400 * k) (takenP (fun p => p ∈ A) (l.take k))) => free_any w x hr B _ _ hmap
            unfold spV at hfa
            have HFA := hid hfa
            clear hfa
            go_wp2_with fail
            refine (HFA.out _ HPG5.out.1.map).mono ?_
            rintro e w6 ⟨rfl, b6⟩
            have P6 := HPG5.out.1.keep b6
            have G6 := (b6.block g (heap_lt HPG5.out.2)).trans HPG5.out.2
            have HPG6 := hid (show _ ∧ _ from ⟨P6, G6⟩)
            clear b6 P6 G6 d0 d1 d2 d3 d4
            by_cases hf : freeP x (takenP (fun p => p ∈ A) (l.take k))
            · rw [decide_eq_true hf]
              have hpl := here_placed HORD.out HX.out (T := fun p => p ∈ A) ⟨hr, hf⟩
              have htk := fun p => takenP_placed HX.out HORD.out (T := fun p => p ∈ A) ⟨hr, hf⟩ p
              have HPL := hid hpl
              have HTK := hid htk
              have c0 := cell_of (i := 0) HPG6.out.2 rfl
              have c1 := cell_of (i := 1) HPG6.out.2 rfl
              have c2 := cell_of (i := 2) HPG6.out.2 rfl
              have c3 := cell_of (i := 3) HPG6.out.2 rfl
              have c4 := cell_of (i := 4) HPG6.out.2 rfl
              obtain ⟨a2, c2', w7, happ, P7, hchg⟩ := HPG6.out.1.app_sp (g := w6.heap.size) HPM.out rfl (by omega) x
              have G7 := hchg.heap HPG6.out.2 (fun hg => by have := (HOWN.out g (mem_own hg)).2; rw [← HG.out] at this; omega)
              unfold spC at happ
              have hok := HOKX.out
              unfold okP at hok
              unfold rightP at hr
              obtain ⟨x4, hx4⟩ : ∃ x4, x4 = x.2.1 := ⟨_, rfl⟩
              obtain ⟨x5, hx5⟩ : ∃ x5, x5 = x.2.2 := ⟨_, rfl⟩
              obtain ⟨x1, hx1⟩ : ∃ x1, x1 = x.1.1 := ⟨_, rfl⟩
              obtain ⟨x2, hx2⟩ : ∃ x2, x2 = x.1.2.1 := ⟨_, rfl⟩
              obtain ⟨x3, hx3⟩ : ∃ x3, x3 = x.1.2.2 := ⟨_, rfl⟩
              have hxx : x = ((x1, x2, x3), x4, x5) := by rw [hx1, hx2, hx3, hx4, hx5]
              rw [← hx4, ← hx5] at hok hr
              rw [← hx1, ← hx2, ← hx3] at hr
              obtain ⟨-, o1, o2, o3, o4, o5⟩ := hok
              obtain ⟨r1, r2, r3, r4, r5, r6, r7, r8, r9, r10⟩ := hr
              rw [← hx1, ← hx2, ← hx3, ← hx4, ← hx5] at happ c0 c1 c2 c3 c4 ⊢
              have hmul : ∀ r : Nat, (r : Int) ≤ x4 → r * x5.toNat ≤ 400 := fun r h => by
                have h1 : ((r * x5.toNat : Nat) : Int) ≤ 400 := by
                  rw [Int.natCast_mul, Int.toNat_of_nonneg (by omega)]
                  exact Int.le_trans (Int.mul_le_mul_of_nonneg_right h (by omega)) o5
                omega
              have HMUL := hid hmul
              have HXX := hid hxx
              have P7' : Pl w B (A.length + 400 * k + 0 * x5.toNat) (fun p => takenP (fun p => p ∈ A) (l.take k) p ∨ tileUp x 0 0 p) ((placeP (fun p => p ∈ A) (l.take k)).1 ++ [x]) (placeP (fun p => p ∈ A) (l.take k)).2 (.slice a2 (pm + 1) c2') (.slice qa qm qc) w7 := P7.of_iff (by omega) (fun p => ⟨.inl, fun h => h.resolve_right tileUp_zero⟩)
              have HR0 := hid (show PrRel w x B (A.length + 400 * k) g (takenP (fun p => p ∈ A) (l.take k)) ((placeP (fun p => p ∈ A) (l.take k)).1 ++ [x]) (placeP (fun p => p ∈ A) (l.take k)).2 (.slice a2 (pm + 1) c2') (.slice qa qm qc) (.int .i64 0) w7 from ⟨0, rfl, by rw [← hx4]; exact Int.le_trans (by decide) o1, by rw [← hx5]; exact P7', G7⟩)
              have e3 := cell_of (i := 3) G7 (v := .int .i64 x4) (by rw [hx4]; rfl)
              clear hf hpl htk P7 P7' G7 hchg hmul hx1 hx2 hx3 hx4 hx5 hxx HPG5 HPG6
              go_wp2_with (at_builtin; refine wpList_append_run rfl _ _ _ rfl _ _ rfl rfl happ ?_)
              clear happ c0 c1 c2 c3 c4 e3
              rename_i K2 hK2
              have HC2 := hid hK2
              clear hK2
              go_loopw [68] (fun i wr => PrRel w x B (A.length + 400 * k) g (takenP (fun p => p ∈ A) (l.take k)) ((placeP (fun p => p ∈ A) (l.take k)).1 ++ [x]) (placeP (fun p => p ∈ A) (l.take k)).2 (.slice a2 (pm + 1) c2') (.slice qa qm qc) i wr) (fun i _ => x4.toNat - (RowKit.intOf i).toNat)
              case atStart => exact HR0.out
              case round =>
                obtain ⟨r, rfl, hr, hP, hG⟩ := hrel
                rw [HXX.out] at hr
                dsimp only at hr
                have HP9 := hid (show _ ∧ _ from ⟨hP, hG⟩)
                have e4 := cell_of (i := 4) hG (v := .int .i64 x5) (by rw [HXX.out]; rfl)
                clear hP hG HR0
                by_cases hrx : (r : Int) < x4
                · have hrt : ((r : Int) < x4) = True := by rw [eq_iff_iff, iff_true]; exact hrx
                  have HRM := hid (HMUL.out r hr)
                  go_wp2_with fail
                  have R0 := hid (show PcRel w x B (A.length + 400 * k) g r (takenP (fun p => p ∈ A) (l.take k)) ((placeP (fun p => p ∈ A) (l.take k)).1 ++ [x]) (placeP (fun p => p ∈ A) (l.take k)).2 (.slice a2 (pm + 1) c2') (.slice qa qm qc) (.int .i64 0) wr from ⟨0, rfl, by rw [HXX.out]; exact Int.le_trans (by decide) o2, HP9.out.1, HP9.out.2⟩)
                  clear e4 HP9
                  rename_i K3 hK3
                  have HC3 := hid hK3
                  clear hK3
                  go_loopw [73] (fun i wr => PcRel w x B (A.length + 400 * k) g r (takenP (fun p => p ∈ A) (l.take k)) ((placeP (fun p => p ∈ A) (l.take k)).1 ++ [x]) (placeP (fun p => p ∈ A) (l.take k)).2 (.slice a2 (pm + 1) c2') (.slice qa qm qc) i wr) (fun i _ => x5.toNat - (RowKit.intOf i).toNat)
                  case atStart => exact R0.out
                  case round =>
                    obtain ⟨c, rfl, hc, hP, hG⟩ := hrel
                    rw [HXX.out] at hc
                    dsimp only at hc
                    have HP10 := hid (show _ ∧ _ from ⟨hP, hG⟩)
                    have e0 := cell_of (i := 0) hG (v := .int .i64 x1) (by rw [HXX.out]; rfl)
                    have e1 := cell_of (i := 1) hG (v := .int .i64 x2) (by rw [HXX.out]; rfl)
                    have e2 := cell_of (i := 2) hG (v := .int .i64 x3) (by rw [HXX.out]; rfl)
                    clear hP hG R0
                    by_cases hcx : (c : Int) < x5
                    · have hct : ((c : Int) < x5) = True := by rw [eq_iff_iff, iff_true]; exact hcx
                      have hfw := HFEW.out
                      have hrm := HRM.out
                      obtain ⟨w', hput, hP', hchg'⟩ := HP10.out.1.put (by rw [HXX.out]; dsimp only; omega) (x1, x2 + r, x3 + c) ⟨by dsimp only; omega, by dsimp only; omega, by dsimp only; omega⟩
                      have hG' := hchg'.heap HP10.out.2 (by
                        intro hb
                        simp at hb
                        obtain ⟨D, ⟨es, clock, hm, -⟩, -⟩ := HP10.out.1.map
                        exact heap_map_ne hm HP10.out.2 hb.symm)
                      have RR := hid (show PcRel w x B (A.length + 400 * k) g r (takenP (fun p => p ∈ A) (l.take k)) ((placeP (fun p => p ∈ A) (l.take k)).1 ++ [x]) (placeP (fun p => p ∈ A) (l.take k)).2 (.slice a2 (pm + 1) c2') (.slice qa qm qc) (.int .i64 ((c : Int) + 1)) w' from ⟨c + 1, by simp, by rw [HXX.out]; dsimp only; omega, hP'.of_iff (by omega) (fun p => by rw [tileUp_col, HXX.out]; exact or_assoc), hG'⟩)
                      unfold atV at hput
                      dsimp only at hput
                      clear hP' hchg' hG' HP10 hfw hrm
                      go_wp2_with fail
                      go_roundw
                      case rel => exact RR.out
                      case measure => simp [RowKit.intOf]; omega
                    · have hct : ((c : Int) < x5) = False := by rw [eq_iff_iff, iff_false]; exact hcx
                      have RR := hid (show PrRel w x B (A.length + 400 * k) g (takenP (fun p => p ∈ A) (l.take k)) ((placeP (fun p => p ∈ A) (l.take k)).1 ++ [x]) (placeP (fun p => p ∈ A) (l.take k)).2 (.slice a2 (pm + 1) c2') (.slice qa qm qc) (.int .i64 ((r : Int) + 1)) wr from ⟨r + 1, by simp, by rw [HXX.out]; dsimp only; omega, HP10.out.1.of_iff (by
                        rw [HXX.out]
                        dsimp only
                        rw [Nat.add_mul]
                        omega) (fun p => by rw [tileUp_row (show x.2.2 = (c : Int) by rw [HXX.out]; dsimp only; omega)]), HP10.out.2⟩)
                      clear HP10 e0 e1 e2
                      go_wp2_with fail
                      refine HC3.out _ _ ?_
                      go_wp2_with fail
                      exact ⟨RR.out, by simp [RowKit.intOf]; omega⟩
                · have hrt : ((r : Int) < x4) = False := by rw [eq_iff_iff, iff_false]; exact hrx
                  have RR := hid (show P2Rel w A l B (.slice a2 (pm + 1) c2') (.slice qa qm qc) (.int .i64 ((k : Int) + 1)) wr from ⟨k + 1, by simp, by rw [← HN.out]; omega, by
                    have hrm := HMUL.out r hr
                    have h8 := HP9.out.1.of_iff (M := A.length + 400 * (k + 1)) (T' := takenP (fun p => p ∈ A) (l.take (k + 1))) (by rw [HXX.out]; dsimp only; omega) (fun p => by
                      rw [HTK.out p, tileUp_all (show x.2.1 = (r : Int) by rw [HXX.out]; dsimp only; omega)])
                    rw [HPL.out.2.2.1, HPL.out.2.2.2]
                    exact h8⟩)
                  clear HP9 e4
                  go_wp2_with fail
                  refine HC2.out _ _ ?_
                  go_wp2_with fail
                  exact ⟨RR.out, by simp [RowKit.intOf]; omega⟩
            · rw [decide_eq_false hf]
              have c0 := cell_of (i := 0) HPG6.out.2 rfl
              have c1 := cell_of (i := 1) HPG6.out.2 rfl
              have c2 := cell_of (i := 2) HPG6.out.2 rfl
              obtain ⟨a2, c2', w7, happ, P7, -⟩ := HPG6.out.1.app_at (g := w6.heap.size) HQM.out rfl (by omega) x.1
              unfold atC at happ
              have hbl := here_blocked HORD.out HX.out (T := fun p => p ∈ A) (fun h => hf h.2)
              have RR := hid (show P2Rel w A l B (.slice pa pm pc) (.slice a2 (qm + 1) c2') (.int .i64 ((k : Int) + 1)) w7 from ⟨k + 1, by simp, by rw [← HN.out]; omega, by
                have h8 := P7.of_iff (M := A.length + 400 * (k + 1)) (by omega) (fun p => (takenP_blocked HX.out HORD.out (T := fun p => p ∈ A) (fun h => hf h.2) p).symm)
                rw [hbl.2.2.1, hbl.2.2.2]
                exact h8⟩)
              clear hbl P7 hr hf
              go_wp2_with (at_builtin; refine wpList_append_run rfl _ _ _ rfl _ _ rfl rfl happ ?_)
              go_roundw
              case rel => exact RR.out
              case measure => simp [RowKit.intOf]; omega
          · rw [decide_eq_false hr]
            clear d0 d1 d2 d3 d4
            have c0 := cell_of (i := 0) HPG5.out.2 rfl
            have c1 := cell_of (i := 1) HPG5.out.2 rfl
            have c2 := cell_of (i := 2) HPG5.out.2 rfl
            obtain ⟨a2, c2', w7, happ, P7, -⟩ := HPG5.out.1.app_at (g := w5.heap.size) HQM.out rfl (by omega) x.1
            unfold atC at happ
            have hbl := here_blocked HORD.out HX.out (T := fun p => p ∈ A) (fun h => hr h.1)
            have RR := hid (show P2Rel w A l B (.slice pa pm pc) (.slice a2 (qm + 1) c2') (.int .i64 ((k : Int) + 1)) w7 from ⟨k + 1, by simp, by rw [← HN.out]; omega, by
              have h8 := P7.of_iff (M := A.length + 400 * (k + 1)) (by omega) (fun p => (takenP_blocked HX.out HORD.out (T := fun p => p ∈ A) (fun h => hr h.1) p).symm)
              rw [hbl.2.2.1, hbl.2.2.2]
              exact h8⟩)
            clear hbl P7 hr
            go_wp2_with (at_builtin; refine wpList_append_run rfl _ _ _ rfl _ _ rfl rfl happ ?_)
            go_roundw
            case rel => exact RR.out
            case measure => simp [RowKit.intOf]; omega
        · obtain rfl : k = n := by omega
          have hfin := HP.out
          rw [HN.out, List.take_length] at hfin
          have HF := hid hfin
          clear hfin
          go_wp2_with fail
          refine HC'.out _ _ ?_
          go_wp2_with fail
          go_ret3
          exact ⟨⟨_, _, rfl, HF.out.sp.read, HF.out.at'.read, ownsRow_capped HF.out.sp, ownsRow_capped HF.out.at'⟩, HF.out.low⟩
end Go.Proofs.YthkjmplcmfabfaaGreatDoor
