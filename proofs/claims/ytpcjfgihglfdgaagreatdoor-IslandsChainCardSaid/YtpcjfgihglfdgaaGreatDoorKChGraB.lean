/- Contract of deps.Graph at one sheet with formulas in the first column. Condition: what the package-level variables hold lies as it was laid. Plain: graphs whose nodes read lesser ones alone; rings. No program in sight. Plain: the three graphs of the law (each formula reads the one above it; the one beneath it and the next; a ring) and their islands. No program in sight. Plain: the law's three workbooks: their formulas, what each reads, and the graphs of it. No program is run. Contract of slices.BinarySearchFunc at places. No condition. -/
import Derived.Test.YtpcjfgihglfdgaaGreatDoorKChGraC
import Derived.Test.YtpcjfgihglfdgaaGreatDoorKCjTab
import Derived.Test.YtpcjfgihglfdgaaGreatDoorKChShape
import Derived.Test.YtpcjfgihglfdgaaGreatDoorKSpRead
import Derived.Deep.RegionHeldLaw

namespace Go.Proofs.YtpcjfgihglfdgaaGreatDoor
open Go.RowKit Go.Lib Go.Maps
attribute [local go_sem] Oper.semAt_some wide_fn

theorem place_ok (j : Nat) (h : j ≤ 1000) : I64t ((0 : Int), (j : Int), (0 : Int)) := by
  unfold I64t I64
  dsimp only
  omega
set_option maxRecDepth 20000 in
set_option maxHeartbeats 4000000 in
theorem graph_any {w : World} (hE : Env w) {v : Value} {k : Nat} {tx : PAt → ByteArray} {l : Nat → List UInt8} {o : Nat → Ow} {ks : Nat → Fo} {ar : Nat → Option (Nat × Nat)} (hB : Bk1 w v (placesN k) tx) (hF : Fm k tx l o ks) (hA : Fa k o ks ar) :
    Calls Tryz.prog 6 #[v, .slice none 0 0] w (GrEnd w ar k) := by
  have HBK := hid hB
  have HEn := hid hE
  have HF := hid hF
  have HA := hid hA
  obtain ⟨⟨b, off, bc, v0, hbc, rfl, -, -, -⟩, -, -, -, -⟩ := hB
  have b0 := (Below.refl w.heap.size w).alloc (Nat.le_refl _) (.cells (bookC1 b off bc) 39)
  have g0 := heap_alloc_new w (.cells (bookC1 b off bc) 39)
  obtain ⟨n, hn⟩ : ∃ n, n = w.heap.size := ⟨_, rfl⟩
  have HN := hid hn
  have B0 := hid b0
  have hmm := @run_makeMap Tryz.prog
  clear hE hF hA b0 hn
  refine (callsIn_wide (n := 5)).1 ?_
  refine callsIn_of_wp_marks Tryz.func6 rfl trivial ?_ rfl
  simp only [Tryz.ntmps6, List.size_toArray, List.length_cons, List.length_nil, Nat.reduceAdd, Nat.reduceSub, Array.replicate_succ, Array.replicate_zero, List.push_toArray, List.append_toArray, List.nil_append, List.cons_append]
  gi_wp2_with fail
  rw [← HN.out] at g0 B0 ⊢
  generalize World.alloc _ _ = w0 at g0 B0 ⊢
  refine (callsIn_wide.2 (check1 w0 (HEn.out.below (by have := B0.out; rw [HN.out] at this; exact this)) _ _ tx (HBK.out.below (by have := B0.out; rw [HN.out] at this; exact this)))).mono ?_
  rintro e w1 ⟨rfl, b1⟩
  have G1 := hid ((b1.block _ (heap_lt g0)).trans g0)
  have hnl := heap_lt g0
  have B1 := hid (B0.out.trans (b1.mono (by omega)))
  have hnl1 := heap_lt G1.out
  clear b1 g0 B0 hnl
  gi_wp2_with fail
  obtain ⟨y2, hy2⟩ : ∃ y2, y2 = ((w1.alloc (.cells #[.int .i64 0, .int .i64 0, .int .i64 0] 46)).alloc (.map #[] 0)).alloc (.cells #[.map (some (w1.heap.size + 1))] 54) := ⟨_, rfl⟩
  obtain ⟨mn, hmn⟩ : ∃ mn, mn = w1.heap.size + 1 := ⟨_, rfl⟩
  have hb2 : Below w1.heap.size w1 y2 := by rw [hy2]; exact (((Below.refl _ w1).alloc (Nat.le_refl _) _).alloc (by simp) _).alloc (by simp; omega) _
  have hM2 : MapV y2 46 (.int .i64 0) placeV mn 0 (fun _ => none) := by
    rw [hy2]
    have := (MapV.made (w1.alloc (.cells #[.int .i64 0, .int .i64 0, .int .i64 0] 46)) 46 (.int .i64 0) placeV).below ((Below.refl _ _).alloc (Nat.le_refl _) (.cells #[.map (some (w1.heap.size + 1))] 54))
    rw [World.size_alloc, ← hmn] at this
    rw [hmn] at this ⊢
    exact this
  have hc2 : y2.heap[w1.heap.size + 1 + 1]? = some (.cells #[.map (some (w1.heap.size + 1))] 54 (0, 0)) := by
    rw [hy2]
    have := heap_alloc_new ((w1.alloc (.cells #[.int .i64 0, .int .i64 0, .int .i64 0] 46)).alloc (.map #[] 0)) (.cells #[.map (some (w1.heap.size + 1))] 54)
    simpa using this
  have hs2 : y2.heap.size = w1.heap.size + 1 + 1 + 1 := by rw [hy2]; simp
  rw [← hy2]
  rw [← hmn] at hc2 hs2 ⊢
  have HS2 := hid hs2
  have HMN := hid hmn
  have g2 := (hb2.block _ hnl1).trans G1.out
  have B2 := hid (B1.out.trans (hb2.mono (by have := B1.out.size; omega)))
  clear hy2 hmn hs2 B1 G1 hb2
  refine (callsIn_wide.2 (new_any y2)).mono ?_
  rintro e y3 ⟨rfl, hy3⟩
  have X3 := Ix.made y2
  rw [← hy3] at X3
  have hb3 : Below y2.heap.size y2 y3 := by rw [hy3]; exact (((Below.refl _ y2).alloc (Nat.le_refl _) _).alloc (by simp) _).alloc (by simp; omega) _
  have hs3 : y3.heap.size = y2.heap.size + 1 + 1 + 1 := by rw [hy3]; simp
  have hs3' := hs3
  rw [HS2.out] at hs3
  clear hy3
  have b4 := (Below.refl y3.heap.size y3).alloc (Nat.le_refl _) (.cells #[.pointer (some ⟨y2.heap.size + 1 + 1, 0, none⟩)] 55)
  have n4 := heap_alloc_new y3 (.cells #[.pointer (some ⟨y2.heap.size + 1 + 1, 0, none⟩)] 55)
  have hb24 := hb3.trans (b4.mono hb3.size)
  have g4 := (hb24.block _ (heap_lt g2)).trans g2
  have c4 := (hb24.block _ (heap_lt hc2)).trans hc2
  have HM4 := hid (hM2.below hb24)
  have HX4 := hid (X3.keep b4)
  have HB4 := hid (B2.out.trans (hb24.mono (by have := B2.out.size; have := heap_lt g2; omega)))
  have k0 := cell_of (i := 0) g4 rfl
  have k1 := cell_of (i := 1) g4 rfl
  have k2 := cell_of (i := 2) g4 rfl
  have k3 := cell_of (i := 3) g4 rfl
  have HG4 := hid g4
  have HC4 := hid c4
  have HN4 := hid n4
  have HS3 := hid hs3
  have hnl2 := heap_lt g2
  clear hb3 b4 hb24 X3 hM2 hc2 g2 B2 g4 c4 n4 hs3 hs3'
  gi_wp2_with fail
  obtain ⟨q, hq⟩ : ∃ q, q = y2.heap.size := ⟨_, rfl⟩
  obtain ⟨b10, h10⟩ : ∃ b10, b10 = y3.heap.size := ⟨_, rfl⟩
  rw [← hq] at HN4 HX4 HM4 HC4 HG4 HB4 ⊢
  rw [← h10] at HN4 ⊢
  have hsz4 : (y3.alloc (.cells #[.pointer (some ⟨q + 1 + 1, 0, none⟩)] 55)).heap.size = b10 + 1 := by rw [World.size_alloc, h10]
  have hord : n < mn ∧ mn + 1 < q ∧ q + 1 + 1 < b10 := by
    have h1 := HS2.out
    have h2 := HS3.out
    have h3 := HMN.out
    omega
  clear k0 k1 k2 k3 hnl1 hnl2
  generalize World.alloc y3 _ = y4 at HN4 HX4 HM4 HC4 HG4 HB4 hsz4 ⊢
  have hlow4 : Below w.heap.size w y4 := by have := HB4.out; rw [HN.out] at this; exact this
  refine (callsIn_wide.2 (formulas_any (HEn.out.below hlow4) (HBK.out.below hlow4) HF.out)).mono ?_
  rintro e y5 ⟨av, nv, rfl, ha5, hn5, b5⟩
  rw [hsz4] at ha5 hn5 b5
  obtain ⟨nao, nc, rfl, hk5⟩ := hn5.kids
  rw [foN_len] at hk5 ⊢
  obtain ⟨aa, am, ac, rfl, ham⟩ := ha5.view
  rw [placesN_len] at ham
  subst ham
  have G5 := hid (show Gp w n (b10 + 1) (mn + 1) b10 mn (q + 1 + 1) q (q + 1) 0 am (fun _ => sliceN) (bookC1 b off bc) (.slice aa am ac) (.slice nao am nc) (foN o ks am) y5 from
    ⟨(b5.block _ (by omega)).trans HG4.out, (b5.block _ (by omega)).trans HC4.out, (b5.block _ (by omega)).trans HN4.out, ⟨_, HM4.out.of_heap (b5.block _ (by omega))⟩,
      (HX4.out.below ⟨b5.os, b5.tape, b5.output, b5.size, fun x hx => b5.block x (by omega)⟩).mono (by have := b5.size; have := hsz4; omega) (Nat.le_refl _), ownsRow_lower ha5 (by omega), hk5.mono (fun x hx => by omega), HB4.out.trans (b5.mono (by omega)), by omega, by omega, by have := b5.size; omega⟩)
  have HORD := hid hord
  clear hord hsz4 HN4 HX4 HM4 HC4 HG4 HB4 hlow4 ha5 hn5 hk5 b5 hq h10 HS2 HS3
  have c10 := cell_of (i := 0) G5.out.c10 rfl
  gi_wp2_with fail
  rename_i K hK
  have HC := hid hK
  clear hK c10
  have h40 := HF.out.few
  gi_loopw [51] (fun v wr => ∃ (j : Nat) (rs : Nat → Value), v = .int .i64 j ∧ j ≤ am ∧ Gp w n (b10 + 1) (mn + 1) b10 mn (q + 1 + 1) q (q + 1) j am rs (bookC1 b off bc) (.slice aa am ac) (.slice nao am nc) (foN o ks am) wr) (fun v _ => am - (intOf v).toNat)
  case atStart => exact ⟨0, _, rfl, Nat.zero_le _, G5.out⟩
  case round =>
    obtain ⟨j, rs, rfl, hj, hg⟩ := hrel
    clear G5
    by_cases hjk : j < am
    · have hgo := HORD.out
      obtain ⟨ao', c', ab, af, ec, -, hcells⟩ := hg.ats.read.view
      obtain ⟨hca, r0, r1, r2⟩ := hcells j _ (placesN_get hjk)
      have e2 : aa = some ⟨ab, af, none⟩ := by
        rw [← hca]
        injection ec
      subst e2
      have b0 := (Below.refl wr.heap.size wr).alloc (Nat.le_refl _) (.cells #[.int .i64 0, .int .i64 (j : Int), .int .i64 0] 46)
      have n0 := heap_alloc_new wr (.cells #[.int .i64 0, .int .i64 (j : Int), .int .i64 0] 46)
      have g1 := hg.below b0
      obtain ⟨h, hh⟩ : ∃ h, h = wr.heap.size := ⟨_, rfl⟩
      rw [← hh] at n0
      obtain ⟨y1, hy1⟩ : ∃ y1, y1 = wr.alloc (.cells #[.int .i64 0, .int .i64 (j : Int), .int .i64 0] 46) := ⟨_, rfl⟩
      rw [← hy1] at g1 n0
      obtain ⟨M, hM⟩ := g1.num
      obtain ⟨y2, hput, hfin, hgr⟩ := hM.put place_keys Tryz.underlying54 (by omega) ((0 : Int), (j : Int), (0 : Int)) (place_ok j (by omega)) (.int .i64 (j : Int))
      obtain ⟨M', hM'⟩ : ∃ M', MapV y2 46 (.int .i64 0) placeV mn (j + 1) M' := ⟨fun p => if p = ((0 : Int), (j : Int), (0 : Int)) then some (.int .i64 (j : Int)) else M p, hfin _ (if_pos rfl) (fun p hp => if_neg hp)⟩
      obtain ⟨f1, f2, f3, f4, f5, f6, f7, f8⟩ := g1.number hgr hM'
      have nh : y2.heap[h]? = some (.cells #[.int .i64 0, .int .i64 (j : Int), .int .i64 0] 46 (0, 0)) := (hgr.block _ (heap_lt n0) (by simpa using cells_ne_map hM n0)).trans n0
      have HP := hid (show Calls Tryz.prog 14 #[.pointer (some ⟨q + 1 + 1, 0, none⟩), .int .i64 (j : Int), arV (j : Int) 1] y2 _ from Put_any f4 (fun z hz => HEn.out.below (by
        have := f7.trans (hz.below (B := n) (by simp; omega) (by omega))
        rw [HN.out] at this
        exact this)) (by omega))
      have FIN := hid (fun z hp => Gp.put (k := am) (z := z) f1 f2 f3 hM' f4 f5 f6 f7 g1.o1 g1.o2 f8 hp)
      have d0 := cell_of (i := 0) nh rfl
      have d1 := cell_of (i := 1) nh rfl
      have d2 := cell_of (i := 2) nh rfl
      have c9 := cell_of (i := 0) g1.c9 rfl
      have HY := hid hy1
      have HH := hid hh
      simp only [placeV] at hput
      have e0 := cell_of (i := 0) n0 rfl
      have e1 := cell_of (i := 1) n0 rfl
      have e3 := cell_of (i := 2) n0 rfl
      clear hgo hcells ec hca b0 hg hM hfin hgr hM' f1 f2 f3 f4 f5 f6 f7 f8 nh n0 g1 hy1 hh
      gi_wp2_with (refine stop_loadIn 54 _ rfl ?_)
      rw [← HH.out, ← HY.out]
      clear HY HH r0 r1 r2
      refine Stop.mk ?_
      gi_wp2_with fail
      refine (callsIn_wide.2 HP.out).mono ?_
      rintro e z ⟨rfl, hp⟩
      have F := FIN.out z hp
      clear hp FIN HP hput d0 d1 d2 c9 e0 e1 e3
      gi_wp2_with fail
      obtain ⟨rs', F⟩ := F
      exact ⟨⟨j + 1, rs', by simp, hjk, F⟩, by simp [intOf]; omega⟩
    · obtain rfl : j = am := by omega
      clear hj hjk
      gi_wp2_with fail
      refine HC.out _ _ ?_
      obtain ⟨b16, h16⟩ : ∃ b16, b16 = wr.heap.size := ⟨_, rfl⟩
      have bb := (Below.refl wr.heap.size wr).alloc (Nat.le_refl _) (.cells #[.slice none 0 0] 51)
      have g1 := hg.below bb
      have n16 := heap_alloc_new wr (.cells #[.slice none 0 0] 51)
      rw [← h16] at n16
      have GC := hid (show GeC w n b10 b16 (q + 1 + 1) q (q + 1) j rs b off bc aa ac nao nc o ks (wr.alloc (.cells #[.slice none 0 0] 51)) from
        ⟨g1.bk, g1.c10, n16, g1.ix, g1.ats.read, g1.nds.lt.mono (fun x hx => hx.2), g1.low, h40⟩)
      have H16 := hid h16
      clear h16 bb g1 n16 hg
      gi_wp2_with fail
      rw [← H16.out]
      change Code.wpIn _ _ _ _ _ _ (wr.alloc (.cells #[.slice none 0 0] 51))
      generalize World.alloc wr _ = yL at GC ⊢
      rename_i K2 hK2
      have HC2 := hid hK2
      clear hK2
      refine wpIn_loop_rounds 1 ?_
      rw [roundsIn_succ]
      gi_wp2_with fail
      refine HC2.out _ _ ?_
      exact graph_tail GC.out HN.out HA.out
end Go.Proofs.YtpcjfgihglfdgaaGreatDoor

namespace Go.Proofs.YtpcjfgihglfdgaaGreatDoor.Isl

theorem filter_one (k : Nat) : ∀ n, (List.range n).filter (fun j => decide (k = j)) = if k < n then [k] else []
  | 0 => by simp
  | n + 1 => by
    rw [List.range_succ, List.filter_append, filter_one k n]
    by_cases h : k < n
    · have h2 : ¬ k = n := by omega
      simp [h, h2, show k < n + 1 by omega]
    · by_cases h2 : k = n
      · subst h2; simp
      · simp [h, h2, show ¬ k < n + 1 by omega]

theorem singles_flat (k : Nat) : (((List.range k).map fun i => [i])).flatten = List.range k := by
  induction k with
  | zero => rfl
  | succ k ih => rw [List.range_succ, List.map_append, List.flatten_append, ih]; rfl

/-- each node reads lesser ones alone: each is an island, in order -/
theorem parts_low {g : Gr} (h : ∀ i j, edge g i j → j < i) : IsParts g ((List.range g.length).map fun i => [i]) := by
  have ld : ∀ i j, Leads g i j → j ≤ i := by
    intro i j hl
    induction hl with
    | refl => exact Nat.le_refl _
    | step e _ ih => have := h _ _ e; omega
  have sm : ∀ i j, Same g i j ↔ i = j := fun i j => by
    constructor
    · rintro ⟨h1, h2⟩
      have := ld i j h1
      have := ld j i h2
      omega
    · rintro rfl
      exact ⟨.refl _, .refl _⟩
  refine ⟨fun k l hk => ?_, fun j hj => ?_⟩
  · rw [List.getElem?_map, Option.map_eq_some_iff] at hk
    obtain ⟨i, hi, rfl⟩ := hk
    have hkl := (List.getElem?_eq_some_iff.1 hi).1
    rw [List.length_range] at hkl
    rw [List.getElem?_range hkl] at hi
    have := Option.some.inj hi
    subst this
    have e : (List.take k ((List.range g.length).map fun i => [i])).flatten = List.range k := by
      rw [← List.map_take, List.take_range, Nat.min_eq_left (by omega)]
      exact singles_flat k
    rw [e]
    refine ⟨k, ⟨hkl, by simp, fun j hj => ?_⟩, fun j hj => ?_, ?_⟩
    · have := ld k j hj
      by_cases e2 : k = j
      · exact .inl ((sm k j).2 e2)
      · exact .inr (by simp; omega)
    · have := hj.2.1
      simp at this
      exact this
    · unfold island
      have : (fun j => @decide (Same g k j) (Classical.propDecidable _)) = fun j => decide (k = j) := by
        funext j
        rw [decide_eq_decide]
        exact sm k j
      rw [this, filter_one, if_pos hkl]
  · rw [singles_flat]
    simpa using hj

/-- all lead to each other: one island -/
theorem parts_one {g : Gr} (R : RightG g) (hn : 0 < g.length) (h : ∀ i j, i < g.length → j < g.length → Leads g i j) : IsParts g [List.range g.length] := by
  refine ⟨fun k l hk => ?_, fun j hj => by simpa using hj⟩
  rcases k with _ | k
  · simp at hk
    subst hk
    refine ⟨0, ⟨hn, by simp, fun j hj => ?_⟩, fun j _ => Nat.zero_le _, ?_⟩
    · have hjl := leads_lt R hj hn
      exact .inl ⟨h 0 j hn hjl, h j 0 hjl hn⟩
    · unfold island
      symm
      rw [List.filter_eq_self]
      intro j hj
      simp only [List.mem_range] at hj
      simp only [decide_eq_true_eq]
      exact ⟨h 0 j hn hj, h j 0 hj hn⟩
  · simp at hk

end Go.Proofs.YtpcjfgihglfdgaaGreatDoor.Isl

namespace Go.Proofs.YtpcjfgihglfdgaaGreatDoor.Isl

theorem backs_flat (n k : Nat) (h : k ≤ n) : ∀ j, j ∈ (((List.range k).map fun i => [n - 1 - i])).flatten ↔ n - k ≤ j ∧ j < n := by
  intro j
  simp only [List.mem_flatten, List.mem_map, List.mem_range]
  constructor
  · rintro ⟨_, ⟨i, hi, rfl⟩, hj⟩
    simp only [List.mem_singleton] at hj
    omega
  · rintro ⟨h1, h2⟩
    exact ⟨_, ⟨n - 1 - j, by omega, rfl⟩, by simp only [List.mem_singleton]; omega⟩
/-- each node reads greater ones alone, the next one among them: each is an island, the last one ahead -/
theorem parts_high {g : Gr} (R : RightG g) (h : ∀ i j, edge g i j → i < j) (hc : ∀ i, i + 1 < g.length → edge g i (i + 1)) : IsParts g ((List.range g.length).map fun i => [g.length - 1 - i]) := by
  have ld : ∀ i j, Leads g i j → i ≤ j := by
    intro i j hl
    induction hl with
    | refl => exact Nat.le_refl _
    | step e _ ih => have := h _ _ e; omega
  have sm : ∀ i j, Same g i j ↔ i = j := fun i j => by
    constructor
    · rintro ⟨h1, h2⟩
      have := ld i j h1
      have := ld j i h2
      omega
    · rintro rfl
      exact ⟨.refl _, .refl _⟩
  have up : ∀ d i, i + d < g.length → Leads g i (i + d) := by
    intro d
    induction d with
    | zero => intro i _; exact .refl _
    | succ d ih => intro i hi; exact (ih i (by omega)).trans (.one (hc (i + d) (by omega)))
  have hjl : ∀ i j, Leads g i j → i < g.length → i = j ∨ i < j := fun i j hl _ => by have := ld i j hl; omega
  refine ⟨fun k l hk => ?_, fun j hj => ?_⟩
  · rw [List.getElem?_map, Option.map_eq_some_iff] at hk
    obtain ⟨i, hi, rfl⟩ := hk
    have hkl := (List.getElem?_eq_some_iff.1 hi).1
    rw [List.length_range] at hkl
    rw [List.getElem?_range hkl] at hi
    have := Option.some.inj hi
    subst this
    have e : ∀ j, j ∈ (List.take k ((List.range g.length).map fun i => [g.length - 1 - i])).flatten ↔ g.length - k ≤ j ∧ j < g.length := by
      intro j
      rw [← List.map_take, List.take_range, Nat.min_eq_left (by omega)]
      exact backs_flat g.length k (by omega) j
    refine ⟨g.length - 1 - k, ⟨by omega, fun hm => by have := (e _).1 hm; omega, fun j hj => ?_⟩, fun j hj => ?_, ?_⟩
    · rcases hjl _ _ hj (by omega) with e2 | e2
      · exact .inl ((sm _ j).2 e2)
      · refine .inr ((e j).2 ⟨by omega, ?_⟩)
        exact leads_lt R hj (by omega)
    · have h1 := hj.1
      have h2 : j < g.length - k := by
        rcases Nat.lt_or_ge j (g.length - k) with h | h
        · exact h
        · exact absurd ((e j).2 ⟨h, h1⟩) hj.2.1
      rcases Nat.lt_or_ge j (g.length - 1 - k) with h3 | h3
      · have h4 := up (g.length - 1 - k - j) j (by omega)
        rw [show j + (g.length - 1 - k - j) = g.length - 1 - k by omega] at h4
        rcases hj.2.2 _ h4 with h5 | h5
        · have := (sm _ _).1 h5; omega
        · have := (e _).1 h5; omega
      · omega
    · unfold island
      have : (fun j => @decide (Same g (g.length - 1 - k) j) (Classical.propDecidable _)) = fun j => decide (g.length - 1 - k = j) := by
        funext j
        rw [decide_eq_decide]
        exact sm _ j
      rw [this, filter_one, if_pos (by omega)]
  · exact (backs_flat g.length g.length (Nat.le_refl _) j).2 ⟨by omega, hj⟩
def downG (k : Nat) : Gr := (List.range k).map fun i => if i = 0 then [] else [i - 1]
def upG (k : Nat) : Gr := (List.range k).map fun i => [i + 1, i + 2].filter (fun x => decide (x < k))
def ringG (k : Nat) : Gr := (List.range k).map fun i => if i = 0 then [k - 1] else [i - 1]
theorem edges_map {k : Nat} {f : Nat → List Nat} (i : Nat) : edges ((List.range k).map f) i = if i < k then f i else [] := by
  unfold edges
  rw [List.getElem?_map]
  by_cases h : i < k
  · rw [List.getElem?_range h, if_pos h]; rfl
  · rw [List.getElem?_eq_none (by simpa using h), if_neg h]; rfl
theorem edge_down {k i j : Nat} : edge (downG k) i j ↔ i < k ∧ 0 < i ∧ j = i - 1 := by
  unfold edge downG
  rw [edges_map]
  by_cases h : i < k
  · by_cases h0 : i = 0
    · simp [h0]
    · simp [h, h0]; omega
  · simp [h]
theorem edge_up {k i j : Nat} : edge (upG k) i j ↔ i < k ∧ (j = i + 1 ∨ j = i + 2) ∧ j < k := by
  unfold edge upG
  rw [edges_map]
  by_cases h : i < k
  · rw [if_pos h, List.mem_filter]; simp [h]
  · simp [h]
theorem edge_ring {k i j : Nat} : edge (ringG k) i j ↔ i < k ∧ ((i = 0 ∧ j = k - 1) ∨ (0 < i ∧ j = i - 1)) := by
  unfold edge ringG
  rw [edges_map]
  by_cases h : i < k
  · by_cases h0 : i = 0
    · simp [h0]
    · simp [h, h0]; omega
  · simp [h]
theorem down_len (k : Nat) : (downG k).length = k := by simp [downG]
theorem up_len (k : Nat) : (upG k).length = k := by simp [upG]
theorem ring_len (k : Nat) : (ringG k).length = k := by simp [ringG]
theorem down_right (k : Nat) : RightG (downG k) := fun i j h => by rw [down_len]; have := edge_down.1 h; omega
theorem up_right (k : Nat) : RightG (upG k) := fun i j h => by rw [up_len]; have := edge_up.1 h; omega
theorem ring_right (k : Nat) : RightG (ringG k) := fun i j h => by rw [ring_len]; have := edge_ring.1 h; omega
theorem down_parts (k : Nat) : IsParts (downG k) ((List.range k).map fun i => [i]) := by
  have := parts_low (g := downG k) (fun i j h => by have := edge_down.1 h; omega)
  rwa [down_len] at this
theorem up_parts (k : Nat) : IsParts (upG k) ((List.range k).map fun i => [k - 1 - i]) := by
  have := parts_high (g := upG k) (up_right k) (fun i j h => by have := edge_up.1 h; omega) (fun i hi => edge_up.2 (by rw [up_len] at hi; omega))
  rwa [up_len] at this
theorem ring_leads (k : Nat) : ∀ i j, i < k → j < k → Leads (ringG k) i j := by
  have dn : ∀ d i, i + d < k → Leads (ringG k) (i + d) i := by
    intro d
    induction d with
    | zero => intro i _; exact .refl _
    | succ d ih => intro i hi; exact (Leads.one (edge_ring.2 ⟨hi, .inr ⟨by omega, by omega⟩⟩)).trans (ih i (by omega))
  intro i j hi hj
  have h1 := dn i 0 (by omega)
  have h2 : Leads (ringG k) 0 (k - 1) := Leads.one (edge_ring.2 ⟨by omega, .inl ⟨rfl, rfl⟩⟩)
  have h3 := dn (k - 1 - j) j (by omega)
  rw [Nat.zero_add] at h1
  rw [show j + (k - 1 - j) = k - 1 by omega] at h3
  exact h1.trans (h2.trans h3)
theorem ring_parts (k : Nat) (h : 0 < k) : IsParts (ringG k) [List.range k] := by
  have := parts_one (ring_right k) (by rw [ring_len]; exact h) (fun i j hi hj => by rw [ring_len] at hi hj; exact ring_leads k i j hi hj)
  rwa [ring_len] at this
end Go.Proofs.YtpcjfgihglfdgaaGreatDoor.Isl

namespace Go.Proofs.YtpcjfgihglfdgaaGreatDoor
open Go.RowKit Go.Lib

/-- each formula reads the one above it -/
def lD (i : Nat) : List UInt8 := if i = 0 then fOne else fPlus i
def oD (i : Nat) : Ow := if i = 0 then owNum 1 0 else owOp (bs [43])
def kD (i : Nat) : Fo := if i = 0 then .nil else .cons (owRef (rfZ ((i - 1 : Nat) : Int))) .nil (.cons (owNum 1 0) .nil .nil)
def aD (i : Nat) : Option (Nat × Nat) := if i = 0 then none else some (i - 1, 1)
/-- each reads the one beneath it and the next -/
def lU (i : Nat) : List UInt8 := fSum (i + 2) (i + 3)
def oU (_ : Nat) : Ow := owCall textSUM
def kU (i : Nat) : Fo := .cons (owRange (rfZ ((i + 1 : Nat) : Int)) (rfZ ((i + 2 : Nat) : Int))) .nil .nil
def aU (i : Nat) : Option (Nat × Nat) := some (i + 1, 2)
/-- the first one reads the last one -/
def lR (k i : Nat) : List UInt8 := if i = 0 then refB k else fPlus i
def oR (k i : Nat) : Ow := if i = 0 then owRef (rfZ ((k - 1 : Nat) : Int)) else owOp (bs [43])
def kR (i : Nat) : Fo := if i = 0 then .nil else .cons (owRef (rfZ ((i - 1 : Nat) : Int))) .nil (.cons (owNum 1 0) .nil .nil)
def aR (k i : Nat) : Option (Nat × Nat) := if i = 0 then some (k - 1, 1) else some (i - 1, 1)
def txD (p : PAt) : ByteArray := bs (61 :: lD p.2.1.toNat)
def txU (p : PAt) : ByteArray := bs (61 :: lU p.2.1.toNat)
theorem reads_down {i : Nat} (h : i ≤ 33) : Reads (lD i) (oD i) (kD i) := by
  unfold lD oD kD
  by_cases h0 : i = 0
  · simp only [h0, if_true]; exact reads_one
  · simp only [if_neg h0]; exact reads_plus i (by omega) h
theorem reads_up {i : Nat} (h : i ≤ 30) : Reads (lU i) (oU i) (kU i) := reads_sum (i + 2) (i + 3) (by omega) (by omega) (by omega) (by omega)
theorem reads_ring {k i : Nat} (hk : 1 ≤ k ∧ k ≤ 33) (h : i ≤ 33) : Reads (lR k i) (oR k i) (kR i) := by
  unfold lR oR kR
  by_cases h0 : i = 0
  · simp only [h0, if_true]; exact reads_ref k hk.1 hk.2
  · simp only [if_neg h0]; exact reads_plus i (by omega) h
theorem plain_ref (r : Int) : Plain (owRef (rfZ r)) := ⟨show (5 : Int) ≠ 7 by decide, show (5 : Int) ≠ 8 by decide, show (5 : Int) ≠ 14 by decide, show (5 : Int) ≠ 16 by decide, fun h => absurd (show (5 : Int) = 12 from h) (by decide)⟩
theorem plain_num : Plain (owNum 1 0) := ⟨by decide, by decide, by decide, by decide, fun h => absurd h (by decide)⟩
theorem plain_op : Plain (owOp (bs [43])) := ⟨by decide, by decide, by decide, by decide, fun h => absurd h (by decide)⟩
theorem plain_range (r t : Int) : Plain (owRange (rfZ r) (rfZ t)) := ⟨show (6 : Int) ≠ 7 by decide, show (6 : Int) ≠ 8 by decide, show (6 : Int) ≠ 14 by decide, show (6 : Int) ≠ 16 by decide, fun h => absurd (show (6 : Int) = 12 from h) (by decide)⟩
theorem plain_call : Plain (owCall textSUM) := ⟨by decide, by decide, by decide, by decide, fun _ => rfl⟩
theorem plain_plus (i : Nat) : Plain (owOp (bs [43])) ∧ PlainF (.cons (owRef (rfZ ((i - 1 : Nat) : Int))) .nil (.cons (owNum 1 0) .nil .nil)) ∧ mF (.cons (owRef (rfZ ((i - 1 : Nat) : Int))) .nil (.cons (owNum 1 0) .nil .nil)) + 1 ≤ 200 :=
  ⟨plain_op, ⟨plain_ref _, trivial, plain_num, trivial, trivial⟩, by first | decide | exact Nat.le_of_ble_eq_true rfl⟩
theorem fm_down {k : Nat} (hk : k ≤ 33) : Fm k txD lD oD kD := by
  refine ⟨fun i _ => rfl, fun i hi => reads_down (by omega), fun i _ => ?_, by omega⟩
  unfold oD kD
  by_cases h0 : i = 0
  · simp only [h0, if_true]; exact ⟨plain_num, trivial, by first | decide | exact Nat.le_of_ble_eq_true rfl⟩
  · simp only [if_neg h0]; exact plain_plus i
theorem fm_up {k : Nat} (hk : k ≤ 31) : Fm k txU lU oU kU :=
  ⟨fun i _ => rfl, fun i hi => reads_up (by omega), fun i _ => ⟨plain_call, ⟨plain_range _ _, trivial, trivial⟩, by first | decide | exact Nat.le_of_ble_eq_true rfl⟩, by omega⟩
theorem fm_ring {k : Nat} (hk : 1 ≤ k ∧ k ≤ 33) {tx : PAt → ByteArray} (ht : ∀ i, i < k → tx ((0 : Int), (i : Int), (0 : Int)) = bs (61 :: lR k i)) : Fm k tx (lR k) (oR k) kR := by
  refine ⟨ht, fun i hi => reads_ring hk (by omega), fun i _ => ?_, by omega⟩
  unfold oR kR
  by_cases h0 : i = 0
  · simp only [h0, if_true]; exact ⟨plain_ref _, trivial, by first | decide | exact Nat.le_of_ble_eq_true rfl⟩
  · simp only [if_neg h0]; exact plain_plus i
theorem arW_ref (r : Nat) (h : r < 200) : ArW (owRef (rfZ (r : Int))) := ⟨fun _ => ⟨r, 0, rfl, rfl, h⟩, fun h => absurd (show (5 : Int) = 6 from h) (by decide)⟩
theorem arW_num : ArW (owNum 1 0) := ⟨fun h => absurd h (by decide), fun h => absurd h (by decide)⟩
theorem arW_op : ArW (owOp (bs [43])) := ⟨fun h => absurd h (by decide), fun h => absurd h (by decide)⟩
theorem arW_range (r t : Nat) (h : r ≤ t) (ht : t < 200) : ArW (owRange (rfZ (r : Int)) (rfZ (t : Int))) := ⟨fun h => absurd (show (6 : Int) = 5 from h) (by decide), fun _ => ⟨r, t, rfl, rfl, h, ht⟩⟩
theorem arW_call : ArW (owCall textSUM) := ⟨fun h => absurd h (by decide), fun h => absurd h (by decide)⟩
theorem ar_plus (i : Nat) (h : i < 200) : ArW (owOp (bs [43])) ∧ Fo.len (.cons (owRef (rfZ ((i - 1 : Nat) : Int))) .nil (.cons (owNum 1 0) .nil .nil)) ≤ 1000 ∧ ArF (.cons (owRef (rfZ ((i - 1 : Nat) : Int))) .nil (.cons (owNum 1 0) .nil .nil)) :=
  ⟨arW_op, by first | decide | exact Nat.le_of_ble_eq_true rfl, ⟨arW_ref _ (by omega), by first | decide | exact Nat.le_of_ble_eq_true rfl, trivial⟩, ⟨arW_num, by first | decide | exact Nat.le_of_ble_eq_true rfl, trivial⟩, trivial⟩
theorem fa_down {k : Nat} (hk : k ≤ 33) : Fa k oD kD aD := by
  refine ⟨fun i hi => ?_, fun i hi => ?_, fun i r R hi h => ?_⟩
  · unfold oD kD
    by_cases h0 : i = 0
    · simp only [h0, if_true]; exact ⟨arW_num, by first | decide | exact Nat.le_of_ble_eq_true rfl, trivial⟩
    · simp only [if_neg h0]; exact ar_plus i (by omega)
  · unfold oD kD aD
    by_cases h0 : i = 0
    · simp only [h0, if_true]; rfl
    · simp only [if_neg h0]; rfl
  · unfold aD at h
    by_cases h0 : i = 0
    · simp [h0] at h
    · simp only [if_neg h0, Option.some.injEq, Prod.mk.injEq] at h; omega
theorem fa_ring {k : Nat} (hk : 1 ≤ k ∧ k ≤ 33) : Fa k (oR k) kR (aR k) := by
  refine ⟨fun i hi => ?_, fun i hi => ?_, fun i r R hi h => ?_⟩
  · unfold oR kR
    by_cases h0 : i = 0
    · simp only [h0, if_true]; exact ⟨arW_ref _ (by omega), by first | decide | exact Nat.le_of_ble_eq_true rfl, trivial⟩
    · simp only [if_neg h0]; exact ar_plus i (by omega)
  · unfold oR kR aR
    by_cases h0 : i = 0
    · simp only [h0, if_true]; rfl
    · simp only [if_neg h0]; rfl
  · unfold aR at h
    by_cases h0 : i = 0
    · simp only [h0, if_true, Option.some.injEq, Prod.mk.injEq] at h; omega
    · simp only [if_neg h0, Option.some.injEq, Prod.mk.injEq] at h; omega
theorem fa_up {k : Nat} (hk : k ≤ 31) : Fa k oU kU aU := by
  refine ⟨fun i hi => ⟨arW_call, by show 1 ≤ 1000; omega, ⟨arW_range _ _ (by omega) (by omega), by show 0 ≤ 1000; omega, trivial⟩, trivial⟩, fun i hi => ?_, fun i r R hi h => ?_⟩
  · show arsF (.cons (owRange (rfZ ((i + 1 : Nat) : Int)) (rfZ ((i + 2 : Nat) : Int))) .nil .nil) = [(((i + 1 : Nat) : Int), ((2 : Nat) : Int))]
    show [(((i + 1 : Nat) : Int), ((i + 2 : Nat) : Int) - ((i + 1 : Nat) : Int) + 1)] = _
    congr 2
    omega
  · simp only [aU, Option.some.injEq, Prod.mk.injEq] at h; omega
theorem rowsG_eq {k : Nat} {ar : Nat → Option (Nat × Nat)} {f : Nat → List Nat} (h : ∀ i, i < k → edL k (ar i) = (f i).map fun (x : Nat) => (x : Int)) : rowsG ar k k = Isl.castG ((List.range k).map f) := by
  unfold rowsG Isl.castG edOf
  rw [List.map_map]
  refine List.map_congr_left (fun i hi => ?_)
  rw [List.mem_range] at hi
  exact h i hi
theorem ids_one {r k : Nat} (h : r < k) : edL k (some (r, 1)) = [((r : Nat) : Int)] := by
  show idsOf r 1 k = _
  rw [idsOf_yes (by omega)]
  rfl
theorem rows_down (k : Nat) : rowsG aD k k = Isl.castG (Isl.downG k) := rowsG_eq (fun i hi => by
  unfold aD
  by_cases h0 : i = 0
  · simp only [h0, if_true]; rfl
  · simp only [if_neg h0]; rw [ids_one (by omega)]; rfl)
theorem rows_ring (k : Nat) : rowsG (aR k) k k = Isl.castG (Isl.ringG k) := rowsG_eq (fun i hi => by
  unfold aR
  by_cases h0 : i = 0
  · simp only [h0, if_true]; rw [ids_one (by omega)]; rfl
  · simp only [if_neg h0]; rw [ids_one (by omega)]; rfl)
theorem rows_up (k : Nat) : rowsG aU k k = Isl.castG (Isl.upG k) := rowsG_eq (fun i hi => by
  show idsOf (i + 1) 2 k = _
  unfold idsOf
  rfl)
end Go.Proofs.YtpcjfgihglfdgaaGreatDoor

namespace Go.Proofs.YtpcjfgihglfdgaaGreatDoor
open Go.RowKit Go.Lib

/-- what a search between i and j knows -/
structure BiOk (A : List PAt) (p : PAt) (i j : Nat) : Prop where
  le : i ≤ j
  len : j ≤ A.length
  low : ∀ y, y ∈ A.take i → aheadP y p
  high : ∀ y, y ∈ A.drop j → ¬ aheadP y p
theorem biOk_start (A : List PAt) (p : PAt) : BiOk A p 0 A.length := ⟨by omega, by omega, by simp, by simp⟩
theorem rising_split {A : List PAt} (hr : Rising A) {h : Nat} {y : PAt} (hy : A[h]? = some y) : (∀ z, z ∈ A.take h → aheadP z y) ∧ (∀ z, z ∈ A.drop (h + 1) → aheadP y z) := by
  obtain ⟨hk, e⟩ := List.getElem?_eq_some_iff.1 hy
  have hs : A = A.take h ++ y :: A.drop (h + 1) := by rw [← e, ← List.drop_eq_getElem_cons hk, List.take_append_drop]
  unfold Rising at hr
  rw [hs, List.pairwise_append] at hr
  exact ⟨fun z hz => hr.2.2 z hz y (by simp), (List.pairwise_cons.1 hr.2.1).1⟩
theorem BiOk.up {A : List PAt} {p y : PAt} {i j h : Nat} (hr : Rising A) (b : BiOk A p i j) (hy : A[h]? = some y) (_h1 : i ≤ h) (h2 : h < j) (ha : aheadP y p) : BiOk A p (h + 1) j := by
  refine ⟨by omega, b.len, fun z hz => ?_, b.high⟩
  obtain ⟨hk, e⟩ := List.getElem?_eq_some_iff.1 hy
  rw [List.take_succ_eq_append_getElem hk, e] at hz
  rcases List.mem_append.1 hz with hz | hz
  · exact ((rising_split hr hy).1 z hz).trans ha
  · simp only [List.mem_singleton] at hz
    exact hz ▸ ha
theorem BiOk.down {A : List PAt} {p y : PAt} {i j h : Nat} (hr : Rising A) (b : BiOk A p i j) (hy : A[h]? = some y) (h1 : i ≤ h) (h2 : h < j) (ha : ¬ aheadP y p) : BiOk A p i h := by
  refine ⟨h1, by have := b.len; omega, b.low, fun z hz => ?_⟩
  obtain ⟨hk, e⟩ := List.getElem?_eq_some_iff.1 hy
  rw [List.drop_eq_getElem_cons hk, e] at hz
  rcases List.mem_cons.1 hz with rfl | hz
  · exact ha
  · intro hp
    exact ha (((rising_split hr hy).2 z hz).trans hp)
theorem BiOk.cut {A : List PAt} {p : PAt} {i : Nat} (b : BiOk A p i i) : cutP p A = i := by
  have e : A.countP (fun y => decide (aheadP y p)) = (A.take i).countP (fun y => decide (aheadP y p)) + (A.drop i).countP (fun y => decide (aheadP y p)) := by
    conv => lhs; rw [← List.take_append_drop i A]
    exact List.countP_append
  unfold cutP
  have e1 : (A.take i).countP (fun y => decide (aheadP y p)) = (A.take i).length := List.countP_eq_length.2 (fun y hy => by simpa using b.low y hy)
  have e2 : (A.drop i).countP (fun y => decide (aheadP y p)) = 0 := List.countP_eq_zero.2 (fun y hy => by simpa using b.high y hy)
  have := b.len
  rw [e, e1, e2, List.length_take]
  omega
theorem BiOk.mem {A : List PAt} {p : PAt} {i : Nat} (hr : Rising A) (b : BiOk A p i i) : p ∈ A ↔ A[i]? = some p := by
  refine ⟨fun h => ?_, List.mem_of_getElem?⟩
  rw [← List.take_append_drop i A, List.mem_append] at h
  rcases h with h | h
  · exact absurd rfl (b.low p h).ne
  · cases hd : A.drop i with
    | nil => simp [hd] at h
    | cons y l =>
      have hy : A[i]? = some y := by
        have := List.getElem?_drop (xs := A) (i := i) (j := 0)
        rw [hd] at this
        simpa using this.symm
      rw [hd] at h
      rcases List.mem_cons.1 h with rfl | h
      · exact hy
      · have hi := (List.getElem?_eq_some_iff.1 hy).1
        have hl : l = A.drop (i + 1) := by
          have := List.drop_eq_getElem_cons hi
          rw [hd] at this
          exact (List.cons.inj this).2
        exact absurd ((rising_split hr hy).2 p (hl ▸ h)) (b.high y (by rw [hd]; simp))

end Go.Proofs.YtpcjfgihglfdgaaGreatDoor
