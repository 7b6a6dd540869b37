/- deps.Graph's loop over the formulas, to its end. No condition. -/
import Derived.Test.YtpcjfgihglfdgaaGreatDoorKCjAny

namespace Go.Proofs.YtpcjfgihglfdgaaGreatDoor
open Go.RowKit Go.Lib Go.Maps
attribute [local go_sem] Oper.semAt_some wide_fn

def edOf (ar : Nat → Option (Nat × Nat)) (k i : Nat) : List Int := edL k (ar i)
def rowsG (ar : Nat → Option (Nat × Nat)) (k j : Nat) : List (List Int) := (List.range j).map (edOf ar k)
theorem rowsG_succ (ar : Nat → Option (Nat × Nat)) (k j : Nat) : rowsG ar k (j + 1) = rowsG ar k j ++ [edL k (ar j)] := by simp [rowsG, edOf, List.range_succ]
structure Fa (k : Nat) (o : Nat → Ow) (ks : Nat → Fo) (ar : Nat → Option (Nat × Nat)) : Prop where
  ok : ∀ i, i < k → ArW (o i) ∧ (ks i).len ≤ 1000 ∧ ArF (ks i)
  at' : ∀ i, i < k → arsO (o i) (ks i) = arL (ar i)
  few : ∀ i r R, i < k → ar i = some (r, R) → (R = 1 ∨ R = 2) ∧ r + R ≤ 200
def GrEnd (w : World) (ar : Nat → Option (Nat × Nat)) (k : Nat) (e : Ending) (w' : World) : Prop :=
  ∃ av ev, e = .returned (.tuple #[av, ev, .int .i64 0]) ∧ (∃ a c, av = .slice a k c) ∧ Isl.RowsT w' ev (rowsG ar k k) ∧ Below w.heap.size w w'
/-- what stands between two rounds of the loop over the formulas; yL: as it began -/
structure GeR (yL : World) (k : Nat) (ar : Nat → Option (Nat × Nat)) (j : Nat) (ev : Value) (us : List Value) (Ds : List Nat) (y : World) : Prop where
  rows : Isl.RowsOwn y yL.heap.size ev us (rowsG ar k j)
  low : Below yL.heap.size yL y
  mks : MarksIn y yL.heap.size Ds
/-- what the loop finds -/
structure GeC (w : World) (n b10 b16 ib m1 m2 k : Nat) (rs : Nat → Value) (b off bc : Nat) (aa : Option Addr) (ac : Nat) (nao : Option Addr) (nc : Nat) (o : Nat → Ow) (ks : Nat → Fo) (y : World) : Prop where
  bk : y.heap[n]? = some (.cells (bookC1 b off bc) 39 (0, 0))
  c10 : y.heap[b10]? = some (.cells #[.pointer (some ⟨ib, 0, none⟩)] 55 (0, 0))
  c16 : y.heap[b16]? = some (.cells #[.slice none 0 0] 51 (0, 0))
  ix : Ix y ib m1 m2 y.heap.size k rs
  ats : AtsIn y (.slice aa k ac) (placesN k)
  nds : KidsV y (· < y.heap.size) (.slice nao k nc) (foN o ks k)
  low : Below n w y
  few : k ≤ 40
def onlyN (Q : Exit → Act → World → Prop) : Exit → Act → World → Prop
  | .normal, a, w => Q .normal a w
  | _, _, _ => False
theorem wp_onlyN {P : Program} {c : Code} {Q : Exit → Act → World → Prop} {a : Act} {w : World} (h : c.wp P (onlyN Q) a w) : c.wp P Q a w :=
  Code.wp_mono (fun e a w hq => by cases e <;> first | exact hq | exact hq.elim) h
theorem app_two {z : World} {B C : Nat} {v2 : Value} {ids : List Int} (ho : IntOwn z C v2 ids) (hB : B ≤ z.heap.size) (hl : ids.length ≤ 100) : ∃ v' z', (Builtin.append_ #[42, 42] 42 #[sliceN, v2]).run Tryz.prog z = .ok v' z' ∧ IntOwn z' B v' ids ∧ Below z.heap.size z z' := by
  obtain ⟨ao, c, b, off, e, -, hc⟩ := ho.read
  rw [List.length_map] at e
  rcases ho.2 with ⟨hv, h0⟩ | ⟨g', cap, cur, hv, -, hh, h1, h2, h3, h4⟩
  · subst hv
    have : ids = [] := List.length_eq_zero_iff.1 h0
    subst this
    exact ⟨_, z, app_nil_nil 0 z, IntOwn.nil _ _, Below.refl _ _⟩
  · subst hv
    obtain ⟨a', c', z', r1, r2, r3, -⟩ := (IntOwn.nil z B).apps hB rfl (by simp) (ad := ⟨g', 0, none⟩) (k := ids.length) (cc := cap) ids rfl (by omega) (fun j u hj => by
      have hlt : j < ids.length := by
        have := (List.getElem?_eq_some_iff.1 hj).1
        rw [ints_flat] at this
        omega
      rw [Addr.add_lit]
      refine cell_of hh ?_
      have h5 : (cur.toList.take (ids.length * 1))[j]? = (ids.flatMap intC)[j]? := by rw [h4]
      rw [List.getElem?_take_of_lt (by omega)] at h5
      rw [Nat.zero_add, ← Array.getElem?_toList, h5]
      exact hj)
    exact ⟨_, z', r1, by simpa using r2, r3.below (by simp [own, Value.ownBlock]) (Nat.le_refl _)⟩
/-- the end of a round of the loop over a formula's areas -/
theorem gs_end {y W W2 z2 : World} {g k r R L : Nat} {rec rb : Loop} {v' : Value} (T : Gs y g (g + 1) (g + 4) (g + 5) k rec [] W sliceN) (c2 : Chg [g + 5] W W2) (lp2 : W2.heap[g + 5]? = some (.loop rb)) (b : Below W2.heap.size W2 z2) (ho : IntOwn z2 (g + 6) v' (idsOf r R k)) (hL : L ≤ g) :
    (z2.setCell ⟨g + 1, 0, none⟩ v').heap[g + 5]? = some (.loop rb) ∧ (∃ v, Gs y g (g + 1) (g + 4) (g + 5) k rec [((r : Int), (R : Int))] ((z2.setCell ⟨g + 1, 0, none⟩ v').putObj (g + 5) (.loop rec)) v) ∧ Soft L W ((z2.setCell ⟨g + 1, 0, none⟩ v').putObj (g + 5) (.loop rec)) ∧ z2.heap[g + 1]? = some (.cells #[sliceN] 42 (0, 0)) := by
  have far : ∀ {x : Nat} {ob : Obj}, W.heap[x]? = some ob → x ≠ g + 5 → z2.heap[x]? = some ob := fun {x ob} hx hn => by
    have h1 := c2.heap hx (by simpa using hn)
    exact (b.block _ (heap_lt h1)).trans h1
  have hs := heap_lt T.loop
  have o2 := far T.out (by omega)
  have d2 := far T.df (by omega)
  have l2 := (b.block _ (heap_lt lp2)).trans lp2
  have l3 := heap_setCell_far l2 (show g + 5 ≠ g + 1 by omega) v' (i := 0)
  have o3 := heap_setCell_at (i := 0) o2 v'
  have d3 := heap_setCell_far d2 (show g + 4 ≠ g + 1 by omega) v' (i := 0)
  have pc := put_chg (z2.setCell ⟨g + 1, 0, none⟩ v') (g + 5) (.loop rec)
  have cs := (Chg.refl [g + 1] z2).setCell (p := ⟨g + 1, 0, none⟩) (.inl (by simp)) v'
  have k1 : Chg [g + 5, g + 1] W z2 := (c2.mono (by simp)).trans (Chg.of_below (F := []) b) (by simp)
  have k2 : Chg [g + 5, g + 1] W ((z2.setCell ⟨g + 1, 0, none⟩ v').putObj (g + 5) (.loop rec)) := (k1.setCell (p := ⟨g + 1, 0, none⟩) (.inl (by simp)) v').trans pc (by simp)
  have ow : IntOwn ((z2.setCell ⟨g + 1, 0, none⟩ v').putObj (g + 5) (.loop rec)) (g + 6) v' (idsOf r R k) := (ho.chg cs (fun q hq hm => by have := (ho.low q hq).1; simp at hm; omega)).chg pc (fun q hq hm => by have := (ho.low q hq).1; simp at hm; omega)
  refine ⟨l3, ⟨v', ⟨T.low.trans (k2.below (B := g) (by simp) (by omega)), pc.heap (by simpa using o3) (by simp), pc.heap d3 (by simp), World.putObj_heap_same (heap_lt l3), ?_, by simp⟩⟩, ⟨[g + 5, g + 1], k2, fun x hx => ?_⟩, o2⟩
  · simpa [preIds] using ow
  · simp only [List.mem_cons, List.not_mem_nil, or_false] at hx
    rcases hx with rfl | rfl
    · exact ⟨by omega, fun cs t fr h => by rw [T.loop] at h; cases h⟩
    · exact ⟨by omega, fun cs t fr h => by
        rw [T.out] at h
        simp only [Option.some.injEq, Obj.cells.injEq] at h
        exact .inr h.2.1.symm⟩
theorem results3 {fn : Func} {t u v : Tmp} (h : fn.results = #[.tmp t, .tmp u, .tmp v]) (tmps : Array Value) (w : World) {a b c : Value} (ha : tmps.getD t undef = a) (hb : tmps.getD u undef = b) (hc : tmps.getD v undef = c) : (results fn tmps).run Tryz.prog w = .ok (.tuple #[a, b, c]) w := by
  rw [results_tmp3 h, ha, hb, hc]
noncomputable def restG : Code := sndSeq (sndSeq (sndSeq (sndSeq (sndSeq (sndSeq (sndSeq (sndSeq (sndSeq (Tryz.f6.body.getD .skip)))))))))
set_option maxRecDepth 20000 in
set_option maxHeartbeats 4000000 in
theorem graph_tail {w yL : World} {n b10 b16 ib m1 m2 k : Nat} {rs : Nat → Value} {b off bc : Nat} {aa : Option Addr} {ac : Nat} {nao : Option Addr} {nc : Nat} {o : Nat → Ow} {ks : Nat → Fo} {ar : Nat → Option (Nat × Nat)} {v0 v1 v3 v4 v5 v6 v7 v8 v9 v13 v14 v15 v17 v18 v19 v20 v21 v22 v23 v24 v25 v26 v27 v28 v29 v30 v31 v32 v33 v34 v35 v36 v37 v38 v39 v40 v41 v42 v43 v44 v45 v46 v47 v48 v49 v50 v51 v52 v53 v54 v55 v56 v57 v58 v59 v60 v61 v62 v63 v64 v65 v66 v67 v68 v69 v70 v71 v72 v73 v74 v75 v76 v77 v78 v79 v80 v81 v82 v83 v84 v85 v86 v87 v88 v89 v90 v91 v92 v93 v94 v95 v96 v97 v98 v99 v100 v101 v102 v103 v104 v105 v106 v107 v108 v109 v110 v111 v112 v113 v114 v115 v116 v117 v118 v119 v120 v121 v122 v123 v124 v125 v126 v127 v128 v129 v130 v131 v132 v133 v134 v135 v136 v137 v138 v139 v140 v141 v142 v143 v144 v145 v146 v147 v148 v149 v150 v151 v152 : Value} (G : GeC w n b10 b16 ib m1 m2 k rs b off bc aa ac nao nc o ks yL) (hn : n = w.heap.size) (hA : Fa k o ks ar) :
    Code.wpIn Fence.wide 5 Tryz.prog restG (bodyPostM Fence.wide 5 Tryz.prog Tryz.f6 (GrEnd w ar k)) { tmps := #[v0, v1, .pointer (some ⟨n, 0, none⟩), v3, v4, v5, v6, v7, v8, v9, .pointer (some ⟨b10, 0, none⟩), .slice aa k ac, .slice nao k nc, v13, v14, v15, .pointer (some ⟨b16, 0, none⟩), v17, v18, v19, v20, v21, v22, v23, v24, v25, v26, v27, v28, v29, v30, v31, v32, v33, v34, v35, v36, v37, v38, v39, v40, v41, v42, v43, v44, v45, v46, v47, v48, v49, v50, v51, v52, v53, v54, v55, v56, v57, v58, v59, v60, v61, v62, v63, v64, v65, v66, v67, v68, v69, v70, v71, v72, v73, v74, v75, v76, v77, v78, v79, v80, v81, v82, v83, v84, v85, v86, v87, v88, v89, v90, v91, v92, v93, v94, v95, v96, v97, v98, v99, v100, v101, v102, v103, v104, v105, v106, v107, v108, v109, v110, v111, v112, v113, v114, v115, v116, v117, v118, v119, v120, v121, v122, v123, v124, v125, v126, v127, v128, v129, v130, v131, v132, v133, v134, v135, v136, v137, v138, v139, v140, v141, v142, v143, v144, v145, v146, v147, v148, v149, v150, v151, v152], defers := [] } yL := by
  have HG := hid G
  have HN := hid hn
  have HA := hid hA
  have hk40 : (k : Int) ≤ 40 := by have := G.few; omega
  have R0 := hid (show GeR yL k ar 0 (.slice none 0 0) [] [] yL from ⟨Isl.rows_own_nil _ _, Below.refl _ _, MarksIn.nil _ _⟩)
  clear G hn hA
  simp only [restG, sndSeq, Tryz.f6, Option.getD_some]
  have hmx : Tryz.prog.follows .mixedOrders = true := by kernel_rfl
  gi_wp2_with fail
  rename_i K hK
  have HC := hid hK
  clear hK
  refine wpIn_loop (fun a W => ∃ (j : Nat) (ev : Value) (us : List Value) (Ds : List Nat) (u24 u25 u26 u102 u103 u104 u105 u106 u107 u108 u109 u110 u111 u112 u113 u114 u143 u144 u145 u146 u147 u148 u149 u150 : Value), a = { tmps := #[v0, v1, .pointer (some ⟨n, 0, none⟩), v3, v4, v5, v6, v7, v8, v9, .pointer (some ⟨b10, 0, none⟩), .slice aa k ac, .slice nao k nc, v13, v14, v15, .pointer (some ⟨b16, 0, none⟩), v17, v18, v19, v20, v21, v22, ev, u24, u25, u26, v27, v28, v29, v30, v31, v32, v33, v34, v35, v36, v37, v38, v39, v40, v41, v42, v43, v44, v45, v46, v47, v48, v49, v50, v51, v52, v53, v54, v55, v56, v57, v58, v59, v60, v61, v62, v63, v64, v65, v66, v67, v68, v69, v70, v71, v72, v73, v74, v75, v76, v77, v78, v79, v80, v81, v82, v83, v84, v85, v86, v87, v88, v89, v90, v91, v92, v93, v94, v95, v96, v97, v98, .slice aa k ac, .int .i64 (k : Int), .int .i64 (j : Int), u102, u103, u104, u105, u106, u107, u108, u109, u110, u111, u112, u113, u114, v115, v116, v117, v118, v119, v120, v121, v122, v123, v124, v125, v126, v127, v128, v129, v130, v131, v132, v133, v134, v135, v136, v137, v138, v139, v140, v141, v142, u143, u144, u145, u146, u147, u148, u149, u150, v151, v152], defers := Ds.map markOf } ∧ j ≤ k ∧ GeR yL k ar j ev us Ds W) (fun a _ => k - (intOf (a.tmps.getD 101 undef)).toNat) ⟨0, .slice none 0 0, [], [], _, _, _, _, _, _, _, _, _, _, _, _, _, _, _, _, _, _, _, _, _, _, _, _, rfl, Nat.zero_le _, R0.out⟩ ?_
  rintro a y ⟨j, ev, us, Ds, u24, u25, u26, u102, u103, u104, u105, u106, u107, u108, u109, u110, u111, u112, u113, u114, u143, u144, u145, u146, u147, u148, u149, u150, rfl, hj, hR⟩
  have HR := hid hR
  clear hR R0
  by_cases hjk : j < k
  · obtain ⟨ao', c', ab, af, ec, -, hcells⟩ := (HG.out.ats.below HR.out.low).view
    obtain ⟨hca, r0, r1, r2⟩ := hcells j _ (placesN_get hjk)
    have e2 : aa = some ⟨ab, af, none⟩ := by
      rw [← hca]
      injection ec
    subst e2
    have n0 := heap_alloc_new y (.cells #[.int .i64 0, .int .i64 (j : Int), .int .i64 0] 46)
    have n1 := heap_alloc2_new y (.cells #[.int .i64 0, .int .i64 (j : Int), .int .i64 0] 46) (.cells #[.slice none 0 0] 42)
    have n0' := heap_alloc_keep n0 (.cells #[.slice none 0 0] 42)
    have b0 := ((Below.refl y.heap.size y).alloc (Nat.le_refl _) (.cells #[.int .i64 0, .int .i64 (j : Int), .int .i64 0] 46)).alloc (by simp) (.cells #[.slice none 0 0] 42)
    have hsz : ((y.alloc (.cells #[.int .i64 0, .int .i64 (j : Int), .int .i64 0] 46)).alloc (.cells #[.slice none 0 0] 42)).heap.size = y.heap.size + 2 := by simp
    obtain ⟨g, hg⟩ : ∃ g, g = y.heap.size := ⟨_, rfl⟩
    rw [← hg] at n0' n1 b0 hsz
    have N0 := hid n0'
    have N1 := hid n1
    have B0 := hid b0
    have HS := hid hsz
    have HGG := hid hg
    clear hcells ec hca n0 n0' n1 b0 hsz hg
    gi_wp2_with fail
    rw [← HGG.out]
    generalize World.alloc (World.alloc y _) _ = y2 at N0 N1 B0 HS ⊢
    have hlow := HR.out.low
    have hyL : yL.heap.size ≤ g := by rw [HGG.out]; exact hlow.size
    have L2 : Below yL.heap.size yL y2 := hlow.trans (B0.out.mono hyL)
    have hbk := (L2.block _ (heap_lt HG.out.bk)).trans HG.out.bk
    have K2 := HG.out.nds.keep L2
    obtain ⟨nb, nf, e3, hfo⟩ : ∃ nb nf, nao = some ⟨nb, nf, none⟩ ∧ FoAt y2 (· < yL.heap.size) (foN o ks k) nb nf := by
      obtain ⟨ao1, c1, e, h⟩ := K2
      rcases h with h | ⟨b', f', e', _, h⟩
      · have := foN_len o ks k
        rw [h.1] at this
        have : k = 0 := this.symm
        omega
      · injection e with e4
        exact ⟨b', f', e4.trans e'.1, h⟩
    subst e3
    obtain ⟨ao1, c1, h1, h2⟩ := hfo.get (foN_get o ks hjk)
    obtain ⟨nn, hnn⟩ : ∃ nn, nn = (ks j).len := ⟨_, rfl⟩
    rw [← hnn] at h1 h2
    have HNN := hid hnn
    have RG := hid h1
    have KV := hid h2
    have BK := hid hbk
    have HL2 := hid L2
    have HYL := hid hyL
    clear hlow hyL L2 hbk K2 hfo h1 h2 hnn r0 r1 r2
    refine wpIn_wide.2 (wp_onlyN ?_)
    refine wp_region_held_drew (S := fun z => z.heap[n]? = some (.cells (bookC1 b off bc) 39 (0, 0)) ∧ z.cell? ⟨g, 0, none⟩ = some (.int .i64 0) ∧ z.rangeAt nb (nf + j * 20) ((o j).cells (.slice ao1 nn c1))) (by kernel_rfl) ⟨BK.out, cell_of (i := 0) N0.out rfl, RG.out⟩ (fun hS => ?_)
    refine wpAnyH_take (i := 0) (oi := ⟨some 106, Op.load 39 (Operand.tmp 2), 39, "deps.go:137", #[], none⟩) rfl (by kernel_rfl) (by kernel_rfl) (by kernel_rfl) (fun _ _ _ h => h) (yieldsIf_load_mid (by rfl) 39 _ rfl n 0 rfl (bookC1 b off bc).toList _ ?_ Tryz.underlying39 rfl (show _ = some 4 from by kernel_rfl)) hS ?_
    · exact fun _ hw => row_at hw.1
    try simp only [Act.put, List.setIfInBounds_toArray, List.set_cons_zero, List.set_cons_succ]
    refine wpAnyH_take (i := 1) (oi := ⟨some 107, Op.fieldAddr 46 (Operand.tmp 25) 0, 0, "deps.go:137", #[], none⟩) (v := ?_) rfl (by kernel_rfl) (by kernel_rfl) (by kernel_rfl) (fun _ _ _ h => h) (Or.inl ⟨by rfl, ?_⟩) hS ?_
    rotate_left 1
    · rintro wx ⟨s0, s1, s2⟩
      (go_simp <;> (try with_reducible rfl))
    try simp only [Act.put, List.setIfInBounds_toArray, List.set_cons_zero, List.set_cons_succ]
    refine wpAnyH_take (i := 2) (oi := ⟨some 108, Op.load 3 (Operand.tmp 107), 3, "deps.go:137", #[⟨1, .data⟩], none⟩) (v := ?_) rfl (by kernel_rfl) (by kernel_rfl) (by kernel_rfl) (fun _ _ _ h => h) (Or.inl ⟨by rfl, ?_⟩) hS ?_
    rotate_left 1
    · rintro wx ⟨s0, s1, s2⟩
      (go_simp <;> (try with_reducible rfl))
    try simp only [Act.put, List.setIfInBounds_toArray, List.set_cons_zero, List.set_cons_succ]
    refine wpAnyH_take (i := 3) (oi := ⟨some 109, Op.build 72 #[(0, Operand.tmp 106), (1, Operand.tmp 108)], 72, "deps.go:137", #[⟨0, .data⟩, ⟨2, .data⟩], none⟩) (v := ?_) rfl (by kernel_rfl) (by kernel_rfl) (by kernel_rfl) (fun _ _ _ h => h) (Or.inl ⟨by rfl, ?_⟩) hS ?_
    rotate_left 1
    · rintro wx ⟨s0, s1, s2⟩
      (go_simp <;> (try with_reducible rfl))
    try simp only [Act.put, List.setIfInBounds_toArray, List.set_cons_zero, List.set_cons_succ]
    refine wpAnyH_take (i := 4) (oi := ⟨some 110, Op.move (Operand.tmp 12), 57, "deps.go:137", #[], none⟩) (v := ?_) rfl (by kernel_rfl) (by kernel_rfl) (by kernel_rfl) (fun _ _ _ h => h) (Or.inl ⟨by rfl, ?_⟩) hS ?_
    rotate_left 1
    · rintro wx ⟨s0, s1, s2⟩
      (go_simp <;> (try with_reducible rfl))
    try simp only [Act.put, List.setIfInBounds_toArray, List.set_cons_zero, List.set_cons_succ]
    refine wpAnyH_take (i := 5) (oi := ⟨some 111, Op.move (Operand.tmp 24), 3, "deps.go:137", #[], none⟩) (v := ?_) rfl (by kernel_rfl) (by kernel_rfl) (by kernel_rfl) (fun _ _ _ h => h) (Or.inl ⟨by rfl, ?_⟩) hS ?_
    rotate_left 1
    · rintro wx ⟨s0, s1, s2⟩
      (go_simp <;> (try with_reducible rfl))
    try simp only [Act.put, List.setIfInBounds_toArray, List.set_cons_zero, List.set_cons_succ]
    refine wpAnyH_take (i := 6) (oi := ⟨some 112, Op.indexAddr 57 (Operand.tmp 110) (Operand.tmp 111), 0, "deps.go:137", #[⟨4, .data⟩, ⟨5, .data⟩], none⟩) (v := ?_) rfl (by kernel_rfl) (by kernel_rfl) (by kernel_rfl) (fun _ _ _ h => h) (Or.inl ⟨by rfl, ?_⟩) hS ?_
    rotate_left 1
    · rintro wx ⟨s0, s1, s2⟩
      (go_simp <;> (try with_reducible rfl))
    try simp only [Act.put, List.setIfInBounds_toArray, List.set_cons_zero, List.set_cons_succ]
    refine wpAnyH_take (i := 7) (oi := ⟨some 113, Op.load 79 (Operand.tmp 112), 79, "deps.go:137", #[⟨6, .data⟩], none⟩) rfl (by kernel_rfl) (by kernel_rfl) (by kernel_rfl) (fun _ _ _ h => h) (yieldsIf_load_mid (by rfl) 79 _ rfl nb (nf + j * 20) rfl ((o j).cells (.slice ao1 nn c1)) _ ?_ Tryz.underlying79 rfl (ow_info (o j) (.slice ao1 nn c1))) hS ?_
    · exact fun _ hw => hw.2.2
    try simp only [Act.put, List.setIfInBounds_toArray, List.set_cons_zero, List.set_cons_succ]
    have N0' := hid (show y2.drew.heap[g]? = _ from N0.out)
    have N1' := hid (show y2.drew.heap[g + 1]? = _ from N1.out)
    have B0' := hid (B0.out.drew)
    have L2' := hid (HL2.out.drew)
    have HS' := hid (show y2.drew.heap.size = g + 2 from HS.out)
    have BK' := hid (show y2.drew.heap[n]? = _ from BK.out)
    have RG' := hid (show y2.drew.rangeAt nb (nf + j * 20) ((o j).cells (.slice ao1 nn c1)) from RG.out)
    have KV' := hid (show KidsV y2.drew (· < yL.heap.size) (.slice ao1 nn c1) (ks j) from KV.out.keep (Below.refl _ _).drew)
    clear N0 N1 B0 HL2 HS BK RG KV
    generalize World.drew y2 = y3 at N0' N1' B0' L2' HS' BK' RG' KV' ⊢
    refine wpAnyH_ready (rs := [8]) (by kernel_rfl) (by simp) ?_
    refine AllReadyH.cons (o := ⟨some 114, Op.call { callee := Callee.value (Operand.func 17), args := #[Operand.tmp 109, Operand.tmp 113], argTypes := #[72, 79] }, 70, "deps.go:137", #[⟨3, .data⟩, ⟨7, .data⟩], none⟩) rfl (fun K hK => ?_) AllReadyH.nil
    go_simp; refine (areas_any (fndC b off bc) ((o j).cells (.slice ao1 nn c1)) _).mono ?_; rintro e y4 ⟨rfl, rfl⟩
    refine hK.out _ _ ⟨heap_alloc_keep (heap_alloc_keep BK'.out _) _, cell_of (i := 0) (heap_alloc_keep (heap_alloc_keep N0'.out _) _) rfl, World.rangeAt_alloc (World.rangeAt_alloc RG'.out _) _⟩ (fun hS2 => ?_)
    clear hK K hS
    revert hS2; intro hS
    try simp only [Act.put, List.setIfInBounds_toArray, List.set_cons_zero, List.set_cons_succ]
    refine wpAnyH_done (by kernel_rfl) ?_ _
    simp only [onlyN]
    gi_wp2_with fail
    rw [HS'.out]
    refine wpIn_rangeFunc_wide (gf := 51) (lb := #[.pointer (some ⟨g + 2, 0, none⟩), .pointer (some ⟨g + 2 + 1, 0, none⟩)]) (by rfl) (enters_of Tryz.func51 (by kernel_rfl) rfl) ?_
    intro rec D hD q1 q2 q3 q4 q5 q6
    have hD' : D = g + 4 := by rw [hD]; simp [HS'.out]
    subst hD'
    clear hD
    have hs3 := HS'.out
    obtain ⟨W1, hW1⟩ : ∃ W1, W1 = (((y3.alloc (.cells (fndC b off bc) 72)).alloc (.cells ((o j).cells (.slice ao1 nn c1)).toArray 79)).alloc (.deferred (some []))).alloc (.loop rec) := ⟨_, rfl⟩
    have nw : ∀ (z : World) (o : Obj) (k : Nat), z.heap.size = k → (z.alloc o).heap[k]? = some o := fun z o k h => by subst h; exact heap_alloc_new z o
    have bw : Below y3.heap.size y3 W1 := by rw [hW1]; exact ((((Chg.refl [] y3).alloc _).alloc _).alloc _).alloc _ |>.nil_below
    have w2 : W1.heap[g + 2]? = some (.cells (fndC b off bc) 72 (0, 0)) := by rw [hW1]; exact heap_alloc_keep (heap_alloc_keep (heap_alloc_keep (nw _ _ _ hs3) _) _) _
    have w3 : W1.heap[g + 2 + 1]? = some (.cells ((o j).cells (.slice ao1 nn c1)).toArray 79 (0, 0)) := by rw [hW1]; exact heap_alloc_keep (heap_alloc_keep (nw _ _ _ (by simp [hs3])) _) _
    have w4 : W1.heap[g + 4]? = some (.deferred (some [])) := by rw [hW1]; exact heap_alloc_keep (nw _ _ _ (by simp [hs3])) _
    have w5 : W1.heap[g + 5]? = some (.loop rec) := by rw [hW1]; exact nw _ _ _ (by simp [hs3])
    have T0 : Gs y g (g + 1) (g + 4) (g + 5) k rec [] W1 sliceN := ⟨B0'.out.trans (bw.mono (by omega)), (bw.block _ (by omega)).trans N1'.out, w4, w5, IntOwn.nil _ _, fun _ => rfl⟩
    have KW := KV'.out.keep bw
    rw [← hW1]
    have HR4 := hid q4
    obtain ⟨hok1, hok2, hok3⟩ := HA.out.ok j hjk
    rw [HNN.out] at KW w3
    have hsW : yL.heap.size ≤ W1.heap.size := by have := HYL.out; have := heap_lt w5; omega
    show CallsIn Fence.wide 4 Tryz.prog 51 #[.func (.yield (g + 5)) #[] #[], .pointer (some ⟨g + 2, 0, none⟩), .pointer (some ⟨g + 2 + 1, 0, none⟩)] W1 _
    refine CallsIn.mono (callsIn_wide.2 (areas1_any (nB := yL.heap.size) (St := fun pre W => ∃ v, Gs y g (g + 1) (g + 4) (g + 5) k rec pre W v) (o j) (ks j) hok1 hok2 hok3 ?hS ?hY W1 ⟨_, T0⟩ w2 w3 KW hsW)) ?behind
    case hS => exact fun pre W W' ⟨v, h⟩ hb => ⟨v, h.below (by have := heap_lt h.loop; omega) hb⟩
    case behind =>
      rintro e W2 ⟨hv, v, T⟩
      refine ⟨hv, T.loop, ?_⟩
      have hgn := heap_lt T.loop
      obtain ⟨W3, hW3⟩ : ∃ W3, W3 = W2.putObj (g + 5) (.loop { rec with state := .exhausted }) := ⟨_, rfl⟩
      have pc : Chg [g + 5] W2 W3 := by rw [hW3]; exact put_chg _ _ _
      have hlow3 : Below g y W3 := T.low.trans (pc.below (B := g) (by simp) (by omega))
      have o3 := pc.heap T.out (by simp)
      have d3 := pc.heap T.df (by simp)
      have ow3 : IntOwn W3 (g + 6) v (edL k (ar j)) := by
        have := T.own.chg pc (fun q hq hm => by have := (T.own.low q hq).1; simp at hm; omega)
        rw [HA.out.at' j hjk, preIds_ar] at this
        exact this
      have hed : edL k (ar j) = [] ∨ (∃ x, edL k (ar j) = [x]) ∨ ∃ x y, edL k (ar j) = [x, y] ∧ x < y := by
        rcases hc : ar j with _ | ⟨r, R⟩
        · exact .inl rfl
        · exact ids_few r R k (HA.out.few j r R hjk hc).1
      have hsm : ∀ x ∈ edL k (ar j), -9223372036854775808 ≤ x ∧ x ≤ 9223372036854775807 := by
        rcases hc : ar j with _ | ⟨r, R⟩
        · intro x hx; simp [edL] at hx
        · exact idsOf_small (by omega)
      have hf := hid (fun m => show FewV (W3.drewN m) v (edL k (ar j)).length from ow3.few hed)
      have HF0 := hid (show FewV W3 v (edL k (ar j)).length from ow3.few hed)
      obtain ⟨va, vc, rfl, -⟩ := ownsRow_view ow3
      have HF := hf
      have D3 := hid d3
      have O3 := hid ow3
      have SM := hid hsm
      have L3 := hid hlow3
      have k3 : ∀ m, (W3.drewN m).cell? ⟨g + 1, 0, none⟩ = some (.slice va (edL k (ar j)).length vc) := fun _ => cell_of (i := 0) o3 rfl
      have k30 : W3.cell? ⟨g + 1, 0, none⟩ = some (.slice va (edL k (ar j)).length vc) := cell_of (i := 0) o3 rfl
      change Exit.inBlock 6 _ _ _ (W2.putObj (g + 5) _)
      rw [← hW3]
      clear q1 q2 q3 q4 q5 q6 HR4 T0 KW w2 w3 w4 w5 bw nw hW1 hs3 T hok1 hok2 hok3 hsW hW3 pc hlow3 o3 d3 ow3 hed hsm hf hgn
      gi_wp2_with fail
      refine (callsIn_wide.2 (sort_few HF0.out)).mono ?_
      rintro e W4 ⟨⟨u, rfl⟩, m, rfl⟩
      have k4 := k3 m
      have hc := compact_few (HF.out m)
      have HCM := hid hc
      clear hc k30 k3
      gi_wp2_with fail
      refine (callsIn_wide.2 HCM.out).mono ?_
      rintro e W5 ⟨rfl, m2, rfl⟩
      have b5 : Below g y (W3.drewN (m + m2)) := below_drewN L3.out (m + m2)
      have rows5 := HR.out.rows.below (by rw [← HGG.out]; exact b5)
      have hgl : g + 4 < (W3.drewN (m + m2)).heap.size := heap_lt (show (W3.drewN (m + m2)).heap[g + 4]? = _ from D3.out)
      have it5 : Isl.IntsT (W3.drewN (m + m2)) (.slice va (edL k (ar j)).length vc) (edL k (ar j)) := IntOwn.intsT (B := g + 6) O3.out SM.out
      obtain ⟨ev', W6, happ, hrow, hch⟩ := rows5.push (by have := HYL.out; omega) it5 (by simp [rowsG]; omega)
      rw [← rowsG_succ] at hrow
      have hev : ∀ x ∈ Isl.own ev, yL.heap.size ≤ x ∧ x < (W3.drewN (m + m2)).heap.size := fun x hx => rows5.row.lt x (by simpa [Isl.own] using hx)
      have hevc : ∀ x ∈ Isl.own ev, ∃ cs, (W3.drewN (m + m2)).heap[x]? = some (.cells cs 42 (0, 0)) := fun x hx => own_cells rows5.row (by simpa [Isl.own] using hx)
      have mk5 := HR.out.mks.below (by rw [← HGG.out]; exact b5)
      have hnD : g + 4 ∉ Ds := fun hm => by
        have := heap_lt (HR.out.mks.2 _ hm).2
        have := HGG.out
        omega
      have mk6 := (mk5.push (D := g + 4) (by have := HYL.out; omega) D3.out hnD).chg hch (fun x hx hm => by
        obtain ⟨cs, hcs⟩ := hevc x hx
        have hd : (W3.drewN (m + m2)).heap[x]? = some (.deferred (some [])) := by
          rcases List.mem_cons.1 hm with rfl | hm
          · exact D3.out
          · exact (mk5.2 x hm).2
        rw [hcs] at hd
        cases hd)
      have low6 := (HR.out.low.trans (b5.mono HYL.out)).trans (hch.below (B := yL.heap.size) (fun x hx => (hev x hx).1) (by have := HYL.out; omega))
      have FIN := hid (show GeR yL k ar (j + 1) ev' (us ++ [.slice va (edL k (ar j)).length vc]) ((g + 4) :: Ds) W6 from ⟨hrow, low6, mk6⟩)
      have HAPP := hid (show (Builtin.append_ #[30, 30] 30 #[ev, .slice (some ⟨W3.heap.size, 0, none⟩) 1 1]).run Tryz.prog ((W3.drewN (m + m2)).alloc (.cells #[.slice va (edL k (ar j)).length vc] 42)) = .ok ev' W6 from happ)
      clear b5 rows5 hgl it5 hrow hch hev hevc mk5 hnD mk6 low6 happ k4
      gi_wp2_with (refine wpListIn_append_run rfl _ _ _ rfl _ _ rfl rfl HAPP.out ?_)
      refine ⟨⟨j + 1, ev', _, (g + 4) :: Ds, _, _, _, _, _, _, _, _, _, _, _, _, _, _, _, _, _, _, _, _, _, _, _, _, rfl, hjk, FIN.out⟩, ?_⟩
      show k - (intOf (.int .i64 ((j : Int) + 1))).toNat < k - (intOf (.int .i64 (j : Int))).toNat
      simp [intOf]
      omega
    case hY =>
      rintro pre x W ⟨v, T⟩ ⟨post, hpost⟩
      rw [HA.out.at' j hjk] at hpost
      obtain ⟨r, R, har, hpre, hx⟩ : ∃ r R, ar j = some (r, R) ∧ pre = [] ∧ x = ((r : Int), (R : Int)) := by
        rcases hc : ar j with _ | ⟨r, R⟩
        · rw [hc] at hpost
          simp [arL] at hpost
        · rw [hc] at hpost
          simp only [arL] at hpost
          rcases pre with _ | ⟨p, pre⟩
          · simp only [List.nil_append, List.cons.injEq] at hpost
            exact ⟨r, R, rfl, rfl, hpost.1⟩
          · simp at hpost
      subst hpre hx
      have hv := T.none rfl
      subst hv
      obtain ⟨hR12, hR200⟩ := HA.out.few j r R hjk har
      have HR12 := hid (show (R = 1 ∨ R = 2) ∧ r + R ≤ 200 from ⟨hR12, hR200⟩)
      refine yield_round T.loop q1 q2 (by rw [q4]; rfl) ?_
      intro rb
      rw [q3, q4, q5, q6]
      have HT := hid T
      clear q1 q2 q3 q4 q5 q6 HR4 T0 KW w2 w3 w4 w5 bw nw hW1 hs3 hpost T hR12 hR200 hok1 hok2 hok3 hsW har
      gi_wp2_with fail
      refine ⟨heap_alloc_keep HT.out.loop _, ?_⟩
      obtain ⟨a0, ha0⟩ : ∃ a0, a0 = W.heap.size := ⟨_, rfl⟩
      have hne : W.heap.size ≠ g + 5 := by have := heap_lt HT.out.loop; omega
      have gA := (World.putObj_heap_other (w := W.alloc (.cells (arCs (r : Int) (R : Int)) 62)) (o := .loop rb) hne).trans (heap_alloc_new W _)
      have cW : Chg [g + 5] W ((W.alloc (.cells (arCs (r : Int) (R : Int)) 62)).putObj (g + 5) (.loop rb)) := ((Chg.refl _ W).alloc _).trans (put_chg _ _ _) (by simp)
      have hlt := heap_lt HT.out.loop
      have lpW : ((W.alloc (.cells (arCs (r : Int) (R : Int)) 62)).putObj (g + 5) (.loop rb)).heap[g + 5]? = some (.loop rb) := World.putObj_heap_same (by simp; omega)
      have lowW := HT.out.low.trans (cW.below (B := g) (by simp) (by omega))
      have LW := HR.out.low.trans (lowW.mono HYL.out)
      have oW := cW.heap HT.out.out (by simp)
      rw [← ha0] at gA ⊢
      have CW := hid cW
      have LPW := hid lpW
      have IW := hid (HG.out.ix.below LW)
      have C10 := hid ((LW.block _ (heap_lt HG.out.c10)).trans HG.out.c10)
      have C16 := hid ((LW.block _ (heap_lt HG.out.c16)).trans HG.out.c16)
      have OW := hid oW
      have GA := hid gA
      clear hne gA cW lpW lowW LW oW ha0 hlt
      change Code.wpIn _ _ _ _ _ _ ((W.alloc (.cells (arCs (r : Int) (R : Int)) 62)).putObj (g + 5) (.loop rb))
      generalize World.putObj _ _ _ = W2 at CW LPW IW C10 C16 OW GA ⊢
      gi_wp2_with fail
      refine wpIn_region_round (S := fun z => z.cell? ⟨b10, 0, none⟩ = some (.pointer (some ⟨ib, 0, none⟩)) ∧ z.heap[a0]? = some (.cells (arCs (r : Int) (R : Int)) 62 (0, 0))) (by kernel_rfl) (by kernel_rfl) (fun h => by obtain ⟨_, _, h⟩ := h; exact h) ⟨cell_of (i := 0) C10.out rfl, GA.out⟩ ?_
      intro hS
      refine wpAnyH_take (i := 1) (oi := ⟨some 117, Op.load 55 (Operand.tmp 10), 55, "deps.go:138", #[], none⟩) (v := ?_) rfl (by kernel_rfl) (by kernel_rfl) (by kernel_rfl) (fun _ _ _ h => h) (Or.inl ⟨by rfl, ?_⟩) hS ?_
      rotate_left 1
      · rintro wx ⟨s0, s1⟩
        (go_simp <;> (try with_reducible rfl))
      try simp only [Act.put, List.setIfInBounds_toArray, List.set_cons_zero, List.set_cons_succ]
      refine wpAnyH_take (i := 2) (oi := ⟨some 118, Op.load 62 (Operand.tmp 27), 62, "deps.go:138", #[], none⟩) rfl (by kernel_rfl) (by kernel_rfl) (by kernel_rfl) (fun _ _ _ h => h) (yieldsIf_load_mid (by rfl) 62 _ rfl a0 0 rfl (arCs (r : Int) (R : Int)).toList _ ?_ Tryz.underlying62 rfl (show _ = some 5 from by kernel_rfl)) hS ?_
      · exact fun _ hw => row_at hw.2
      try simp only [Act.put, List.setIfInBounds_toArray, List.set_cons_zero, List.set_cons_succ]
      have IW' := hid (show Ix W2.drew ib m1 m2 yL.heap.size k rs from IW.out.keep (Below.refl _ _).drew)
      have DD := hid (show Below W2.heap.size W2 W2.drew from (Below.refl _ _).drew)
      have own0 : W2.drew.cell? ⟨g + 1, 0, none⟩ = some sliceN := cell_of (i := 0) OW.out rfl
      clear IW
      generalize World.drew W2 = W3 at hS IW' DD own0 ⊢
      refine wpAnyH_ready (rs := [0, 3]) (by kernel_rfl) (by simp) ?_
      refine AllReadyH.cons (o := ⟨some 116, Op.load 42 (Operand.tmp 26), 42, "deps.go:138", #[], none⟩) rfl (fun K hK => ?_) ?_
      rotate_left 1
      refine AllReadyH.cons (o := ⟨some 119, Op.call { callee := Callee.value (Operand.func 18), args := #[Operand.tmp 117, Operand.tmp 118], argTypes := #[55, 62] }, 42, "deps.go:138", #[⟨1, .data⟩, ⟨2, .data⟩], none⟩) rfl (fun K hK => ?_) AllReadyH.nil
      · go_simp; refine (meets_any IW'.out r R HR12.out.1 HR12.out.2 (by omega)).mono ?_; rintro e z1 ⟨v2, rfl, ho, bz⟩; have HO := hid ho; have BZ := hid (DD.out.trans (bz.mono DD.out.size)); clear ho bz IW'
        refine hK.out _ _ ⟨cell_of (i := 0) ((BZ.out.block _ (heap_lt C10.out)).trans C10.out) rfl, (BZ.out.block _ (heap_lt GA.out)).trans GA.out⟩ (fun hS2 => ?_)
        clear hK K hS
        revert hS2; intro hS
        try simp only [Act.put, List.setIfInBounds_toArray, List.set_cons_zero, List.set_cons_succ]
        have own1 : z1.cell? ⟨g + 1, 0, none⟩ = some sliceN := cell_of (i := 0) ((BZ.out.block _ (heap_lt OW.out)).trans OW.out) rfl
        refine wpAnyH_ready (rs := [0]) (by kernel_rfl) (by simp) ?_
        refine AllReadyH.cons (o := ⟨some 116, Op.load 42 (Operand.tmp 26), 42, "deps.go:138", #[], none⟩) rfl (fun K hK => ?_) AllReadyH.nil
        go_simp
        refine hK.out _ _ ⟨cell_of (i := 0) ((BZ.out.block _ (heap_lt C10.out)).trans C10.out) rfl, (BZ.out.block _ (heap_lt GA.out)).trans GA.out⟩ (fun hS2 => ?_)
        clear hK K hS
        revert hS2; intro hS
        try simp only [Act.put, List.setIfInBounds_toArray, List.set_cons_zero, List.set_cons_succ]
        obtain ⟨v', z2, happ, ho2, b2⟩ := app_two (B := g + 6) HO.out (by have := heap_lt LPW.out; have := BZ.out.size; omega) (by simp only [idsOf, List.length_map]; exact Nat.le_trans (List.length_filter_le _ _) (by simp; have := HR12.out.1; omega))
        obtain ⟨va, vc, rfl, -⟩ := ownsRow_view ho2
        have BZ2 := hid (BZ.out.trans (b2.mono BZ.out.size))
        obtain ⟨f1, f2, f3, f4⟩ := gs_end (L := yL.heap.size) (rec := rec) (r := r) (R := R) HT.out CW.out LPW.out BZ2.out ho2 HYL.out
        have FIN := hid (show _ ∧ _ ∧ _ from ⟨f1, f2, f3⟩)
        have HAPP := hid happ
        have e0 := cell_of (i := 0) f4 rfl
        have e1 := free_of (i := 0) f4
        have SS := hid (show z2.cell? ⟨b10, 0, none⟩ = some (.pointer (some ⟨ib, 0, none⟩)) ∧ z2.heap[a0]? = some (.cells (arCs (r : Int) (R : Int)) 62 (0, 0)) from ⟨cell_of (i := 0) ((BZ2.out.block _ (heap_lt C10.out)).trans C10.out) rfl, (BZ2.out.block _ (heap_lt GA.out)).trans GA.out⟩)
        have c16 := cell_setCell_far (cell_of (i := 0) ((BZ2.out.block _ (heap_lt C16.out)).trans C16.out) rfl) (b := g + 1) (i := 0) (show b16 ≠ g + 1 from by have := HYL.out; have := heap_lt HG.out.c16; omega) (.slice va (idsOf r R k).length vc)
        have n10 : b10 ≠ g + 1 := by have := HYL.out; have := heap_lt HG.out.c10; omega
        have nA0 : a0 ≠ g + 1 := heap_ne GA.out OW.out (by decide)
        clear f1 f2 f3 f4 happ ho2 b2
        refine wpAnyH_ready (rs := [4]) (by kernel_rfl) (by simp) ?_
        refine AllReadyH.cons (o := ⟨some 120, Op.call { callee := Callee.builtin Builtin.append, args := #[Operand.tmp 116, Operand.tmp 119], argTypes := #[42, 42] }, 42, "deps.go:138", #[⟨0, .data⟩, ⟨3, .data⟩, ⟨3, .chain⟩], none⟩) rfl (fun K hK => ?_) AllReadyH.nil
        refine step_append_eq rfl _ _ _ rfl rfl rfl HAPP.out ?_
        refine hK.out _ _ SS.out (fun hS2 => ?_)
        clear hK K hS
        revert hS2; intro hS
        try simp only [Act.put, List.setIfInBounds_toArray, List.set_cons_zero, List.set_cons_succ]
        refine wpAnyH_ready (rs := [5]) (by kernel_rfl) (by simp) ?_
        refine AllReadyH.cons (o := ⟨none, Op.store 42 (Operand.tmp 26) (Operand.tmp 120), 0, "deps.go:138", #[⟨4, .data⟩, ⟨4, .chain⟩, ⟨0, .phase⟩, ⟨1, .phase⟩, ⟨2, .phase⟩, ⟨3, .phase⟩, ⟨4, .phase⟩], none⟩) rfl (fun K hK => ?_) AllReadyH.nil
        go_simp
        refine hK.out _ _ ⟨cell_setCell_far SS.out.1 n10 _, heap_setCell_far SS.out.2 nA0 _⟩ (fun hS2 => ?_)
        clear hK K hS
        revert hS2; intro hS
        try simp only [Act.put, List.setIfInBounds_toArray, List.set_cons_zero, List.set_cons_succ]
        refine wpAnyH_done (by kernel_rfl) ?_ _
        gi_wp2_with fail
        refine wpIn_loop_rounds 1 ?_
        rw [roundsIn_succ]
        gi_wp2_with fail
        exact ⟨FIN.out.1, FIN.out.2.1, FIN.out.2.2⟩
      · go_simp
        refine hK.out _ _ hS (fun hS2 => ?_)
        clear hK K hS
        revert hS2; intro hS
        try simp only [Act.put, List.setIfInBounds_toArray, List.set_cons_zero, List.set_cons_succ]
        refine wpAnyH_ready (rs := [3]) (by kernel_rfl) (by simp) ?_
        refine AllReadyH.cons (o := ⟨some 119, Op.call { callee := Callee.value (Operand.func 18), args := #[Operand.tmp 117, Operand.tmp 118], argTypes := #[55, 62] }, 42, "deps.go:138", #[⟨1, .data⟩, ⟨2, .data⟩], none⟩) rfl (fun K hK => ?_) AllReadyH.nil
        go_simp; refine (meets_any IW'.out r R HR12.out.1 HR12.out.2 (by omega)).mono ?_; rintro e z1 ⟨v2, rfl, ho, bz⟩; have HO := hid ho; have BZ := hid (DD.out.trans (bz.mono DD.out.size)); clear ho bz IW'
        refine hK.out _ _ ⟨cell_of (i := 0) ((BZ.out.block _ (heap_lt C10.out)).trans C10.out) rfl, (BZ.out.block _ (heap_lt GA.out)).trans GA.out⟩ (fun hS2 => ?_)
        clear hK K hS
        revert hS2; intro hS
        try simp only [Act.put, List.setIfInBounds_toArray, List.set_cons_zero, List.set_cons_succ]
        obtain ⟨v', z2, happ, ho2, b2⟩ := app_two (B := g + 6) HO.out (by have := heap_lt LPW.out; have := BZ.out.size; omega) (by simp only [idsOf, List.length_map]; exact Nat.le_trans (List.length_filter_le _ _) (by simp; have := HR12.out.1; omega))
        obtain ⟨va, vc, rfl, -⟩ := ownsRow_view ho2
        have BZ2 := hid (BZ.out.trans (b2.mono BZ.out.size))
        obtain ⟨f1, f2, f3, f4⟩ := gs_end (L := yL.heap.size) (rec := rec) (r := r) (R := R) HT.out CW.out LPW.out BZ2.out ho2 HYL.out
        have FIN := hid (show _ ∧ _ ∧ _ from ⟨f1, f2, f3⟩)
        have HAPP := hid happ
        have e0 := cell_of (i := 0) f4 rfl
        have e1 := free_of (i := 0) f4
        have SS := hid (show z2.cell? ⟨b10, 0, none⟩ = some (.pointer (some ⟨ib, 0, none⟩)) ∧ z2.heap[a0]? = some (.cells (arCs (r : Int) (R : Int)) 62 (0, 0)) from ⟨cell_of (i := 0) ((BZ2.out.block _ (heap_lt C10.out)).trans C10.out) rfl, (BZ2.out.block _ (heap_lt GA.out)).trans GA.out⟩)
        have c16 := cell_setCell_far (cell_of (i := 0) ((BZ2.out.block _ (heap_lt C16.out)).trans C16.out) rfl) (b := g + 1) (i := 0) (show b16 ≠ g + 1 from by have := HYL.out; have := heap_lt HG.out.c16; omega) (.slice va (idsOf r R k).length vc)
        have n10 : b10 ≠ g + 1 := by have := HYL.out; have := heap_lt HG.out.c10; omega
        have nA0 : a0 ≠ g + 1 := heap_ne GA.out OW.out (by decide)
        clear f1 f2 f3 f4 happ ho2 b2
        refine wpAnyH_ready (rs := [4]) (by kernel_rfl) (by simp) ?_
        refine AllReadyH.cons (o := ⟨some 120, Op.call { callee := Callee.builtin Builtin.append, args := #[Operand.tmp 116, Operand.tmp 119], argTypes := #[42, 42] }, 42, "deps.go:138", #[⟨0, .data⟩, ⟨3, .data⟩, ⟨3, .chain⟩], none⟩) rfl (fun K hK => ?_) AllReadyH.nil
        refine step_append_eq rfl _ _ _ rfl rfl rfl HAPP.out ?_
        refine hK.out _ _ SS.out (fun hS2 => ?_)
        clear hK K hS
        revert hS2; intro hS
        try simp only [Act.put, List.setIfInBounds_toArray, List.set_cons_zero, List.set_cons_succ]
        refine wpAnyH_ready (rs := [5]) (by kernel_rfl) (by simp) ?_
        refine AllReadyH.cons (o := ⟨none, Op.store 42 (Operand.tmp 26) (Operand.tmp 120), 0, "deps.go:138", #[⟨4, .data⟩, ⟨4, .chain⟩, ⟨0, .phase⟩, ⟨1, .phase⟩, ⟨2, .phase⟩, ⟨3, .phase⟩, ⟨4, .phase⟩], none⟩) rfl (fun K hK => ?_) AllReadyH.nil
        go_simp
        refine hK.out _ _ ⟨cell_setCell_far SS.out.1 n10 _, heap_setCell_far SS.out.2 nA0 _⟩ (fun hS2 => ?_)
        clear hK K hS
        revert hS2; intro hS
        try simp only [Act.put, List.setIfInBounds_toArray, List.set_cons_zero, List.set_cons_succ]
        refine wpAnyH_done (by kernel_rfl) ?_ _
        gi_wp2_with fail
        refine wpIn_loop_rounds 1 ?_
        rw [roundsIn_succ]
        gi_wp2_with fail
        exact ⟨FIN.out.1, FIN.out.2.1, FIN.out.2.2⟩
  · obtain rfl : j = k := by omega
    have HJ := hid hj
    clear hj hjk
    gi_wp2_with fail
    refine HC.out _ _ ?_
    gi_wp2_with fail
    refine leaves_marks (v := .tuple #[.slice aa j ac, ev, .int .i64 0]) HR.out.mks HR.out.low.size (fun w' hb hk => ⟨results3 rfl _ _ rfl rfl rfl, _, _, rfl, ⟨_, _, rfl⟩, ?_, ?_⟩)
    · have hm := HR.out.mks
      have hc : Chg Ds y w' := ⟨hb.os, hb.tape, hb.output, hb.size, fun x hx hn => hk x hn hx⟩
      exact (HR.out.rows.chg hc (fun x hx cs hcs => by
        have := (hm.2 x hx).2
        rw [hcs] at this
        cases this) (fun x hx hd => by
        obtain ⟨cs, hcs⟩ := own_cells HR.out.rows.row (g := x) (by simpa [Isl.own] using hx)
        have := (hm.2 x hd).2
        rw [hcs] at this
        cases this)).rows
    · have h1 := HG.out.low
      rw [HN.out] at h1
      have h2 := heap_lt HG.out.bk
      have h3 := HN.out
      exact (h1.trans (HR.out.low.mono (by omega))).trans (hb.mono (by omega))
end Go.Proofs.YtpcjfgihglfdgaaGreatDoor
