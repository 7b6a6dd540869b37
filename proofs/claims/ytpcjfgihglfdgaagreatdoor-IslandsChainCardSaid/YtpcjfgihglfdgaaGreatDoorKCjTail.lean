/- islands.Parts behind the making of its walker: the loop over the nodes. Contract of islands.Parts. Contracts of slices.Contains of ints and of islands.IsLoop. Contract of the law's own same: are lists of lists the same. -/
import Derived.Test.YtpcjfgihglfdgaaGreatDoorKCjMake
import Derived.Deep.RegionWith
import Derived.Test.YtpcjfgihglfdgaaGreatDoorKCjMem
import Derived.Test.YtpcjfgihglfdgaaGreatDoorKCjPlain2

namespace Go.Proofs.YtpcjfgihglfdgaaGreatDoor.Isl
open Go.RowKit Go.Lib

/-- the loop over the nodes -/
def NodeRel (w : World) (B wb : Nat) (ev : Value) (n bw bl bo : Nat) (g : Gr) (kv : Value) (wr : World) : Prop :=
  ∃ (k : Nat) (ov : Value) (s : St), kv = .int .i64 (k : Int) ∧ k ≤ n ∧ WAt wr B wb ev n bw bl bo ov s ∧ Inv g s [] ∧ Cnt g s [] ∧ (∀ i, i < k → 0 < s.wn i) ∧ Below B w wr

set_option maxRecDepth 20000 in
set_option maxHeartbeats 4000000 in
theorem parts_tail {w x : World} {B wb n bw bl bo ec M : Nat} {ao : Option Addr} {g : Gr} (v1 v2 v3 v6 v7 v8 v9 v10 v11 v12 v13 v14 v15 v16 v17 v18 v19 v20 v21 v22 v23 v24 v25 v26 v27 v28 v29 v30 v31 v32 v33 v34 v35 v36 v37 v38 v39 v40 v41 v42 v43 v44 v45 v46 v47 v48 v49 v50 v51 v52 v53 v54 v55 v56 v57 v58 v59 v60 v61 v62 v63 v64 v65 v66 v67 v68 v69 v70 v71 v72 v73 v74 v75 v76 v77 v78 v79 v80 v81 v82 v83 v84 v85 v86 v87 v88 v89 v90 v91 v92 v93 v94 v95 v96 v97 v98 v99 v100 v101 v102 v103 v104 v105 v106 v107 v108 v109 v110 v111 v112 v113 v114 v115 v116 v117 v118 v119 v120 v121 v122 v123 v124 v125 v126 v127 v128 v129 v130 v131 v132 v133 v134 v135 v136 v137 v138 v139 v140 v141 v142 v143 v144 v145 v146 v147 v148 v149 v150 v151 v152 v153 v154 v155 v156 v157 v158 v159 v160 v161 v162 v163 v164 v165 v166 v167 v168 v169 v170 v171 v172 v173 v174 v175 v176 v177 v178 v179 v180 v181 v182 v183 v184 : Value) (hn : n = g.length) (hn2 : n ≤ 2000) (R : RightG g) (hB : w.heap.size = B) (hM : ∀ k, (edges g k).length ≤ M) (hM2 : (n + 1) * M ≤ 1000000)
    (hG : RowsIn w (.slice ao n ec) (castG g)) (A : WAt x B wb (.slice ao n ec) n bw bl bo (.slice none 0 0) start) (hb : Below B w x) :
    Code.wp Tryz.prog rest13 (bodyPost Tryz.prog Tryz.f7 (PartsPost w g)) { tmps := #[.slice ao n ec, v1, v2, v3, .int .i64 (n : Int), .pointer (some ⟨wb, 0, none⟩), v6, v7, v8, v9, v10, v11, v12, v13, v14, v15, v16, v17, v18, v19, v20, v21, v22, v23, v24, v25, v26, v27, v28, v29, v30, v31, v32, v33, v34, v35, v36, v37, v38, v39, v40, v41, v42, v43, v44, v45, v46, v47, v48, v49, v50, v51, v52, v53, v54, v55, v56, v57, v58, v59, v60, v61, v62, v63, v64, v65, v66, v67, v68, v69, v70, v71, v72, v73, v74, v75, v76, v77, v78, v79, v80, v81, v82, v83, v84, v85, v86, v87, v88, v89, v90, v91, v92, v93, v94, v95, v96, v97, v98, v99, v100, v101, v102, v103, v104, v105, v106, v107, v108, v109, v110, v111, v112, v113, v114, v115, v116, v117, v118, v119, v120, v121, v122, v123, v124, v125, v126, v127, v128, v129, v130, v131, v132, v133, v134, v135, v136, v137, v138, v139, v140, v141, v142, v143, v144, v145, v146, v147, v148, v149, v150, v151, v152, v153, v154, v155, v156, v157, v158, v159, v160, v161, v162, v163, v164, v165, v166, v167, v168, v169, v170, v171, v172, v173, v174, v175, v176, v177, v178, v179, v180, v181, v182, v183, v184], defers := [] } x := by
  have HN := hid hn
  have HR := hid R
  have HG := hid hG
  have HA := hid A
  have HB := hid hB
  have HM := hid hM
  have HM2 := hid hM2
  have HBX := hid hb
  clear hn R hG A hB hb hM hM2
  simp only [rest13, sndSeq, Tryz.f7, Option.getD_some]
  go_wp2_with fail
  rename_i K hK
  have HK := hid hK
  clear hK
  go_loopw [38] (fun kv wr => NodeRel w B wb (.slice ao n ec) n bw bl bo g kv wr) (fun kv _ => n - (intOf kv).toNat)
  case atStart => exact ⟨0, _, _, rfl, by omega, HA.out, inv_start g, cnt_start g, by simp, HBX.out⟩
  case round =>
    obtain ⟨k, ov, s, rfl, hk, A, I, C, hmet, hbr⟩ := hrel
    have d1 := cell_of (i := 1) A.hd rfl
    have HA1 := hid A
    have HI := hid I
    have HC := hid C
    have HM1 := hid hmet
    have HBR := hid hbr
    by_cases hgo : k < n
    · obtain ⟨eb, eo, rfl⟩ := rows_at HG.out HN.out hgo
      have g1 := A.rw.get hgo
      clear A I C hmet hbr
      by_cases h0 : s.wn k = 0
      · have g1' : wr.cell? ⟨bw, k, none⟩ = some (.int .i64 0) := by rw [g1]; simp [natI, h0]
        have HW := hid (walk_any HA1.out HN.out hn2 HR.out HI.out HC.out hgo h0 (fun y hy => HG.out.below (HB.out ▸ HBR.out.trans hy)))
        clear g1 h0
        go_wp2_with fail
        refine HW.out.mono ?_
        rintro e w2 ⟨rfl, ov2, s2, A2, ch2, I2, C2, m1, m2⟩
        have RR := hid (show NodeRel w B wb (.slice (some ⟨eb, eo, none⟩) n ec) n bw bl bo g (.int .i64 ((k : Int) + 1)) w2 from
          ⟨k + 1, ov2, s2, by simp, by omega, A2, I2, C2, fun i hi => by
            by_cases e : i = k
            · subst e; exact m2
            · exact m1 i (HM1.out i (by omega)), HBR.out.trans (ch2.1.below HA1.out.blocks (by have := HA1.out.b0; have := heap_lt HA1.out.hd; omega))⟩)
        clear A2 ch2 I2 C2 m1 m2
        go_wp2_with fail
        go_roundw
        case rel => exact RR.out
        case measure => simp [intOf]; omega
      · obtain ⟨y, hy⟩ : ∃ y, y = s.wn k := ⟨_, rfl⟩
        have g1' : wr.cell? ⟨bw, k, none⟩ = some (.int .i64 (y : Int)) := by rw [g1, hy]; rfl
        have hy0 : 0 < y := by omega
        have HY := hid hy
        clear g1 h0 hy
        go_wp2_with fail
        go_roundw
        case rel => exact ⟨k + 1, ov, s, by simp, by omega, HA1.out, HI.out, HC.out, fun i hi => by
          by_cases e : i = k
          · subst e; rw [← HY.out]; exact hy0
          · exact HM1.out i (by omega), HBR.out⟩
        case measure => simp [intOf]; omega
    · obtain rfl : k = n := by omega
      obtain ⟨NUM, hisl⟩ := num_of HR.out HI.out (fun i hi => HM1.out i (HN.out ▸ hi))
      obtain ⟨cf, hcf⟩ : ∃ cf : Nat → Nat, cf = fun i => (s.isl i).getD 0 := ⟨_, rfl⟩
      rw [← hcf] at NUM
      obtain ⟨m, hm⟩ : ∃ m, m = s.many := ⟨_, rfl⟩
      rw [← hm] at NUM
      have hm2 : m ≤ 2000 := by have := C.many; have := C.le; have := HN.out; omega
      have HNUM := hid NUM
      have HMM := hid hm
      have hci := hid (show ∀ i, i < k → islI s.isl i = (cf i : Int) from fun i hi => by
        unfold islI
        have h := hisl i (HN.out ▸ hi)
        rw [h, hcf])
      clear A I C hmet hbr d1 NUM hisl hcf hm
      go_wp2_with fail
      refine HK.out _ _ ?_
      have HP := @parts_mk w wr B wb k bw bl bo m (.slice ao k ec) ov s rest13t (bodyPost Tryz.prog Tryz.f7 (PartsPost w g))
      refine HP _ _ _ _ _ _ _ _ _ _ _ _ _ _ _ _ _ _ _ _ _ _ _ _ _ _ _ _ _ _ _ _ _ _ _ _ _ _ _ _ _ _ _ _ _ _ _ _ _ _ _ _ _ _ _ _ _ _ _ _ _ _ _ _ _ _ _ _ _ _ _ _ _ _ _ _ _ _ _ _ _ _ _ _ _ _ _ _ _ _ _ _ _ _ _ _ _ _ _ _ _ _ _ _ _ _ _ _ _ _ _ _ _ _ _ _ _ _ _ _ _ _ _ _ _ _ _ _ _ _ _ _ _ _ _ _ _ _ _ _ _ _ _ _ _ _ _ _ _ _ _ _ _ _ _ _ _ _ _ _ _ _ _ _ _ _ _ _ _ _ _ _ _ _ _ _ _ _ _ _ _ _ _ HA1.out HMM.out hm2 HBR.out ?_
      intro pbx pr nbx nr rr y v1 v2 v3 v4 v6 v10 v11 v12 v13 v14 v15 v16 v17 v18 v19 v20 v21 v22 v23 v24 v25 v26 v27 v28 v29 v30 v31 v32 v33 v34 v35 v36 v37 v38 v39 v40 v41 v42 v43 v44 v45 v46 v47 v48 v49 v50 v51 v52 v53 v54 v55 v56 v57 v58 v59 v60 v61 v62 v63 v64 v65 v66 v67 v68 v69 v70 v71 v72 v73 v74 v75 v76 v77 v78 v79 v80 v81 v82 v83 v84 v85 v86 v87 v88 v89 v90 v91 v92 v93 v94 v95 v96 v97 v98 v99 v100 v101 v102 v103 v104 v105 v106 v107 v108 v109 v110 v111 v112 v113 v114 v115 v116 v117 v118 v119 v120 v121 v122 v123 v124 v125 v126 v127 v128 v129 v130 v131 v132 v133 v134 v135 v136 v137 v138 v139 v140 v141 v142 v143 v144 v145 v146 v147 v148 v149 v150 v151 v152 v153 v154 v155 v156 v157 v158 v159 v160 v161 v162 v163 v164 v165 v166 v167 v168 v169 v170 v171 v172 v173 v174 v175 v176 v177 v178 v179 v180 v181 v182 v183 v184 T hby
      exact parts_tab _ _ _ _ _ _ _ _ _ _ _ _ _ _ _ _ _ _ _ _ _ _ _ _ _ _ _ _ _ _ _ _ _ _ _ _ _ _ _ _ _ _ _ _ _ _ _ _ _ _ _ _ _ _ _ _ _ _ _ _ _ _ _ _ _ _ _ _ _ _ _ _ _ _ _ _ _ _ _ _ _ _ _ _ _ _ _ _ _ _ _ _ _ _ _ _ _ _ _ _ _ _ _ _ _ _ _ _ _ _ _ _ _ _ _ _ _ _ _ _ _ _ _ _ _ _ _ _ _ _ _ _ _ _ _ _ _ _ _ _ _ _ _ _ _ _ _ _ _ _ _ _ _ _ _ _ _ _ _ _ _ _ _ _ _ _ _ _ _ _ _ _ _ _ _ _ _ _ _ _ HN.out hn2 hm2 HB.out HR.out hci.out HNUM.out HM.out HM2.out HG.out T hby

end Go.Proofs.YtpcjfgihglfdgaaGreatDoor.Isl

namespace Go.Proofs.YtpcjfgihglfdgaaGreatDoor.Isl
open Go.RowKit Go.Lib

theorem cell_new0 (W : World) (b : Nat) (hb : W.heap.size = b) (x : Value) (t : TypeId) : (W.alloc (.cells #[x] t)).drew.cell? ⟨b, 0, none⟩ = some x := by
  subst hb
  exact cell_of (w := W.alloc (.cells #[x] t)) (heap_alloc_new W _) rfl
theorem cell_new1 (W : World) (b : Nat) (hb : W.heap.size = b) (x : Value) (t : TypeId) (o : Obj) : ((W.alloc (.cells #[x] t)).alloc o).drew.cell? ⟨b, 0, none⟩ = some x := by
  subst hb
  exact cell_of (w := (W.alloc (.cells #[x] t)).alloc o) (heap_alloc_keep (heap_alloc_new W _) _) rfl
theorem cell_new2 (W : World) (b : Nat) (hb : W.heap.size = b) (x : Value) (t : TypeId) (o o2 : Obj) : (((W.alloc (.cells #[x] t)).alloc o).alloc o2).drew.cell? ⟨b, 0, none⟩ = some x := by
  subst hb
  exact cell_of (w := ((W.alloc (.cells #[x] t)).alloc o).alloc o2) (heap_alloc_keep (heap_alloc_keep (heap_alloc_new W _) _) _) rfl

theorem heap_new_at (W : World) (b : Nat) (hb : W.heap.size = b) (o : Obj) : (W.alloc o).heap[b]? = some o := by
  subst hb
  exact heap_alloc_new W o
theorem heap_drew {W : World} {b : Nat} {o : Obj} (h : W.heap[b]? = some o) : W.drew.heap[b]? = some o := h
theorem heap_bel {X Y : World} {b : Nat} {o : Obj} (hb : Below X.heap.size X Y) (h : X.heap[b]? = some o) : Y.heap[b]? = some o := (hb.block b (heap_lt h)).trans h
theorem rowf_keep {W : World} {b n : Nat} {f : Nat → Int} (h : RowF W b n f) (o : Obj) : RowF (W.alloc o) b n f := heap_alloc_keep h o
theorem wat_start {y : World} {B wb n bw bl bo : Nat} {ev : Value} (hd : y.heap[wb]? = some (.cells #[ev, .slice (some ⟨bw, 0, none⟩) n n, .slice (some ⟨bl, 0, none⟩) n n, .slice none 0 0, .slice (some ⟨bo, 0, none⟩) n n, .int .i64 0, .int .i64 0] 87 (0, 0)))
    (h1 : y.heap[bw]? = some (.cells (Array.replicate n (.int .i64 0)) 3 (0, 0))) (h2 : y.heap[bl]? = some (.cells (Array.replicate n (.int .i64 0)) 3 (0, 0))) (h3 : RowF y bo n (fun _ => -1)) (ne : bw ≠ bl ∧ bw ≠ bo ∧ bl ≠ bo) (hB : B ≤ wb ∧ B ≤ bw ∧ B ≤ bl ∧ B ≤ bo) :
    WAt y B wb ev n bw bl bo (.slice none 0 0) start := by
  have r3 : (Array.replicate n (Value.int .i64 0)) = ((List.range n).map fun i => Value.int .i64 (natI (fun _ => 0) i)).toArray := by
    have : (fun i => Value.int .i64 (natI (fun _ => 0) i)) = fun _ => Value.int .i64 0 := by funext i; rfl
    rw [this, List.map_const']; simp
  refine ⟨hd, ?_, ?_, h3, World.ownsRow_nil _ _ _ _, ne.1, ne.2.1, ne.2.2, fun g hg => by simp [Value.ownBlock] at hg, hB.1, hB.2.1, hB.2.2.1, hB.2.2.2⟩
  · unfold RowF
    rw [h1, r3]; rfl
  · unfold RowF
    rw [h2, r3]; rfl

set_option maxRecDepth 20000 in
set_option maxHeartbeats 1000000 in
theorem parts_bad (w : World) (v : Value) (G : List (List Int)) (h : RowsIn w v G) (hr : rightB G = false) :
    Calls Tryz.prog 7 #[v] w fun e w' => e = .returned (.tuple #[.slice none 0 0, .int .i64 130]) ∧ Below w.heap.size w w' := by
  have H := right_any w v G h
  rw [hr] at H
  have HH := hid H
  clear H h hr
  go_enter Tryz.func7, Tryz.ntmps7
  go_wp2_with fail
  refine HH.out.mono ?_
  rintro e w' ⟨rfl, hb⟩
  go_wp2_with fail
  go_ret2
  exact ⟨rfl, hb⟩

set_option maxRecDepth 20000 in
set_option maxHeartbeats 8000000 in
theorem parts_right (w : World) (ev : Value) (g : Gr) (h : RowsIn w ev (castG g)) {M : Nat} (R : RightG g) (hn : g.length ≤ 2000) (hM : ∀ k, (edges g k).length ≤ M) (hM2 : (g.length + 1) * M ≤ 1000000) :
    Calls Tryz.prog 7 #[ev] w (PartsPost w g) := by
  have hr : rightB (castG g) = true := by
    unfold rightB badGraph
    rw [castG_length]
    simp only [Bool.and_eq_true, decide_eq_true_eq, Bool.not_eq_true', List.any_eq_false]
    refine ⟨hn, fun l hl => ?_⟩
    obtain ⟨i, hi, e⟩ := List.getElem_of_mem hl
    rw [castG_length] at hi
    have h2 := castG_get hi
    rw [List.getElem?_eq_getElem (by rw [castG_length]; exact hi), e] at h2
    rw [Option.some.inj h2]
    unfold badRow
    rw [List.any_eq_true]
    rintro ⟨x, hx, hb⟩
    obtain ⟨j, hj, rfl⟩ := List.mem_map.1 hx
    have := R i j hj
    simp only [badX, Bool.or_eq_true, decide_eq_true_eq] at hb
    omega
  have H := right_any w ev (castG g) h
  rw [hr] at H
  have HH := hid H
  have HRI := hid h
  have HR := hid R
  have HM := hid hM
  have HM2 := hid hM2
  obtain ⟨ao, ac, eb, eo, rfl, _⟩ := h
  rw [castG_length] at HH HRI ⊢
  obtain ⟨n, hnn⟩ : ∃ n, n = g.length := ⟨_, rfl⟩
  rw [← hnn] at HH hn HRI HM2 ⊢
  have hmk := make_ints n (by omega)
  have HN := hid hnn
  clear H hr hnn R hM hM2
  go_enter Tryz.func7, Tryz.ntmps7
  go_wp2_with fail
  refine HH.out.mono ?_
  rintro e w1 ⟨rfl, hb⟩
  go_wp2_with fail
  rename_i K hK
  have HK := hid hK
  clear hK
  have HRP := hid (fun (x : World) (xb : Nat) (hx : x.cell? ⟨xb, 0, none⟩ = some (.int .i64 (-1))) => repeat_any x xb n hx (by omega))
  go_region_with (first | (go_at_call 22; refine (HRP.out _ _ ?_).mono ?_; (first | exact cell_new0 _ _ (by simp) _ _ | exact cell_new1 _ _ (by simp) _ _ _ | exact cell_new2 _ _ (by simp) _ _ _ _); rintro e w2 ⟨rfl, r2, b2⟩))
  all_goals (
    have HPT := fun {x : World} {B wb n bw bl bo ec M : Nat} {ao : Option Addr} {g : Gr} => @parts_tail w x B wb n bw bl bo ec M ao g
    simp only [rest13, sndSeq, Tryz.f7, Option.getD_some] at HPT
    go_wp2_with fail
    refine HK.out _ _ ?_
    have hs2 := b2.size
    have hs3 := r2.lt
    have hs1 := hb.size
    go_simp
    refine HPT _ _ _ _ _ _ _ _ _ _ _ _ _ _ _ _ _ _ _ _ _ _ _ _ _ _ _ _ _ _ _ _ _ _ _ _ _ _ _ _ _ _ _ _ _ _ _ _ _ _ _ _ _ _ _ _ _ _ _ _ _ _ _ _ _ _ _ _ _ _ _ _ _ _ _ _ _ _ _ _ _ _ _ _ _ _ _ _ _ _ _ _ _ _ _ _ _ _ _ _ _ _ _ _ _ _ _ _ _ _ _ _ _ _ _ _ _ _ _ _ _ _ _ _ _ _ _ _ _ _ _ _ _ _ _ _ _ _ _ _ _ _ _ _ _ _ _ _ _ _ _ _ _ _ _ _ _ _ _ _ _ _ _ _ _ _ _ _ _ _ _ _ _ _ _ _ _ _ _ _ _ _ HN.out hn HR.out rfl HM.out HM2.out HRI.out (wat_start (heap_new_at _ _ ?h0 _) ?h1 ?h2 ?h3 ?ne ?hB) ?hbel
    case h0 => simp
    case h1 => repeat (with_reducible (first | (refine heap_new_at _ _ ?_ _; simp; done) | refine heap_alloc_keep ?_ _ | refine heap_drew ?_ | refine heap_bel b2 ?_))
    case h2 => repeat (with_reducible (first | (refine heap_new_at _ _ ?_ _; simp; done) | refine heap_alloc_keep ?_ _ | refine heap_drew ?_ | refine heap_bel b2 ?_))
    case h3 =>
      repeat (with_reducible (refine rowf_keep ?_ _))
      simpa using r2
    case ne => simp at hs3; refine ⟨?_, ?_, ?_⟩ <;> omega
    case hB =>
      simp at hs2
      refine ⟨?_, ?_, ?_, ?_⟩
      all_goals omega
    case hbel =>
      refine Chg.nil_below ?_
      repeat (with_reducible (first | exact Chg.of_below hb | refine Chg.alloc ?_ _ | refine Chg.drew ?_ | refine Chg.trans ?_ (Chg.of_below (F := []) b2) (by simp))))

end Go.Proofs.YtpcjfgihglfdgaaGreatDoor.Isl

namespace Go.Proofs.YtpcjfgihglfdgaaGreatDoor.Isl
open Go.RowKit Go.Lib

theorem contains_any (w : World) (lv : Value) (l : List Int) (h : IntsIn w lv l) (x : Int) (h1 : -9223372036854775808 ≤ x) (h2 : x ≤ 9223372036854775807) :
    Calls Tryz.prog 35 #[lv, .int .i64 x] w fun e w' => e = .returned (.bool (decide (x ∈ l))) ∧ w' = w := by
  have HI := hid (index_any w lv l h x h1 h2)
  clear h h1 h2
  go_enter Tryz.func35, Tryz.ntmps35
  go_wp2_with fail
  refine HI.out.mono ?_
  rintro e w' ⟨rfl, rfl⟩
  by_cases hx : x ∈ l
  · obtain ⟨y, hy⟩ : ∃ y : Nat, findI x l = (y : Int) := ⟨l.idxOf x, by simp [findI, hx]⟩
    rw [hy]
    have hd : decide (x ∈ l) = true := by simpa using hx
    have HD := hid hd
    clear hy hd hx HI
    go_wp2_with fail
    go_ret
    exact ⟨ret_bool HD.out.symm, rfl⟩
  · have hy : findI x l = -1 := by simp [findI, hx]
    rw [hy]
    have hd : decide (x ∈ l) = false := by simpa using hx
    have HD := hid hd
    clear hy hd hx HI
    go_wp2_with fail
    go_ret
    exact ⟨ret_bool HD.out.symm, rfl⟩

/-- whether a part goes in a circle -/
def loopB (G : List (List Int)) : List Int → Bool
  | [] => false
  | [k] => rightB G && (decide (0 ≤ k) && (decide (k < (G.length : Int)) && decide (k ∈ (G[k.toNat]?).getD [])))
  | _ :: _ :: _ => rightB G

def LoopEnd (w : World) (b : Bool) (e : Ending) (w' : World) : Prop := e = .returned (.bool b) ∧ Below w.heap.size w w'

set_option maxHeartbeats 1000000 in
theorem loop_any (w : World) (gv pv : Value) (G : List (List Int)) (part : List Int) (h : RowsIn w gv G) (hp : IntsIn w pv part) : Calls Tryz.prog 9 #[gv, pv] w (LoopEnd w (loopB G part)) := by
  have HR := hid (right_any w gv G h)
  by_cases hr : rightB G = false
  · have hl : loopB G part = false := by
      rcases part with _ | ⟨k, _ | ⟨k2, t⟩⟩ <;> simp [loopB, hr]
    rw [hl]
    rw [hr] at HR
    clear hr hl h hp
    go_enter Tryz.func9, Tryz.ntmps9
    go_wp2_with fail
    refine HR.out.mono ?_
    rintro e w1 ⟨rfl, hb⟩
    go_wp2_with fail
    go_ret
    exact ⟨rfl, hb⟩
  · have hr' : rightB G = true := by simpa using hr
    rw [hr'] at HR
    obtain ⟨po, pc, pb, poff, rfl, hpl, hpc⟩ := hp
    rcases part with _ | ⟨k, _ | ⟨k2, t⟩⟩
    · have hl : loopB G [] = false := rfl
      rw [hl]
      simp only [List.length_nil]
      clear hr hr' h hpc hpl hl
      go_enter Tryz.func9, Tryz.ntmps9
      go_wp2_with fail
      refine HR.out.mono ?_
      rintro e w1 ⟨rfl, hb⟩
      go_wp2_with fail
      go_ret
      exact ⟨rfl, hb⟩
    · obtain ⟨rfl, ck, k1, k2⟩ := hpc 0 k rfl
      rw [Nat.add_zero] at ck
      simp only [List.length_cons, List.length_nil, Nat.zero_add] at *
      by_cases hk : 0 ≤ k ∧ k < (G.length : Int)
      · obtain ⟨hk1, hk2⟩ := hk
        obtain ⟨kn, rfl⟩ : ∃ kn : Nat, k = (kn : Int) := ⟨k.toNat, by omega⟩
        have hkl : kn < G.length := by omega
        have h0 := h
        obtain ⟨go, gc, gb, goff, rfl, hgl, hgc⟩ := h0
        obtain ⟨l, hl⟩ : ∃ l, G[kn]? = some l := ⟨_, List.getElem?_eq_getElem hkl⟩
        obtain ⟨rfl, lv, clv, hli⟩ := hgc kn l hl
        have e : loopB G [(kn : Int)] = decide ((kn : Int) ∈ l) := by
          have h1 : decide ((0 : Int) ≤ (kn : Int)) = true := by simp
          have h2 : decide ((kn : Int) < (G.length : Int)) = true := by simp; omega
          simp only [loopB, hr', h1, h2, Bool.true_and, Int.toNat_natCast, hl, Option.getD_some]
        rw [e]
        obtain ⟨n, hn⟩ : ∃ n, n = G.length := ⟨_, rfl⟩
        rw [← hn] at HR hkl hgl ⊢
        have hC := hid (fun (y : World) (hy : Below w.heap.size w y) => contains_any y lv l (hli.below hy) kn (by omega) (by omega))
        have HCK := hid ck
        have HCL := hid clv
        clear hr hr' h hpc hgc hli hl e hk1 hk2 hn ck clv
        go_enter Tryz.func9, Tryz.ntmps9
        go_wp2_with fail
        refine HR.out.mono ?_
        rintro e w1 ⟨rfl, hb⟩
        have ck1 := (hb.cell (World.block_lt_of_cell? _ _ HCK.out)).trans HCK.out
        have cl1 := (hb.cell (World.block_lt_of_cell? _ _ HCL.out)).trans HCL.out
        go_wp2_with fail
        refine (hC.out w1 hb).mono ?_
        rintro e w2 ⟨rfl, rfl⟩
        go_wp2_with fail
        go_ret
        exact ⟨rfl, hb⟩
      · have e : loopB G [k] = false := by
          unfold loopB
          by_cases h1 : 0 ≤ k
          · have h2 : ¬ k < (G.length : Int) := fun h2 => hk ⟨h1, h2⟩
            simp [h2]
          · simp [h1]
        rw [e]
        have HCK := hid ck
        obtain ⟨go, gc, gb, goff, rfl, hgl, hgc⟩ := h
        obtain ⟨n, hn⟩ : ∃ n, n = G.length := ⟨_, rfl⟩
        rw [← hn] at HR hgl hk ⊢
        clear hr hr' hpc hgc e ck hn
        by_cases h1 : 0 ≤ k
        · have h2 : ¬ k < (n : Int) := fun h2 => hk ⟨h1, h2⟩
          clear hk
          go_enter Tryz.func9, Tryz.ntmps9
          go_wp2_with fail
          refine HR.out.mono ?_
          rintro e w1 ⟨rfl, hb⟩
          have ck1 := (hb.cell (World.block_lt_of_cell? _ _ HCK.out)).trans HCK.out
          go_wp2_with fail
          go_ret
          exact ⟨rfl, hb⟩
        · clear hk
          go_enter Tryz.func9, Tryz.ntmps9
          go_wp2_with fail
          refine HR.out.mono ?_
          rintro e w1 ⟨rfl, hb⟩
          have ck1 := (hb.cell (World.block_lt_of_cell? _ _ HCK.out)).trans HCK.out
          go_wp2_with fail
          go_ret
          exact ⟨rfl, hb⟩
    · have e : loopB G (k :: k2 :: t) = true := hr'
      rw [e]
      obtain ⟨n, hn⟩ : ∃ n, n = (k :: k2 :: t).length := ⟨_, rfl⟩
      have hn1 : 1 < n := by rw [hn]; simp
      rw [← hn] at hpl ⊢
      clear hr hr' h hpc e hn
      go_enter Tryz.func9, Tryz.ntmps9
      go_wp2_with fail
      refine HR.out.mono ?_
      rintro e w1 ⟨rfl, hb⟩
      go_wp2_with fail
      go_ret
      exact ⟨rfl, hb⟩

end Go.Proofs.YtpcjfgihglfdgaaGreatDoor.Isl

namespace Go.Proofs.YtpcjfgihglfdgaaGreatDoor.Isl
open Go.RowKit Go.Lib

def SameEnd (w : World) (b : Bool) (e : Ending) (w' : World) : Prop := e = .returned (.bool b) ∧ Below w.heap.size w w'
def SameRel (w : World) (G H : List (List Int)) (iv : Value) (wr : World) : Prop := ∃ i : Nat, iv = .int .i64 (i : Int) ∧ i ≤ G.length ∧ G.take i = H.take i ∧ Below w.heap.size w wr
def SameIn (w : World) (l l2 : List Int) (jv : Value) (wr : World) : Prop := ∃ j : Nat, jv = .int .i64 (j : Int) ∧ j ≤ l.length ∧ l.take j = l2.take j ∧ Below w.heap.size w wr

theorem take_more {α : Type} {a b : List α} {i : Nat} {x : α} (h : a.take i = b.take i) (ha : a[i]? = some x) (hb : b[i]? = some x) : a.take (i + 1) = b.take (i + 1) := by
  rw [List.take_add_one, List.take_add_one, h, ha, hb]

theorem rows_cell {w : World} {ao : Option Addr} {c n : Nat} {G : List (List Int)} (h : RowsIn w (.slice ao n c) G) {i : Nat} {l : List Int} (hl : G[i]? = some l) :
    ∃ b off lo lc, ao = some ⟨b, off, none⟩ ∧ w.cell? ⟨b, off + i, none⟩ = some (.slice lo l.length lc) ∧ IntsIn w (.slice lo l.length lc) l := by
  obtain ⟨ao', c', b, off, h1, _, h3⟩ := h
  injection h1 with h1 _ _
  subst h1
  obtain ⟨rfl, lv, h4, h5⟩ := h3 i l hl
  have h6 := h5
  obtain ⟨lo, lc, b2, o2, rfl, _⟩ := h6
  exact ⟨b, off, lo, lc, rfl, h4, h5⟩
theorem ints_cell {w : World} {ao : Option Addr} {c n : Nat} {l : List Int} (h : IntsIn w (.slice ao n c) l) {i : Nat} {x : Int} (hx : l[i]? = some x) :
    ∃ b off, ao = some ⟨b, off, none⟩ ∧ w.cell? ⟨b, off + i, none⟩ = some (.int .i64 x) ∧ -9223372036854775808 ≤ x ∧ x ≤ 9223372036854775807 := by
  obtain ⟨ao', c', b, off, h1, _, h3⟩ := h
  injection h1 with h1 _ _
  subst h1
  obtain ⟨rfl, h4, h5, h6⟩ := h3 i x hx
  exact ⟨b, off, rfl, h4, h5, h6⟩
theorem rows_view {w : World} {v : Value} {G : List (List Int)} (h : RowsIn w v G) : ∃ ao c, v = .slice ao G.length c ∧ G.length ≤ 9223372036854775807 := by
  obtain ⟨ao, c, _, _, h1, h2, _⟩ := h
  exact ⟨ao, c, h1, h2⟩
theorem ints_len {w : World} {ao : Option Addr} {c n : Nat} {l : List Int} (h : IntsIn w (.slice ao n c) l) : n ≤ 9223372036854775807 ∧ l.length = n := by
  obtain ⟨ao', c', _, _, h1, h2, _⟩ := h
  injection h1 with _ h1 _
  omega

theorem bdrew {B : Nat} {w w' : World} (h : Below B w w') (n : Nat) : Below B w (w'.drewN n) := ⟨h.os, h.tape, h.output, h.size, h.block⟩

set_option maxHeartbeats 2000000 in
theorem same_any (w : World) (av bv : Value) (G H : List (List Int)) (hG : RowsIn w av G) (hH : RowsIn w bv H) : Calls Tryz.prog 10 #[av, bv] w (SameEnd w (decide (G = H))) := by
  obtain ⟨ga, gc, rfl, hgl⟩ := rows_view hG
  obtain ⟨ha, hc, rfl, hhl⟩ := rows_view hH
  by_cases hlen : G.length = H.length
  · have HL := hid hlen
    have HG := hid hG
    have HH := hid hH
    rw [← hlen] at HH hhl ⊢
    obtain ⟨n, hn⟩ : ∃ n, n = G.length := ⟨_, rfl⟩
    have HN := hid hn
    rw [← hn] at HG HH hgl ⊢
    clear hG hH hlen hhl hn
    go_enter Tryz.func10, Tryz.ntmps10
    go_wp2_with fail
    go_loopw [5] (fun iv wr => SameRel w G H iv wr) (fun iv _ => n - (intOf iv).toNat)
    case atStart => exact ⟨0, rfl, Nat.zero_le _, by simp, Below.refl _ _⟩
    case round =>
      obtain ⟨i, rfl, hi, htk, hb⟩ := hrel
      rw [← HN.out] at hi
      have HB := hid hb
      have HTK := hid htk
      by_cases hgo : i < n
      · obtain ⟨l, hl⟩ : ∃ l, G[i]? = some l := ⟨_, List.getElem?_eq_getElem (HN.out ▸ hgo)⟩
        obtain ⟨l2, hl2⟩ : ∃ l2, H[i]? = some l2 := ⟨_, List.getElem?_eq_getElem (by have := HL.out; have := HN.out; omega)⟩
        obtain ⟨b1, o1, lo1, lc1, rfl, c1, r1⟩ := rows_cell (HG.out.below hb) hl
        obtain ⟨b2, o2, lo2, lc2, rfl, c2, r2⟩ := rows_cell (HH.out.below hb) hl2
        have HG1 := hid hl
        have HH2 := hid hl2
        obtain ⟨p, hp⟩ : ∃ p, p = l.length := ⟨_, rfl⟩
        obtain ⟨q, hq⟩ : ∃ q, q = l2.length := ⟨_, rfl⟩
        rw [← hp] at c1 r1
        rw [← hq] at c2 r2
        have hp2 := (ints_len r1).1
        have hq2 := (ints_len r2).1
        have d1 : ∀ m, (wr.drewN m).cell? ⟨b1, o1 + i, none⟩ = some (.slice lo1 p lc1) := fun m => c1
        have d2 : ∀ m, (wr.drewN m).cell? ⟨b2, o2 + i, none⟩ = some (.slice lo2 q lc2) := fun m => c2
        have HR1 := hid r1
        have HR2 := hid r2
        have HP := hid hp
        have HQ := hid hq
        clear hb htk hl hl2 r1 r2 hp hq
        by_cases hpq : p = q
        · subst hpq
          go_wp2_with fail
          go_quiet (fail)
          go_wp2_with fail
          clear c1 c2 d1 d2
          go_loopw [6] (fun jv y => SameIn w l l2 jv y) (fun jv _ => p - (intOf jv).toNat)
          case atStart => exact ⟨0, rfl, Nat.zero_le _, by simp, bdrew HB.out _⟩
          case round =>
            clear HR1 HR2
            obtain ⟨j, rfl, hj, htk, hb⟩ := hrel
            rw [← HP.out] at hj
            have HB3 := hid hb
            have HTK3 := hid htk
            obtain ⟨b1', o1', lo1', lc1', e1, c1, r1⟩ := rows_cell (HG.out.below hb) HG1.out
            obtain ⟨b2', o2', lo2', lc2', e2, c2, r2⟩ := rows_cell (HH.out.below hb) HH2.out
            injection e1 with e1
            injection e1 with e1 e1'
            subst e1 e1'
            injection e2 with e2
            injection e2 with e2 e2'
            subst e2 e2'
            rw [← HP.out] at c1 r1
            rw [← HQ.out] at c2 r2
            by_cases hjp : j < p
            · obtain ⟨x, hx⟩ : ∃ x, l[j]? = some x := ⟨_, List.getElem?_eq_getElem (HP.out ▸ hjp)⟩
              obtain ⟨y, hy⟩ : ∃ y, l2[j]? = some y := ⟨_, List.getElem?_eq_getElem (HQ.out ▸ hjp)⟩
              obtain ⟨b3, o3, rfl, c3, x1, x2⟩ := ints_cell r1 hx
              obtain ⟨b4, o4, rfl, c4, y1, y2⟩ := ints_cell r2 hy
              have k1 : ∀ m, (wr.drewN m).cell? ⟨b1, o1 + i, none⟩ = some (.slice (some ⟨b3, o3, none⟩) p lc1') := fun m => c1
              have k2 : ∀ m, (wr.drewN m).cell? ⟨b2, o2 + i, none⟩ = some (.slice (some ⟨b4, o4, none⟩) p lc2') := fun m => c2
              have k3 : ∀ m, (wr.drewN m).cell? ⟨b3, o3 + j, none⟩ = some (.int .i64 x) := fun m => c3
              have k4 : ∀ m, (wr.drewN m).cell? ⟨b4, o4 + j, none⟩ = some (.int .i64 y) := fun m => c4
              have HX := hid hx
              have HY := hid hy
              clear r1 r2 htk hb hx hy
              by_cases hxy : x = y
              · subst hxy
                have RR := hid (fun m => show SameIn w l l2 (.int .i64 ((j : Int) + 1)) (wr.drewN m) from ⟨j + 1, by simp, by rw [← HP.out]; omega, take_more HTK3.out HX.out HY.out, bdrew HB3.out _⟩)
                go_wp2_with fail
                go_quiet (fail)
                go_wp2_with fail
                go_roundw
                case rel => exact RR.out _
                case measure => simp [intOf]; omega
              · have HE := hid (show decide (G = H) = false from by
                  simp only [decide_eq_false_iff_not]
                  intro e
                  subst e
                  have h1 := HG1.out
                  rw [HH2.out] at h1
                  have := Option.some.inj h1
                  subst this
                  have h2 := HX.out
                  rw [HY.out] at h2
                  exact hxy (Option.some.inj h2).symm)
                go_wp2_with fail
                go_quiet (fail)
                go_wp2_with fail
                go_ret
                exact ⟨ret_bool HE.out.symm, bdrew HB3.out _⟩
            · have RR := hid (show SameRel w G H (.int .i64 ((i : Int) + 1)) wr from ⟨i + 1, by simp, by rw [← HN.out]; omega, by
                have e : l = l2 := by
                  have h1 := htk
                  have e1 := HP.out
                  have e2 := HQ.out
                  rw [List.take_of_length_le (by omega), List.take_of_length_le (by omega)] at h1
                  exact h1
                exact take_more HTK.out HG1.out (e ▸ HH2.out), hb⟩)
              clear r1 r2 htk hb
              go_wp2_with fail
              go_roundw
              case rel => exact RR.out
              case measure => simp [intOf]; omega
        · have HE := hid (show decide (G = H) = false from by
            simp only [decide_eq_false_iff_not]
            intro e
            subst e
            have h1 := HG1.out
            rw [HH2.out] at h1
            have := Option.some.inj h1
            subst this
            exact hpq (HP.out.trans HQ.out.symm))
          have hpq2 : ¬ (p : Int) = (q : Int) := by omega
          go_wp2_with fail
          go_quiet (fail)
          go_wp2_with fail
          go_ret
          exact ⟨ret_bool HE.out.symm, bdrew HB.out _⟩
      · obtain rfl : i = n := by omega
        have HE := hid (show decide (G = H) = true from by
          simp only [decide_eq_true_eq]
          have h1 := HTK.out
          have e1 := HN.out
          have e2 := HL.out
          rw [List.take_of_length_le (by omega), List.take_of_length_le (by omega)] at h1
          exact h1)
        clear hb htk
        go_wp2_with fail
        go_ret
        exact ⟨ret_bool HE.out.symm, HB.out⟩
  · have HE := hid (show decide (G = H) = false from by
      simp only [decide_eq_false_iff_not]
      intro e
      exact hlen (by rw [e]))
    obtain ⟨n, hn⟩ : ∃ n, n = G.length := ⟨_, rfl⟩
    obtain ⟨m, hm⟩ : ∃ m, m = H.length := ⟨_, rfl⟩
    rw [← hn] at hlen hgl ⊢
    rw [← hm] at hlen hhl ⊢
    have hlen2 : ¬ (n : Int) = (m : Int) := by omega
    clear hG hH hn hm
    go_enter Tryz.func10, Tryz.ntmps10
    go_wp2_with fail
    go_ret
    exact ⟨ret_bool HE.out.symm, Below.refl _ _⟩

end Go.Proofs.YtpcjfgihglfdgaaGreatDoor.Isl
