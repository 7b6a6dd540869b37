/- islands.Parts: the making of its three tables. Contract of the walker's walk: behind it all that was met is closed, and the node it began at is met. -/
import Derived.Test.YtpcjfgihglfdgaaGreatDoorKCjTabs
import Derived.Test.YtpcjfgihglfdgaaGreatDoorKCjFam
import Derived.Deep.RegionLaw
import Derived.WalkMore

namespace Go.Proofs.YtpcjfgihglfdgaaGreatDoor.Isl
open Go.RowKit Go.Lib

def fstSeq : Code → Code
  | .seq a _ => a
  | c => c

set_option maxRecDepth 20000 in
set_option maxHeartbeats 4000000 in
theorem parts_mk {w x : World} {B wb n bw bl bo m : Nat} {ev ov : Value} {s : St} {c : Code} {Q : Exit → Act → World → Prop} (v1 v2 v3 v4 v6 v7 v8 v9 v10 v11 v12 v13 v14 v15 v16 v17 v18 v19 v20 v21 v22 v23 v24 v25 v26 v27 v28 v29 v30 v31 v32 v33 v34 v35 v36 v37 v38 v39 v40 v41 v42 v43 v44 v45 v46 v47 v48 v49 v50 v51 v52 v53 v54 v55 v56 v57 v58 v59 v60 v61 v62 v63 v64 v65 v66 v67 v68 v69 v70 v71 v72 v73 v74 v75 v76 v77 v78 v79 v80 v81 v82 v83 v84 v85 v86 v87 v88 v89 v90 v91 v92 v93 v94 v95 v96 v97 v98 v99 v100 v101 v102 v103 v104 v105 v106 v107 v108 v109 v110 v111 v112 v113 v114 v115 v116 v117 v118 v119 v120 v121 v122 v123 v124 v125 v126 v127 v128 v129 v130 v131 v132 v133 v134 v135 v136 v137 v138 v139 v140 v141 v142 v143 v144 v145 v146 v147 v148 v149 v150 v151 v152 v153 v154 v155 v156 v157 v158 v159 v160 v161 v162 v163 v164 v165 v166 v167 v168 v169 v170 v171 v172 v173 v174 v175 v176 v177 v178 v179 v180 v181 v182 v183 v184 : Value) (A : WAt x B wb ev n bw bl bo ov s) (hm : m = s.many) (hm2 : m ≤ 2000) (hb : Below B w x)
    (hend : ∀ (pbx pr nbx nr rr : Nat) (y : World) (v1 v2 v3 v4 v6 v10 v11 v12 v13 v14 v15 v16 v17 v18 v19 v20 v21 v22 v23 v24 v25 v26 v27 v28 v29 v30 v31 v32 v33 v34 v35 v36 v37 v38 v39 v40 v41 v42 v43 v44 v45 v46 v47 v48 v49 v50 v51 v52 v53 v54 v55 v56 v57 v58 v59 v60 v61 v62 v63 v64 v65 v66 v67 v68 v69 v70 v71 v72 v73 v74 v75 v76 v77 v78 v79 v80 v81 v82 v83 v84 v85 v86 v87 v88 v89 v90 v91 v92 v93 v94 v95 v96 v97 v98 v99 v100 v101 v102 v103 v104 v105 v106 v107 v108 v109 v110 v111 v112 v113 v114 v115 v116 v117 v118 v119 v120 v121 v122 v123 v124 v125 v126 v127 v128 v129 v130 v131 v132 v133 v134 v135 v136 v137 v138 v139 v140 v141 v142 v143 v144 v145 v146 v147 v148 v149 v150 v151 v152 v153 v154 v155 v156 v157 v158 v159 v160 v161 v162 v163 v164 v165 v166 v167 v168 v169 v170 v171 v172 v173 v174 v175 v176 v177 v178 v179 v180 v181 v182 v183 v184 : Value), Tab y B wb ev n bw bl bo ov s m pbx pr nbx nr rr (fun _ => .slice none 0 0) (fun _ => []) (fun _ => 0) → Below B w y → Code.wp Tryz.prog c Q { tmps := #[ev, v1, v2, v3, v4, .pointer (some ⟨wb, 0, none⟩), v6, .pointer (some ⟨pbx, 0, none⟩), .pointer (some ⟨nbx, 0, none⟩), .slice (some ⟨rr, 0, none⟩) m m, v10, v11, v12, v13, v14, v15, v16, v17, v18, v19, v20, v21, v22, v23, v24, v25, v26, v27, v28, v29, v30, v31, v32, v33, v34, v35, v36, v37, v38, v39, v40, v41, v42, v43, v44, v45, v46, v47, v48, v49, v50, v51, v52, v53, v54, v55, v56, v57, v58, v59, v60, v61, v62, v63, v64, v65, v66, v67, v68, v69, v70, v71, v72, v73, v74, v75, v76, v77, v78, v79, v80, v81, v82, v83, v84, v85, v86, v87, v88, v89, v90, v91, v92, v93, v94, v95, v96, v97, v98, v99, v100, v101, v102, v103, v104, v105, v106, v107, v108, v109, v110, v111, v112, v113, v114, v115, v116, v117, v118, v119, v120, v121, v122, v123, v124, v125, v126, v127, v128, v129, v130, v131, v132, v133, v134, v135, v136, v137, v138, v139, v140, v141, v142, v143, v144, v145, v146, v147, v148, v149, v150, v151, v152, v153, v154, v155, v156, v157, v158, v159, v160, v161, v162, v163, v164, v165, v166, v167, v168, v169, v170, v171, v172, v173, v174, v175, v176, v177, v178, v179, v180, v181, v182, v183, v184], defers := [] } y) :
    Code.wp Tryz.prog (.seq (fstSeq (sndSeq rest13)) (.seq (fstSeq (sndSeq (sndSeq rest13))) (.seq (fstSeq (sndSeq (sndSeq (sndSeq rest13)))) c))) Q { tmps := #[ev, v1, v2, v3, v4, .pointer (some ⟨wb, 0, none⟩), v6, v7, v8, v9, v10, v11, v12, v13, v14, v15, v16, v17, v18, v19, v20, v21, v22, v23, v24, v25, v26, v27, v28, v29, v30, v31, v32, v33, v34, v35, v36, v37, v38, v39, v40, v41, v42, v43, v44, v45, v46, v47, v48, v49, v50, v51, v52, v53, v54, v55, v56, v57, v58, v59, v60, v61, v62, v63, v64, v65, v66, v67, v68, v69, v70, v71, v72, v73, v74, v75, v76, v77, v78, v79, v80, v81, v82, v83, v84, v85, v86, v87, v88, v89, v90, v91, v92, v93, v94, v95, v96, v97, v98, v99, v100, v101, v102, v103, v104, v105, v106, v107, v108, v109, v110, v111, v112, v113, v114, v115, v116, v117, v118, v119, v120, v121, v122, v123, v124, v125, v126, v127, v128, v129, v130, v131, v132, v133, v134, v135, v136, v137, v138, v139, v140, v141, v142, v143, v144, v145, v146, v147, v148, v149, v150, v151, v152, v153, v154, v155, v156, v157, v158, v159, v160, v161, v162, v163, v164, v165, v166, v167, v168, v169, v170, v171, v172, v173, v174, v175, v176, v177, v178, v179, v180, v181, v182, v183, v184], defers := [] } x := by
  have HE := hid hend
  have HA := hid A
  have HB := hid hb
  have c6 : x.cell? ⟨wb, 6, none⟩ = some (.int .i64 (m : Int)) := by rw [hm]; exact cell_of (i := 6) A.hd rfl
  have hmk1 := make_rows m (by omega)
  have hmk2 := make_ints m (by omega)
  have TS := tab_start A m
  simp only [List.toArray_replicate] at TS hmk1 hmk2
  have HTS := hid TS
  have c6b := ((((Chg.refl [] x).alloc (.cells (Array.replicate m (Value.slice none 0 0)) 42)).alloc (.cells #[.slice (some ⟨x.heap.size, 0, none⟩) m m] 30))).cell c6 (by simp)
  have c6c := ((((((Chg.refl [] x).alloc (.cells (Array.replicate m (Value.slice none 0 0)) 42)).alloc (.cells #[.slice (some ⟨x.heap.size, 0, none⟩) m m] 30))).alloc (.cells (Array.replicate m (Value.int .i64 0)) 3)).alloc (.cells #[.slice (some ⟨x.heap.size + 1 + 1, 0, none⟩) m m] 42)).cell c6 (by simp)
  clear A TS hm hb hend
  simp only [fstSeq, rest13, sndSeq, Tryz.f7, Option.getD_some]
  go_wp2_with fail
  refine HE.out (x.heap.size + 1) x.heap.size (x.heap.size + 1 + 1 + 1) (x.heap.size + 1 + 1) (x.heap.size + 1 + 1 + 1 + 1) _ _ _ _ _ _ _ _ _ _ _ _ _ _ _ _ _ _ _ _ _ _ _ _ _ _ _ _ _ _ _ _ _ _ _ _ _ _ _ _ _ _ _ _ _ _ _ _ _ _ _ _ _ _ _ _ _ _ _ _ _ _ _ _ _ _ _ _ _ _ _ _ _ _ _ _ _ _ _ _ _ _ _ _ _ _ _ _ _ _ _ _ _ _ _ _ _ _ _ _ _ _ _ _ _ _ _ _ _ _ _ _ _ _ _ _ _ _ _ _ _ _ _ _ _ _ _ _ _ _ _ _ _ _ _ _ _ _ _ _ _ _ _ _ _ _ _ _ _ _ _ _ _ _ _ _ _ _ _ _ _ _ _ _ _ _ _ _ _ _ _ _ _ _ _ _ _ _ _ _ _ HTS.out ?_
  have hb1 : B ≤ x.heap.size := by have := HA.out.b0; have := heap_lt HA.out.hd; omega
  exact HB.out.trans (Chg.below (F := []) ((((((Chg.refl [] x).alloc _).alloc _).alloc _).alloc _).alloc _) (by simp) hb1)

end Go.Proofs.YtpcjfgihglfdgaaGreatDoor.Isl

namespace Go.Proofs.YtpcjfgihglfdgaaGreatDoor.Isl
open Go.RowKit Go.Lib

def cellN (w : World) (a : Addr) : Nat := match w.cell? a with | some (.int _ x) => x.toNat | _ => 0
theorem cellN_of {w : World} {a : Addr} {x : Nat} {k : IntKind} (h : w.cell? a = some (.int k (x : Int))) : cellN w a = x := by simp [cellN, h]
def sliceLen : Value → Nat
  | .slice _ n _ => n
  | _ => 0

theorem meas_lt {a b t L : Nat} (h1 : a = t + 1) (h2 : b = t) (h : t < L) : L - a < L - b := by omega
theorem meas_out {a b T n l m : Nat} (h1 : a = T) (h2 : b = T) (h : l < m) : 2 * (n - a) + l < 2 * (n - b) + m := by omega

structure WalkSt (w0 : World) (B wb : Nat) (ev : Value) (n bw bl bo : Nat) (g : Gr) (ov0 : Value) (s0 : St) (k : Nat) (ov wv : Value) (s : St) (way : Way) (w : World) : Prop where
  mem : WM w0 B wb ev n bw bl bo g ov0 ov wv s way w
  inv : Inv g s way
  cnt : Cnt g s way
  met : ∀ i, 0 < s0.wn i → 0 < s.wn i
  one : 0 < s.wn k

def OutRel (w0 : World) (B wb : Nat) (ev : Value) (n bw bl bo : Nat) (g : Gr) (ov0 : Value) (s0 : St) (k : Nat) (wv : Value) (w : World) : Prop :=
  ∃ ov s way, WalkSt w0 B wb ev n bw bl bo g ov0 s0 k ov wv s way w
def InRel (w0 : World) (B wb : Nat) (ev : Value) (n bw bl bo : Nat) (g : Gr) (ov0 : Value) (s0 : St) (k : Nat) (wv : Value) (ws : Way) (d T : Nat) (w : World) : Prop :=
  ∃ ov s t, WalkSt w0 B wb ev n bw bl bo g ov0 s0 k ov wv s (ws ++ [(d, t)]) w ∧ s.time = T

def WalkEnd (w0 : World) (B wb : Nat) (ev : Value) (n bw bl bo : Nat) (g : Gr) (ov0 : Value) (s0 : St) (k : Nat) (e : Ending) (w : World) : Prop :=
  e = .returned (.tuple #[]) ∧ ∃ ov s, WAt w B wb ev n bw bl bo ov s ∧ WChg wb bw bl bo ov0 ov w0 w ∧ Inv g s [] ∧ Cnt g s [] ∧ (∀ i, 0 < s0.wn i → 0 < s.wn i) ∧ 0 < s.wn k

set_option maxRecDepth 20000 in
set_option maxHeartbeats 4000000 in
theorem walk_any {w : World} {B wb n bw bl bo k : Nat} {ev ov0 : Value} {g : Gr} {s0 : St} (A : WAt w B wb ev n bw bl bo ov0 s0) (hn : n = g.length) (hn2 : n ≤ 2000) (R : RightG g) (I : Inv g s0 []) (C : Cnt g s0 []) (hk : k < n) (hk0 : s0.wn k = 0)
    (hG : ∀ y, Below B w y → RowsIn y ev (castG g)) :
    Calls Tryz.prog 23 #[.pointer (some ⟨wb, 0, none⟩), .int .i64 (k : Int)] w (WalkEnd w B wb ev n bw bl bo g ov0 s0 k) := by
  obtain ⟨eb, eo, ec, rfl⟩ : ∃ eb eo ec, ev = .slice (some ⟨eb, eo, none⟩) n ec := by
    obtain ⟨ao, c, b, off, h1, _, h3⟩ := hG w (Below.refl _ w)
    obtain ⟨h4, _⟩ := h3 k _ (castG_get (by omega))
    subst h4
    exact ⟨b, off, c, by rw [h1, castG_length, hn]⟩
  have hB : B ≤ w.heap.size := by have := A.b0; have := heap_lt A.hd; omega
  have hti := C.le
  have hop : s0.opn.length ≤ 1000000 := by have := C.many; omega
  have A0 : WAt (w.alloc (.cells #[.int .i64 (k : Int), .int .i64 0] 143)) B wb (.slice (some ⟨eb, eo, none⟩) n ec) n bw bl bo ov0 s0 := by
    have h := (Chg.refl [] w).alloc (.cells #[.int .i64 (k : Int), .int .i64 0] 143)
    exact ⟨h.heap A.hd (by simp), A.rw.chg h (by simp), A.rl.chg h (by simp), A.ro.chg h (by simp), h.owns A.op (by simp), A.wl, A.wo, A.lo, A.ow, A.b0, A.b1, A.b2, A.b3⟩
  have hrow0 : (w.alloc (.cells #[.int .i64 (k : Int), .int .i64 0] 143)).ownsRow w.heap.size 143 2 (.slice (some ⟨w.heap.size, 0, none⟩) 1 1) 1 (wayCells [(k, 0)]) :=
    World.ownsRow_lit (base := w.heap.size) (e := 143) (size := 2) w #[.int .i64 (k : Int), .int .i64 0] 1 (Nat.le_refl _) (by simp [maxLen]) rfl
  have M0 : WM w B wb (.slice (some ⟨eb, eo, none⟩) n ec) n bw bl bo g ov0 ov0 (.slice (some ⟨w.heap.size, 0, none⟩) 1 1) s0 [(k, 0)] (w.alloc (.cells #[.int .i64 (k : Int), .int .i64 0] 143)) :=
    ⟨A0, hrow0, ⟨(Chg.refl _ w).alloc _, fun x hx => .inl hx⟩, fun y hy => hG y (((Below.refl _ w).alloc hB _).trans hy)⟩
  have HM := hid (meet_any A0 hk (by omega) hop (by omega))
  have HM0 := hid M0
  have HI := hid (show Inv g (meet s0 k) [(k, 0)] from I.first hk0 (by omega))
  have HC := hid (show Cnt g (meet s0 k) [(k, 0)] from C.meeting hk0 (by omega) (by simp))
  have HMET := hid (show ∀ (s : St) (x : Nat), s.wn x = 0 → (∀ i, 0 < s.wn i → 0 < (meet s x).wn i) ∧ 0 < (meet s x).wn x from fun s x hx => by
    refine ⟨fun i hi => ?_, by simp [meet, upd]⟩
    by_cases e : i = x
    · subst e; omega
    · simpa [meet, upd, e] using hi)
  have HR := hid R
  have HN := hid hn
  clear A A0 hrow0 M0 I C hG R hn hti hop
  go_enter Tryz.func23, Tryz.ntmps23
  go_wp2_with fail
  go_step3
  go_wp2_with fail
  refine HM.out.mono ?_
  rintro e w1 ⟨rfl, ov1, A1, ch1⟩
  have S1 := hid (show WalkSt w B wb (.slice (some ⟨eb, eo, none⟩) n ec) n bw bl bo g ov0 s0 k ov1 (.slice (some ⟨w.heap.size, 0, none⟩) 1 1) (meet s0 k) [(k, 0)] w1 from
    ⟨HM0.out.walker A1 ch1, HI.out, HC.out, (HMET.out s0 k hk0).1, (HMET.out s0 k hk0).2⟩)
  clear A1 ch1
  go_wp2_with fail
  go_step3
  go_wp2_with fail
  go_loopw [4] (fun wv wr => OutRel w B wb (.slice (some ⟨eb, eo, none⟩) n ec) n bw bl bo g ov0 s0 k wv wr) (fun wv wr => 2 * (n - cellN wr ⟨wb, 5, none⟩) + sliceLen wv)
  case atStart => exact ⟨ov1, _, _, S1.out⟩
  case round =>
    obtain ⟨ov, s, way, S⟩ := hrel
    rcases List.eq_nil_or_concat way with rfl | ⟨ws, ⟨d, t⟩, rfl⟩
    · have hr := S.mem.row
      obtain ⟨a, c, rfl, _⟩ := ownsRow_view hr
      have HS := hid S
      clear S hr
      go_wp2_with fail
      rw [Exit.noGoto_normal]
      go_end0
      exact ⟨rfl, _, _, HS.out.mem.wat, HS.out.mem.chg, HS.out.inv, HS.out.cnt, HS.out.met, HS.out.one⟩
    · rw [List.concat_eq_append] at S
      obtain ⟨gb, c, rfl, hc1, hc2, q0, q1, qf⟩ := S.mem.top
      obtain ⟨p, hp⟩ : ∃ p, p = ws.length := ⟨_, rfl⟩
      have HS := hid S
      have HP := hid hp
      rw [← hp] at hc1 q0 q1 qf HS
      rw [← hp]
      have hA : ((p + 1 : Nat) : Int) - 1 = (p : Int) := by omega
      clear S hp
      go_wp2_with fail
      obtain ⟨T, hT⟩ : ∃ T, T = s.time := ⟨_, rfl⟩
      have HT := hid hT
      have zT : cellN wr ⟨wb, 5, none⟩ = T := by rw [hT]; exact cellN_of (cell_of (i := 5) HS.out.mem.wat.hd rfl)
      have HZT := hid zT
      clear hT q0 q1 qf zT
      go_loopw [4] (fun wv wr => wv = .slice (some ⟨gb, 0, none⟩) (p + 1) c ∧ InRel w B wb (.slice (some ⟨eb, eo, none⟩) n ec) n bw bl bo g ov0 s0 k (.slice (some ⟨gb, 0, none⟩) (p + 1) c) ws d T wr) (fun _ wr => (edges g d).length - cellN wr ⟨gb, p * 2 + 1, none⟩)
      case atStart => exact ⟨rfl, ov, s, t, HS.out, HT.out.symm⟩
      case round =>
        clear HT HS
        obtain ⟨rfl, ov, s, t, S, hT⟩ := hrel
        rw [HP.out] at S
        obtain ⟨q0, q1, qf⟩ := S.mem.topc
        have hdn : d < n := by rw [HN.out]; exact S.inv.lt d ((S.inv.opn d).1 (S.inv.wopn d (by simp [nodes]))).1
        have htl : t ≤ (edges g d).length := S.inv.wlen (d, t) (by simp)
        obtain ⟨lo, lc, e0, hel, hed⟩ := S.mem.edges HN.out hdn
        have w0c := cell_of (i := 0) S.mem.wat.hd rfl
        rw [← HP.out] at q0 q1 qf S
        have HS := hid S
        have HT := hid hT
        clear S hT
        by_cases hgo : t < (edges g d).length
        · obtain ⟨to, hto⟩ : ∃ to, (edges g d)[t]? = some to := ⟨(edges g d)[t], by simp [hgo]⟩
          obtain ⟨b2, o2, rfl, e1⟩ := hed t to hto
          have hton : to < n := by rw [HN.out]; exact HR.out d to (List.mem_of_getElem? hto)
          have HTO := hid hto
          have HED := hid hed
          have M6 := hid (show ∀ m, WM w B wb (.slice (some ⟨eb, eo, none⟩) n ec) n bw bl bo g ov0 ov (.slice (some ⟨gb, 0, none⟩) (p + 1) c) s (ws ++ [(d, t + 1)]) ((wr.drewN m).setCell ⟨gb, p * 2 + 1, none⟩ (.int .i64 ((t : Int) + 1))) from fun m => by
            have h := HS.out.mem.drewN hB m
            rw [HP.out] at h ⊢
            exact h.nextset hB)
          have x1 := fun m => cell_of (i := 1) (M6.out m).wat.hd rfl
          have M6 := hid (show ∀ m, WM w B wb (.slice (some ⟨eb, eo, none⟩) n ec) n bw bl bo g ov0 ov (.slice (some ⟨gb, 0, none⟩) (p + 1) c) s (ws ++ [(d, t + 1)]) ((wr.drewN m).setCell ⟨gb, p * 2 + 1, none⟩ (.int .i64 ((t : Int) + 1))) from fun m => by
            have h := HS.out.mem.drewN hB m
            rw [HP.out] at h ⊢
            exact h.nextset hB)
          have x1 := fun m => cell_of (i := 1) (M6.out m).wat.hd rfl
          have z0 := hid (show cellN wr ⟨gb, p * 2 + 1, none⟩ = t from cellN_of q1)
          have z1 := hid (show ∀ m, cellN ((wr.drewN m).setCell ⟨gb, p * 2 + 1, none⟩ (.int .i64 ((t : Int) + 1))) ⟨gb, p * 2 + 1, none⟩ = t + 1 from fun m => by
            have h := M6.out m
            rw [HP.out] at h ⊢
            exact cellN_of (x := t + 1) h.topc.2.1)
          clear hto hed
          go_wp2_with fail
          go_quiet (fail)
          go_wp2_with fail
          go_quiet (fail)
          by_cases hun : s.wn to = 0
          · have x3 := fun m => (show ((wr.drewN m).setCell ⟨gb, p * 2 + 1, none⟩ (.int .i64 ((t : Int) + 1))).cell? ⟨bw, to, none⟩ = some (.int .i64 0) by rw [(M6.out m).wat.rw.get hton]; simp [natI, hun])
            have HME := hid (fun m => meet_any (M6.out m).wat hton (by have := HS.out.cnt.le; have := HN.out; omega) (by have := HS.out.cnt.le; have := HN.out; have := HS.out.cnt.many; omega) (by omega))
            have HUN := hid hun
            have hTn : T < n := by have := HS.out.cnt.unmet hun (HN.out ▸ hton); have := HN.out; have := HT.out; omega
            clear hun
            go_wp2_with fail
            refine (HME.out _).mono ?_
            rintro e w2 ⟨rfl, ov2, A2, ch2⟩
            have M8 := (M6.out _).walker A2 ch2
            obtain ⟨a3, c3, w3, hr3, M9⟩ := M8.push hB (by have h1 := HS.out.cnt.way; have h2 := HS.out.cnt.le; have h3 := HN.out; simp only [List.length_append, List.length_cons, List.length_nil] at h1 ⊢; omega) to
            have hl3 : (ws ++ [(d, t + 1)]).length = p + 1 := by rw [List.length_append, ← HP.out]; rfl
            rw [hl3] at hr3 M9
            have RR := hid (show OutRel w B wb (.slice (some ⟨eb, eo, none⟩) n ec) n bw bl bo g ov0 s0 k (.slice a3 (p + 1 + 1) c3) w3 from
              ⟨ov2, meet s to, _, M9, HS.out.inv.next HTO.out HUN.out HR.out, HS.out.cnt.meeting HUN.out (HN.out ▸ hton) (by simp), fun i hi => (HMET.out s to HUN.out).1 i (HS.out.met i hi), (HMET.out s to HUN.out).1 k HS.out.one⟩)
            have z9 := hid (show cellN w3 ⟨wb, 5, none⟩ = T + 1 by
              have := cellN_of (cell_of (i := 5) M9.wat.hd rfl)
              rw [this]
              show s.time + 1 = T + 1
              rw [HT.out])
            clear A2 ch2 M8 M9
            go_wp2_with (at_builtin; refine wpList_append_run rfl (.tmp 73) (.tmp 76) 144 rfl _ _ rfl rfl hr3 ?_)
            go_roundw
            case rel => exact RR.out
            case measure => rw [z9.out, HZT.out]; simp only [sliceLen]; omega
          · obtain ⟨x, hx⟩ : ∃ x, x = s.wn to := ⟨_, rfl⟩
            have hx0 : 0 < x := by omega
            have x3 := fun m => (show ((wr.drewN m).setCell ⟨gb, p * 2 + 1, none⟩ (.int .i64 ((t : Int) + 1))).cell? ⟨bw, to, none⟩ = some (.int .i64 (x : Int)) by rw [(M6.out m).wat.rw.get hton, hx]; rfl)
            have x4 := fun m => cell_of (i := 4) (M6.out m).wat.hd rfl
            have HX := hid hx
            clear hun hx
            cases hi : s.isl to with
            | some ci =>
              have x5 := fun m => (show ((wr.drewN m).setCell ⟨gb, p * 2 + 1, none⟩ (.int .i64 ((t : Int) + 1))).cell? ⟨bo, to, none⟩ = some (.int .i64 (ci : Int)) by rw [(M6.out m).wat.ro.get hton]; simp [islI, hi])
              have RR := hid (fun m => (show InRel w B wb (.slice (some ⟨eb, eo, none⟩) n ec) n bw bl bo g ov0 s0 k (.slice (some ⟨gb, 0, none⟩) (p + 1) c) ws d T ((wr.drewN m).setCell ⟨gb, p * 2 + 1, none⟩ (.int .i64 ((t : Int) + 1))) from
                ⟨ov, s, t + 1, ⟨M6.out m, HS.out.inv.pass HTO.out hi, HS.out.cnt.stay (by simp), HS.out.met, HS.out.one⟩, HT.out⟩))
              clear hi
              go_wp2_with fail
              go_roundw
              case rel => exact ⟨rfl, RR.out _⟩
              case measure => exact meas_lt (z1.out _) z0.out hgo
            | none =>
              have x5 := fun m => (show ((wr.drewN m).setCell ⟨gb, p * 2 + 1, none⟩ (.int .i64 ((t : Int) + 1))).cell? ⟨bo, to, none⟩ = some (.int .i64 (-1)) by rw [(M6.out m).wat.ro.get hton]; simp [islI, hi])
              have x2 := fun m => cell_of (i := 2) (M6.out m).wat.hd rfl
              have HI5 := hid hi
              obtain ⟨y, hy⟩ : ∃ y, y = s.low d := ⟨_, rfl⟩
              have x6 := fun m => (show ((wr.drewN m).setCell ⟨gb, p * 2 + 1, none⟩ (.int .i64 ((t : Int) + 1))).cell? ⟨bl, d, none⟩ = some (.int .i64 (y : Int)) by rw [(M6.out m).wat.rl.get hdn, hy]; rfl)
              have x7 := fun m => (M6.out m).wat.rl.free (i := d)
              have x8 := fun m => (show ((wr.drewN m).setCell ⟨gb, p * 2 + 1, none⟩ (.int .i64 ((t : Int) + 1))).cell? ⟨gb, p * 2, none⟩ = some (.int .i64 (d : Int)) by
                have h := (M6.out m)
                rw [HP.out] at h ⊢
                exact h.topc.1)
              have HY := hid hy
              clear hi hy
              by_cases hxy : x < y
              · have hmin : ((x : Int) < (y : Int)) = True := by rw [eq_iff_iff, iff_true]; omega
                have RR := hid (fun m => (show InRel w B wb (.slice (some ⟨eb, eo, none⟩) n ec) n bw bl bo g ov0 s0 k (.slice (some ⟨gb, 0, none⟩) (p + 1) c) ws d T (((wr.drewN m).setCell ⟨gb, p * 2 + 1, none⟩ (.int .i64 ((t : Int) + 1))).setCell ⟨bl, d, none⟩ (.int .i64 (x : Int))).drew from by
                  have h := (M6.out m).lowset (d := d) x
                  rw [show min (s.low d) x = x by rw [← HY.out]; omega] at h
                  have h2 := HS.out.inv.seen HTO.out (HX.out ▸ hx0) HI5.out
                  rw [← HX.out] at h2
                  exact ⟨ov, lower s d x, t + 1, ⟨h.drewN hB 1, h2, HS.out.cnt.same x (by simp), HS.out.met, HS.out.one⟩, HT.out⟩))
                have z3 := hid (fun m => (show cellN (((wr.drewN m).setCell ⟨gb, p * 2 + 1, none⟩ (.int .i64 ((t : Int) + 1))).setCell ⟨bl, d, none⟩ (.int .i64 (x : Int))).drew ⟨gb, p * 2 + 1, none⟩ = t + 1 from by
                  have h := ((M6.out m).lowset (d := d) x).drewN hB 1
                  rw [show min (s.low d) x = x by rw [← HY.out]; omega, HP.out] at h
                  rw [HP.out]
                  exact cellN_of (x := t + 1) h.topc.2.1))
                go_wp2_with fail
                go_region
                go_wp2_with fail
                go_roundw
                case rel => exact ⟨rfl, RR.out _⟩
                case measure => exact meas_lt (z3.out _) z0.out hgo
              · have hmin : ((x : Int) < (y : Int)) = False := by rw [eq_iff_iff, iff_false]; omega
                have RR := hid (fun m => (show InRel w B wb (.slice (some ⟨eb, eo, none⟩) n ec) n bw bl bo g ov0 s0 k (.slice (some ⟨gb, 0, none⟩) (p + 1) c) ws d T (((wr.drewN m).setCell ⟨gb, p * 2 + 1, none⟩ (.int .i64 ((t : Int) + 1))).setCell ⟨bl, d, none⟩ (.int .i64 (y : Int))).drew from by
                  have h := (M6.out m).lowset (d := d) x
                  rw [show min (s.low d) x = y by rw [← HY.out]; omega] at h
                  have h2 := HS.out.inv.seen HTO.out (HX.out ▸ hx0) HI5.out
                  rw [← HX.out] at h2
                  exact ⟨ov, lower s d x, t + 1, ⟨h.drewN hB 1, h2, HS.out.cnt.same x (by simp), HS.out.met, HS.out.one⟩, HT.out⟩))
                have z3 := hid (fun m => (show cellN (((wr.drewN m).setCell ⟨gb, p * 2 + 1, none⟩ (.int .i64 ((t : Int) + 1))).setCell ⟨bl, d, none⟩ (.int .i64 (y : Int))).drew ⟨gb, p * 2 + 1, none⟩ = t + 1 from by
                  have h := ((M6.out m).lowset (d := d) x).drewN hB 1
                  rw [show min (s.low d) x = y by rw [← HY.out]; omega, HP.out] at h
                  rw [HP.out]
                  exact cellN_of (x := t + 1) h.topc.2.1))
                go_wp2_with fail
                go_region
                go_wp2_with fail
                go_roundw
                case rel => exact ⟨rfl, RR.out _⟩
                case measure => exact meas_lt (z3.out _) z0.out hgo
        · obtain rfl : t = (edges g d).length := by omega
          have w2c := cell_of (i := 2) HS.out.mem.wat.hd rfl
          have w1c := cell_of (i := 1) HS.out.mem.wat.hd rfl
          obtain ⟨x, hx⟩ : ∃ x, x = s.low d := ⟨_, rfl⟩
          obtain ⟨z, hz⟩ : ∃ z, z = s.wn d := ⟨_, rfl⟩
          have lc0 : wr.cell? ⟨bl, d, none⟩ = some (.int .i64 (x : Int)) := by rw [HS.out.mem.wat.rl.get hdn, hx]; rfl
          have wc0 : wr.cell? ⟨bw, d, none⟩ = some (.int .i64 (z : Int)) := by rw [HS.out.mem.wat.rw.get hdn, hz]; rfl
          have HX := hid hx
          have HZ := hid hz
          have HD := hid (fun m => (HS.out.mem.drewN hB m))
          have z0 := hid (show cellN wr ⟨wb, 5, none⟩ = T by rw [cellN_of (cell_of (i := 5) HS.out.mem.wat.hd rfl)]; exact HT.out)
          clear hx hz hed
          go_wp2_with fail
          go_quiet (fail)
          go_wp2_with fail
          go_quiet (fail)
          by_cases hxz : x = z
          · subst hxz
            have HCL := hid (fun m => close_any (k := d) (HD.out m).wat (HS.out.inv.wopn d (by simp [nodes])) (fun y hy => HN.out ▸ HS.out.inv.lt y ((HS.out.inv.opn y).1 hy).1) (by have := HS.out.cnt.le; have := HN.out; have := HS.out.cnt.many; omega) (by omega) (by have := HS.out.cnt.le; have := HN.out; have := HS.out.cnt.many; omega))
            have ISH := hid (HS.out.inv.closing rfl (HX.out.symm.trans HZ.out))
            have CSH := hid (HS.out.cnt.shutting (wb := ws) (HS.out.inv.wopn d (by simp [nodes])) (by simp))
            go_wp2_with fail
            refine (HCL.out _).mono ?_
            rintro e w2 ⟨rfl, ov2, A2, ch2⟩
            have M8 := (HD.out _).walker A2 ch2
            have q20 : w2.cell? ⟨gb, p * 2, none⟩ = some (.int .i64 (d : Int)) := by
              rw [HP.out] at M8 ⊢
              exact M8.topc.1
            have M9 := hid (show WM w B wb (.slice (some ⟨eb, eo, none⟩) n ec) n bw bl bo g ov0 ov2 (.slice (some ⟨gb, 0, none⟩) p c) (shut s d) ws w2 by
              rw [HP.out] at M8 ⊢
              exact M8.pop hB)
            clear A2 ch2 M8
            rcases List.eq_nil_or_concat ws with rfl | ⟨ws2, ⟨u, t2⟩, rfl⟩
            · obtain rfl : p = 0 := HP.out
              go_wp2_with fail
              rw [Exit.noGoto_normal]
              go_end0
              exact ⟨rfl, _, _, M9.out.wat, M9.out.chg, ISH.out, CSH.out, HS.out.met, HS.out.one⟩
            · rw [List.concat_eq_append] at M9 ISH CSH HS HP
              have hpp : p = ws2.length + 1 := by rw [HP.out]; simp
              obtain ⟨p2, hp2⟩ : ∃ p2, p2 = ws2.length := ⟨_, rfl⟩
              obtain rfl : p = p2 + 1 := by omega
              have HP2 := hid hp2
              have hA2 : ((p2 + 1 : Nat) : Int) - 1 = (p2 : Int) := by omega
              have qu : w2.cell? ⟨gb, p2 * 2, none⟩ = some (.int .i64 (u : Int)) := by
                have h := M9.out
                rw [hp2] at h ⊢
                exact h.topc.1
              have hun : u < n := by
                have := ISH.out.lt u ((ISH.out.opn u).1 (ISH.out.wopn u (by simp [nodes]))).1
                have := HN.out; omega
              obtain ⟨y, hy⟩ : ∃ y, y = s.low u := ⟨_, rfl⟩
              have v2 := cell_of (i := 2) M9.out.wat.hd rfl
              have lu : w2.cell? ⟨bl, u, none⟩ = some (.int .i64 (y : Int)) := by rw [M9.out.wat.rl.get hun, hy]; rfl
              have ld : w2.cell? ⟨bl, d, none⟩ = some (.int .i64 (x : Int)) := by rw [M9.out.wat.rl.get hdn, HX.out]; rfl
              have fu := M9.out.wat.rl.free (i := u)
              have hyx : y ≤ x := by
                have h := HS.out.inv.shut_back (HX.out.symm.trans HZ.out)
                have := HX.out; omega
              have hmin : ((x : Int) < (y : Int)) = False := by rw [eq_iff_iff, iff_false]; omega
              have RR := hid (show OutRel w B wb (.slice (some ⟨eb, eo, none⟩) n ec) n bw bl bo g ov0 s0 k (.slice (some ⟨gb, 0, none⟩) (p2 + 1) c) (w2.setCell ⟨bl, u, none⟩ (.int .i64 (y : Int))).drew from by
                have h := M9.out.lowset (d := u) x
                have e0 : (shut s d).low u = y := hy.symm
                rw [lower_same (by rw [e0]; exact hyx), show min ((shut s d).low u) x = y by rw [e0]; omega] at h
                exact ⟨ov2, _, _, h.drewN hB 1, ISH.out, CSH.out, HS.out.met, HS.out.one⟩)
              have z9 := hid (show cellN (w2.setCell ⟨bl, u, none⟩ (.int .i64 (y : Int))).drew ⟨wb, 5, none⟩ = T from by
                have h := (M9.out.lowset (d := u) x).drewN hB 1
                have e0 : (shut s d).low u = y := hy.symm
                rw [show min ((shut s d).low u) x = y by rw [e0]; omega] at h
                exact (cellN_of (cell_of (i := 5) h.wat.hd rfl)).trans HT.out)
              clear hp2 hpp hy
              go_wp2_with fail
              go_region
              go_wp2_with fail
              go_roundw
              case rel => exact RR.out
              case measure => exact meas_out z9.out HZT.out (by simp only [sliceLen]; omega)
          · have hlow : s.low d ≠ s.wn d := by rw [← HX.out, ← HZ.out]; exact hxz
            have M9' : WM w B wb (.slice (some ⟨eb, eo, none⟩) n ec) n bw bl bo g ov0 ov (.slice (some ⟨gb, 0, none⟩) p c) s ws wr := by
              have h := HS.out.mem
              rw [HP.out] at h ⊢
              exact h.pop hB
            rcases List.eq_nil_or_concat ws with rfl | ⟨ws2, ⟨u, t2⟩, rfl⟩
            · exact absurd HS.out.inv.alone hlow
            · rw [List.concat_eq_append] at M9' HS HP
              have M9 := hid M9'
              clear M9'
              have IB := hid (HS.out.inv.back rfl hlow)
              have hpp : p = ws2.length + 1 := by rw [HP.out]; simp
              obtain ⟨p2, hp2⟩ : ∃ p2, p2 = ws2.length := ⟨_, rfl⟩
              obtain rfl : p = p2 + 1 := by omega
              have hA2 : ((p2 + 1 : Nat) : Int) - 1 = (p2 : Int) := by omega
              have qu : wr.cell? ⟨gb, p2 * 2, none⟩ = some (.int .i64 (u : Int)) := by
                have h := M9.out
                rw [hp2] at h ⊢
                exact h.topc.1
              have hun : u < n := by
                have := HS.out.inv.lt u ((HS.out.inv.opn u).1 (HS.out.inv.wopn u (by simp [nodes]))).1
                have := HN.out; omega
              obtain ⟨y, hy⟩ : ∃ y, y = s.low u := ⟨_, rfl⟩
              have lu : wr.cell? ⟨bl, u, none⟩ = some (.int .i64 (y : Int)) := by rw [M9.out.wat.rl.get hun, hy]; rfl
              have fu := M9.out.wat.rl.free (i := u)
              have HY := hid hy
              clear hp2 hpp hy hlow
              by_cases hxy : x < y
              · have hmin : ((x : Int) < (y : Int)) = True := by rw [eq_iff_iff, iff_true]; omega
                have hME := hid (show ∀ m, WM w B wb (.slice (some ⟨eb, eo, none⟩) n ec) n bw bl bo g ov0 ov (.slice (some ⟨gb, 0, none⟩) (p2 + 1) c) (lower s u (s.low d)) (ws2 ++ [(u, t2)]) ((wr.drewN m).setCell ⟨bl, u, none⟩ (.int .i64 (x : Int))) from fun m => by
                  have h := (M9.out.drewN hB m).lowset (d := u) (s.low d)
                  rw [show min (s.low u) (s.low d) = x by rw [← HX.out, ← HY.out]; omega] at h
                  exact h)
                have RR := hid (fun m => (show OutRel w B wb (.slice (some ⟨eb, eo, none⟩) n ec) n bw bl bo g ov0 s0 k (.slice (some ⟨gb, 0, none⟩) (p2 + 1) c) ((wr.drewN m).setCell ⟨bl, u, none⟩ (.int .i64 (x : Int))) from
                  ⟨ov, _, _, hME.out m, IB.out, HS.out.cnt.same (s.low d) (by simp), HS.out.met, HS.out.one⟩))
                have z9 := hid (fun m => (show cellN ((wr.drewN m).setCell ⟨bl, u, none⟩ (.int .i64 (x : Int))) ⟨wb, 5, none⟩ = T from
                  (cellN_of (cell_of (i := 5) (hME.out m).wat.hd rfl)).trans HT.out))
                go_wp2_with fail
                go_region
                go_wp2_with fail
                go_roundw
                case rel => exact RR.out _
                case measure => exact meas_out (z9.out _) HZT.out (by simp only [sliceLen]; omega)
              · have hmin : ((x : Int) < (y : Int)) = False := by rw [eq_iff_iff, iff_false]; omega
                have hME := hid (show ∀ m, WM w B wb (.slice (some ⟨eb, eo, none⟩) n ec) n bw bl bo g ov0 ov (.slice (some ⟨gb, 0, none⟩) (p2 + 1) c) (lower s u (s.low d)) (ws2 ++ [(u, t2)]) ((wr.drewN m).setCell ⟨bl, u, none⟩ (.int .i64 (y : Int))) from fun m => by
                  have h := (M9.out.drewN hB m).lowset (d := u) (s.low d)
                  rw [show min (s.low u) (s.low d) = y by rw [← HX.out, ← HY.out]; omega] at h
                  exact h)
                have RR := hid (fun m => (show OutRel w B wb (.slice (some ⟨eb, eo, none⟩) n ec) n bw bl bo g ov0 s0 k (.slice (some ⟨gb, 0, none⟩) (p2 + 1) c) ((wr.drewN m).setCell ⟨bl, u, none⟩ (.int .i64 (y : Int))) from
                  ⟨ov, _, _, hME.out m, IB.out, HS.out.cnt.same (s.low d) (by simp), HS.out.met, HS.out.one⟩))
                have z9 := hid (fun m => (show cellN ((wr.drewN m).setCell ⟨bl, u, none⟩ (.int .i64 (y : Int))) ⟨wb, 5, none⟩ = T from
                  (cellN_of (cell_of (i := 5) (hME.out m).wat.hd rfl)).trans HT.out))
                go_wp2_with fail
                go_region
                go_wp2_with fail
                go_roundw
                case rel => exact RR.out _
                case measure => exact meas_out (z9.out _) HZT.out (by simp only [sliceLen]; omega)

end Go.Proofs.YtpcjfgihglfdgaaGreatDoor.Isl
