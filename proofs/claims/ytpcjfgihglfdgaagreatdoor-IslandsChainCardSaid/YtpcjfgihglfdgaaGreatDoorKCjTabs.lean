/- islands.Parts: the loop that fills the tables. -/
import Derived.Test.YtpcjfgihglfdgaaGreatDoorKCjReady
import Derived.Deep.RegionHeldLaw
import Derived.Outline

namespace Go.Proofs.YtpcjfgihglfdgaaGreatDoor.Isl
open Go.RowKit Go.Lib

theorem step_append_run {P : Program} {ops : Array Oper} {o : Oper} {a : Act} {w : World} {K : Act → World → Prop} {Q : Exit → Act → World → Prop} {E : Prop}
    (hg : o.guard = none) (s x : Operand) (t : TypeId) (hop : o.op = Op.call { callee := Callee.builtin Builtin.append, args := #[s, x], argTypes := #[t, t] })
    (v u : Value) (hs : a.eval s = v) (hx : a.eval x = u) {v' : Value} {w' : World} (hrun : (Builtin.append_ #[t, t] o.type #[v, u]).run P w = .ok v' w') (hK : K (a.put o.dst v') w') :
    if Region.wanted o (yielded ops a.tmps) = true then Oper.wp P o a w K Q else E := by
  have hw : Region.wanted o (yielded ops a.tmps) = true := by simp [Region.wanted, hg]
  rw [if_pos hw]
  unfold Oper.wp
  simp [execOp, hop, resolve, invoke, builtin, hs, hx, hrun, Result.andThen]
  exact hK

/-- ways that end alike, walked on once -/
theorem once {G Q : Prop} (main : G → Q) (tail : G) : Q := main tail

theorem rows_at {y : World} {ao : Option Addr} {ec n d : Nat} {g : Gr} (h : RowsIn y (.slice ao n ec) (castG g)) (hn : n = g.length) (hd : d < n) : ∃ eb eo, ao = some ⟨eb, eo, none⟩ := by
  obtain ⟨ao', c, b, off, h1, _, h3⟩ := h
  injection h1 with h1 _ _
  subst h1
  exact ⟨b, off, (h3 d _ (castG_get (by omega))).1⟩

/-- the loop that fills the tables -/
def TabRel (w : World) (B wb : Nat) (ev : Value) (n bw bl bo : Nat) (g : Gr) (cf : Nat → Nat) (ov : Value) (s : St) (m pbx pr nbx nr rr : Nat) (kv : Value) (wr : World) : Prop :=
  ∃ (k : Nat) (vs : Nat → Value), kv = .int .i64 (k : Int) ∧ k ≤ n ∧ Tab wr B wb ev n bw bl bo ov s m pbx pr nbx nr rr vs (tabXs m (partK cf k) (pairsAt g cf k 0)) (wants (pairsAt g cf k 0) []) ∧ Below B w wr
def TabRelE (w : World) (B wb : Nat) (ev : Value) (n bw bl bo : Nat) (g : Gr) (cf : Nat → Nat) (ov : Value) (s : St) (m pbx pr nbx nr rr k : Nat) (jv : Value) (wr : World) : Prop :=
  ∃ (e : Nat) (vs : Nat → Value), jv = .int .i64 (e : Int) ∧ e ≤ (edges g k).length ∧ Tab wr B wb ev n bw bl bo ov s m pbx pr nbx nr rr vs (tabXs m (partK cf (k + 1)) (pairsAt g cf k e)) (wants (pairsAt g cf k e) []) ∧ Below B w wr

set_option maxRecDepth 20000 in
set_option maxHeartbeats 4000000 in
theorem parts_tab {w x : World} {B wb n bw bl bo ec M : Nat} {ao : Option Addr} {ov : Value} {g : Gr} {cf : Nat → Nat} {s : St} {m pbx pr nbx nr rr : Nat} (v1 v2 v3 v4 v6 v10 v11 v12 v13 v14 v15 v16 v17 v18 v19 v20 v21 v22 v23 v24 v25 v26 v27 v28 v29 v30 v31 v32 v33 v34 v35 v36 v37 v38 v39 v40 v41 v42 v43 v44 v45 v46 v47 v48 v49 v50 v51 v52 v53 v54 v55 v56 v57 v58 v59 v60 v61 v62 v63 v64 v65 v66 v67 v68 v69 v70 v71 v72 v73 v74 v75 v76 v77 v78 v79 v80 v81 v82 v83 v84 v85 v86 v87 v88 v89 v90 v91 v92 v93 v94 v95 v96 v97 v98 v99 v100 v101 v102 v103 v104 v105 v106 v107 v108 v109 v110 v111 v112 v113 v114 v115 v116 v117 v118 v119 v120 v121 v122 v123 v124 v125 v126 v127 v128 v129 v130 v131 v132 v133 v134 v135 v136 v137 v138 v139 v140 v141 v142 v143 v144 v145 v146 v147 v148 v149 v150 v151 v152 v153 v154 v155 v156 v157 v158 v159 v160 v161 v162 v163 v164 v165 v166 v167 v168 v169 v170 v171 v172 v173 v174 v175 v176 v177 v178 v179 v180 v181 v182 v183 v184 : Value)
    (hn : n = g.length) (hn2 : n ≤ 2000) (hm : m ≤ 2000) (hB : w.heap.size = B) (R : RightG g) (hcf : ∀ i, i < n → islI s.isl i = (cf i : Int)) (N : Num g cf m) (hM : ∀ k, (edges g k).length ≤ M) (hM2 : (n + 1) * M ≤ 1000000)
    (hG : RowsIn w (.slice ao n ec) (castG g))
    (T : Tab x B wb (.slice ao n ec) n bw bl bo ov s m pbx pr nbx nr rr (fun _ => .slice none 0 0) (fun _ => []) (fun _ => 0)) (hb : Below B w x) :
    Code.wp Tryz.prog rest13t (bodyPost Tryz.prog Tryz.f7 (PartsPost w g)) { tmps := #[.slice ao n ec, v1, v2, v3, v4, .pointer (some ⟨wb, 0, none⟩), v6, .pointer (some ⟨pbx, 0, none⟩), .pointer (some ⟨nbx, 0, none⟩), .slice (some ⟨rr, 0, none⟩) m m, v10, v11, v12, v13, v14, v15, v16, v17, v18, v19, v20, v21, v22, v23, v24, v25, v26, v27, v28, v29, v30, v31, v32, v33, v34, v35, v36, v37, v38, v39, v40, v41, v42, v43, v44, v45, v46, v47, v48, v49, v50, v51, v52, v53, v54, v55, v56, v57, v58, v59, v60, v61, v62, v63, v64, v65, v66, v67, v68, v69, v70, v71, v72, v73, v74, v75, v76, v77, v78, v79, v80, v81, v82, v83, v84, v85, v86, v87, v88, v89, v90, v91, v92, v93, v94, v95, v96, v97, v98, v99, v100, v101, v102, v103, v104, v105, v106, v107, v108, v109, v110, v111, v112, v113, v114, v115, v116, v117, v118, v119, v120, v121, v122, v123, v124, v125, v126, v127, v128, v129, v130, v131, v132, v133, v134, v135, v136, v137, v138, v139, v140, v141, v142, v143, v144, v145, v146, v147, v148, v149, v150, v151, v152, v153, v154, v155, v156, v157, v158, v159, v160, v161, v162, v163, v164, v165, v166, v167, v168, v169, v170, v171, v172, v173, v174, v175, v176, v177, v178, v179, v180, v181, v182, v183, v184], defers := [] } x := by
  have HN := hid hn
  have HR := hid R
  have HB := hid hB
  have HNUM := hid N
  have HCF := hid hcf
  have HM := hid hM
  have HM2 := hid hM2
  have HG := hid hG
  have HT := hid T
  have HBX := hid hb
  clear hn R T hB N hcf hM hb hG hM2
  simp only [rest13t, rest13, sndSeq, Tryz.f7, Option.getD_some]
  go_wp2_with fail
  rename_i K hK
  have HK := hid hK
  clear hK
  go_loopw [70] (fun kv y => TabRel w B wb (.slice ao n ec) n bw bl bo g cf ov s m pbx pr nbx nr rr kv y) (fun kv _ => n - (intOf kv).toNat)
  case atStart =>
    refine ⟨0, fun _ => .slice none 0 0, rfl, by omega, ?_, HBX.out⟩
    have e1 : (tabXs m (partK cf 0) (pairsAt g cf 0 0)) = fun _ => [] := by
      funext i
      unfold tabXs
      split <;> simp [partK, pairsAt, readers]
    have e2 : wants (pairsAt g cf 0 0) [] = fun _ => 0 := by
      funext q
      simp [wants, pairsAt]
    rw [e1, e2]
    exact HT.out
  case round =>
    clear HT HBX
    obtain ⟨j, vs, rfl, hj, T, hby⟩ := hrel
    by_cases hgo2 : j < n
    · obtain ⟨eb, eo, rfl⟩ := rows_at HG.out HN.out hgo2
      obtain ⟨lo, lc, e0w, hel, hed⟩ := rows_edges HG.out HN.out hgo2
      have e0 := (hby.cell (HB.out ▸ World.block_lt_of_cell? _ _ e0w)).trans e0w
      have hcm : cf j < m := HNUM.out.lt j (HN.out ▸ hgo2)
      have d4 := cell_of (i := 4) T.wat.hd rfl
      have gc : wr.cell? ⟨bo, j, none⟩ = some (.int .i64 (cf j : Int)) := by
        rw [T.wat.ro.get hgo2, HCF.out j hgo2]
      have hl : (tabXs m (partK cf j) (pairsAt g cf j 0) (cf j)).length ≤ 1000000 := by
        rw [tabXs_part hcm]
        have := partK_length cf j (cf j)
        omega
      obtain ⟨a3, c3, w3, happ, ch3, TP, _⟩ := (T.drewN 1).app (i := cf j) (by omega) hl j
      obtain ⟨z1, z2, _, _, _⟩ := (T.drewN 1).behind (by omega) ch3
      have pb0 := cell_of (i := 0) T.hpb rfl
      have rp0 := T.rp.get hcm
      have pb1 := ((Chg.refl [] wr).alloc (.cells #[.int .i64 (j : Int)] 3)).cell pb0 (by simp)
      have rp1 := ((Chg.refl [] wr).alloc (.cells #[.int .i64 (j : Int)] 3)).cell rp0 (by simp)
      have happ1 : (Builtin.append_ #[42, 42] 42 #[vs (cf j), .slice (some ⟨wr.heap.size, 0, none⟩) 1 1]).run Tryz.prog (wr.alloc (.cells #[.int .i64 (j : Int)] 3)).drew = .ok (.slice a3 ((tabXs m (partK cf j) (pairsAt g cf j 0) (cf j)).length + 1) c3) w3 := happ
      clear happ
      have pb3 := cell_of (i := 0) z1 rfl
      have rp3 := z2.get hcm
      have fp3 := z2.free (i := cf j)
      have TP' := TP hcm
      rw [tab_node hcm] at TP'
      have hby2 := (show Below B w (w3.setCell ⟨pr, cf j, none⟩ (.slice a3 ((tabXs m (partK cf j) (pairsAt g cf j 0) (cf j)).length + 1) c3)) from
        (hby.trans (((Chg.refl [] wr).drewN 1).below (by simp) T.size)).trans ((ch3.below (T.blocks (by omega)) T.size).setCell T.b1 _))
      have RR0 := hid (show TabRelE w B wb (.slice (some ⟨eb, eo, none⟩) n ec) n bw bl bo g cf ov s m pbx pr nbx nr rr j (.int .i64 0) (w3.setCell ⟨pr, cf j, none⟩ (.slice a3 ((tabXs m (partK cf j) (pairsAt g cf j 0) (cf j)).length + 1) c3)) from ⟨0, _, rfl, Nat.zero_le _, TP', hby2⟩)
      have HED := hid hed
      have HT := hid T
      obtain ⟨ne, hne⟩ : ∃ ne, ne = (edges g j).length := ⟨_, rfl⟩
      rw [← hne] at e0 hel
      have HNE := hid hne
      clear T TP TP' hed z1 z2 hby hby2 e0w hne
      go_wp2_with fail
      apply once
      · intro key
        go_region_law (refine step_append_run rfl (.tmp 87) (.tmp 89) 42 rfl _ _ (by simp [Act.eval]) (by simp [Act.eval]) happ1 ?_)
        all_goals exact key
      · clear happ1 pb0 pb1 rp0 rp1 pb3 rp3 fp3 d4 gc e0
        go_wp2_with fail
        go_loopw [94] (fun jv y => TabRelE w B wb (.slice (some ⟨eb, eo, none⟩) n ec) n bw bl bo g cf ov s m pbx pr nbx nr rr j jv y) (fun jv _ => ne - (intOf jv).toNat)
        case atStart => exact RR0.out
        case round =>
          clear RR0 HT
          obtain ⟨e, vt, rfl, he, T, hby⟩ := hrel
          rw [← HNE.out] at he
          by_cases hgo3 : e < ne
          · obtain ⟨to, hto⟩ : ∃ to, (edges g j)[e]? = some to := ⟨_, List.getElem?_eq_getElem (HNE.out ▸ hgo3)⟩
            have htol : to < n := by have := HR.out j to (List.mem_of_getElem? hto); rw [HN.out]; exact this
            obtain ⟨b2, o2, rfl, hcw⟩ := HED.out e to hto
            have ce := (hby.cell (HB.out ▸ World.block_lt_of_cell? _ _ hcw)).trans hcw
            have hqm : cf to < m := HNUM.out.lt to (HN.out ▸ htol)
            have d4 := cell_of (i := 4) T.wat.hd rfl
            have gt : wr.cell? ⟨bo, to, none⟩ = some (.int .i64 (cf to : Int)) := by
              rw [T.wat.ro.get htol, HCF.out to htol]
            have hstep := pairsAt_step (c := cf) hto
            have HST := hid hstep
            obtain ⟨p, hp⟩ : ∃ p, p = cf j := ⟨_, rfl⟩
            obtain ⟨q, hq⟩ : ∃ q, q = cf to := ⟨_, rfl⟩
            rw [← hp] at hcm ⊢
            rw [← hq] at hqm gt
            have HP := hid hp
            have HQ := hid hq
            by_cases heq : q = p
            · have RR := hid (show TabRelE w B wb (.slice (some ⟨eb, eo, none⟩) n ec) n bw bl bo g cf ov s m pbx pr nbx nr rr j (.int .i64 ((e : Int) + 1)) wr from
                ⟨e + 1, vt, by simp, by rw [← HNE.out]; omega, by
                  rw [HST.out, if_pos (by rw [← HP.out, ← HQ.out]; exact heq), List.append_nil]
                  exact T, hby⟩)
              subst heq
              clear T hby hp hq hto hcw hstep
              go_wp2_with fail
              go_roundw
              case rel => exact RR.out
              case measure => simp [intOf]; omega
            · have hqi : ¬ (q : Int) = (p : Int) := by omega
              have nb1 := cell_of (i := 0) T.hnb rfl
              obtain ⟨y, hy⟩ : ∃ y, y = wants (pairsAt g cf j e) [] p := ⟨_, rfl⟩
              have nr1 : wr.cell? ⟨nr, p, none⟩ = some (.int .i64 (y : Int)) := by
                rw [T.rn.get hcm, hy]; rfl
              have nf1 := T.rn.free (i := p)
              have hpl := pairsAt_length (c := cf) HM.out j e
              have hjn : (j + 1) * M ≤ (n + 1) * M := Nat.mul_le_mul_right M (by omega)
              have hML := HM2.out
              have hy2 : y ≤ 1000000 := by
                have := wants_le (pairsAt g cf j e) [] p
                omega
              have T2 : Tab (wr.setCell ⟨nr, p, none⟩ (.int .i64 ((y : Int) + 1))) B wb (.slice (some ⟨eb, eo, none⟩) n ec) n bw bl bo ov s m pbx pr nbx nr rr vt (tabXs m (partK cf (j + 1)) (pairsAt g cf j e)) (upd (wants (pairsAt g cf j e) []) p (y + 1)) := T.need p (y + 1)
              have hb2 : Below B w (wr.setCell ⟨nr, p, none⟩ (.int .i64 ((y : Int) + 1))) := hby.setCell T.b3 _
              obtain ⟨z, hz⟩ : ∃ z, z = wr.setCell ⟨nr, p, none⟩ (.int .i64 ((y : Int) + 1)) := ⟨_, rfl⟩
              have hz' := hz.symm
              rw [← hz] at T2 hb2
              have dz := cell_of (i := 4) T2.wat.hd rfl
              have gz : z.cell? ⟨bo, to, none⟩ = some (.int .i64 (q : Int)) := by
                rw [T2.wat.ro.get htol, HCF.out to htol, HQ.out]
              have rz := T2.rq.get hqm
              have hl : (tabXs m (partK cf (j + 1)) (pairsAt g cf j e) (m + q)).length ≤ 1000000 := by
                rw [tabXs_read]
                have := readers_le (pairsAt g cf j e) q
                omega
              obtain ⟨a3, c3, w3, happ, ch3, _, TQ⟩ := (T2.drewN 1).app (i := m + q) (by omega) hl p
              obtain ⟨_, _, z2, z3, z4⟩ := (T2.drewN 1).behind (by omega) ch3
              have happ1 : (Builtin.append_ #[42, 42] 42 #[vt (m + q), .slice (some ⟨z.heap.size, 0, none⟩) 1 1]).run Tryz.prog (z.alloc (.cells #[.int .i64 (p : Int)] 3)).drew = .ok (.slice a3 ((tabXs m (partK cf (j + 1)) (pairsAt g cf j e) (m + q)).length + 1) c3) w3 := happ
              clear happ
              have kq := z2.get hqm
              have fq := z2.free (i := q)
              have k4 : w3.cell? ⟨wb, 4, none⟩ = some (.slice (some ⟨bo, 0, none⟩) n n) := cell_of (i := 4) (z3.trans T2.wat.hd) rfl
              have kt : w3.cell? ⟨bo, to, none⟩ = some (.int .i64 (q : Int)) := by
                rw [z4.get htol, HCF.out to htol, HQ.out]
              have keep3 := And.intro k4 kt
              have TQ' := TQ q rfl
              rw [tab_edge, hy, need_edge] at TQ'
              have kt4 : (w3.setCell ⟨rr, q, none⟩ (.slice a3 ((tabXs m (partK cf (j + 1)) (pairsAt g cf j e) (m + q)).length + 1) c3)).cell? ⟨bo, to, none⟩ = some (.int .i64 (q : Int)) := by
                rw [TQ'.wat.ro.get htol, HCF.out to htol, HQ.out]
              have k44 : (w3.setCell ⟨rr, q, none⟩ (.slice a3 ((tabXs m (partK cf (j + 1)) (pairsAt g cf j e) (m + q)).length + 1) c3)).cell? ⟨wb, 4, none⟩ = some (.slice (some ⟨bo, 0, none⟩) n n) := cell_of (i := 4) TQ'.wat.hd rfl
              have keep4 := And.intro k44 kt4
              have rz1 := ((Chg.refl [] z).alloc (.cells #[.int .i64 (p : Int)] 3)).cell rz (by simp)
              have hb3 := ((hb2.trans (((Chg.refl [] z).drewN 1).below (by simp) T2.size)).trans (ch3.below (T2.blocks (by omega)) T2.size)).setCell (p := ⟨rr, q, none⟩) T2.b2 (.slice a3 ((tabXs m (partK cf (j + 1)) (pairsAt g cf j e) (m + q)).length + 1) c3)
              have RR := hid (show TabRelE w B wb (.slice (some ⟨eb, eo, none⟩) n ec) n bw bl bo g cf ov s m pbx pr nbx nr rr j (.int .i64 ((e : Int) + 1)) (w3.setCell ⟨rr, q, none⟩ (.slice a3 ((tabXs m (partK cf (j + 1)) (pairsAt g cf j e) (m + q)).length + 1) c3)) from
                ⟨e + 1, _, by simp, by rw [← HNE.out]; omega, by
                  rw [HST.out, if_neg (by rw [← HP.out, ← HQ.out]; exact heq), ← HP.out, ← HQ.out]
                  exact TQ', hb3⟩)
              clear hp hq hy T T2 hby hb2 hb3 TQ TQ' z2 z3 z4 hto hcw hstep hz hpl hjn hML ch3 k4 kt kt4 k44
              go_wp2_with fail
              refine wp_region_held_drew (S := fun x => x.cell? ⟨wb, 4, none⟩ = some (.slice (some ⟨bo, 0, none⟩) n n) ∧ x.cell? ⟨bo, to, none⟩ = some (.int .i64 (q : Int))) (by kernel_rfl) ⟨dz, gz⟩ (fun hS => ?_)
              refine wpAnyH_take (i := 0) (oi := ⟨some 113, Op.move (Operand.tmp 9), 30, "islands.go:133", #[], none⟩) (v := ?_) rfl (by kernel_rfl) (by kernel_rfl) (by kernel_rfl) (fun _ _ _ h => h) (Or.inl ⟨by rfl, ?_⟩) hS ?_
              rotate_left 1
              · rintro wx ⟨s0, s1⟩
                (go_simp <;> (try with_reducible rfl))
              try simp only [Act.put, List.setIfInBounds_toArray, List.set_cons_zero, List.set_cons_succ]
              refine wpAnyH_take (i := 1) (oi := ⟨some 114, Op.move (Operand.tmp 5), 84, "islands.go:133", #[], none⟩) (v := ?_) rfl (by kernel_rfl) (by kernel_rfl) (by kernel_rfl) (fun _ _ _ h => h) (Or.inl ⟨by rfl, ?_⟩) hS ?_
              rotate_left 1
              · rintro wx ⟨s0, s1⟩
                (go_simp <;> (try with_reducible rfl))
              try simp only [Act.put, List.setIfInBounds_toArray, List.set_cons_zero, List.set_cons_succ]
              refine wpAnyH_take (i := 2) (oi := ⟨some 115, Op.nilCheck (Operand.tmp 114), 0, "islands.go:133", #[⟨1, .data⟩], none⟩) (v := ?_) rfl (by kernel_rfl) (by kernel_rfl) (by kernel_rfl) (fun _ _ _ h => h) (Or.inl ⟨by rfl, ?_⟩) hS ?_
              rotate_left 1
              · rintro wx ⟨s0, s1⟩
                (go_simp <;> (try with_reducible rfl))
              try simp only [Act.put, List.setIfInBounds_toArray, List.set_cons_zero, List.set_cons_succ]
              refine wpAnyH_take (i := 3) (oi := ⟨some 116, Op.fieldAddr 87 (Operand.tmp 115) 4, 0, "islands.go:133", #[⟨2, .data⟩], none⟩) (v := ?_) rfl (by kernel_rfl) (by kernel_rfl) (by kernel_rfl) (fun _ _ _ h => h) (Or.inl ⟨by rfl, ?_⟩) hS ?_
              rotate_left 1
              · rintro wx ⟨s0, s1⟩
                (go_simp <;> (try with_reducible rfl))
              try simp only [Act.put, List.setIfInBounds_toArray, List.set_cons_zero, List.set_cons_succ]
              refine wpAnyH_take (i := 4) (oi := ⟨some 117, Op.load 42 (Operand.tmp 116), 42, "islands.go:133", #[⟨3, .data⟩], none⟩) (v := ?_) rfl (by kernel_rfl) (by kernel_rfl) (by kernel_rfl) (fun _ _ _ h => h) (Or.inl ⟨by rfl, ?_⟩) hS ?_
              rotate_left 1
              · rintro wx ⟨s0, s1⟩
                (go_simp <;> (try with_reducible rfl))
              try simp only [Act.put, List.setIfInBounds_toArray, List.set_cons_zero, List.set_cons_succ]
              refine wpAnyH_take (i := 5) (oi := ⟨some 118, Op.move (Operand.tmp 14), 3, "islands.go:133", #[], none⟩) (v := ?_) rfl (by kernel_rfl) (by kernel_rfl) (by kernel_rfl) (fun _ _ _ h => h) (Or.inl ⟨by rfl, ?_⟩) hS ?_
              rotate_left 1
              · rintro wx ⟨s0, s1⟩
                (go_simp <;> (try with_reducible rfl))
              try simp only [Act.put, List.setIfInBounds_toArray, List.set_cons_zero, List.set_cons_succ]
              refine wpAnyH_take (i := 6) (oi := ⟨some 119, Op.indexAddr 42 (Operand.tmp 117) (Operand.tmp 118), 0, "islands.go:133", #[⟨4, .data⟩, ⟨5, .data⟩], none⟩) (v := ?_) rfl (by kernel_rfl) (by kernel_rfl) (by kernel_rfl) (fun _ _ _ h => h) (Or.inl ⟨by rfl, ?_⟩) hS ?_
              rotate_left 1
              · rintro wx ⟨s0, s1⟩
                (go_simp <;> (try with_reducible rfl))
              try simp only [Act.put, List.setIfInBounds_toArray, List.set_cons_zero, List.set_cons_succ]
              refine wpAnyH_take (i := 7) (oi := ⟨some 120, Op.load 3 (Operand.tmp 119), 3, "islands.go:133", #[⟨6, .data⟩], none⟩) (v := ?_) rfl (by kernel_rfl) (by kernel_rfl) (by kernel_rfl) (fun _ _ _ h => h) (Or.inl ⟨by rfl, ?_⟩) hS ?_
              rotate_left 1
              · rintro wx ⟨s0, s1⟩
                (go_simp <;> (try with_reducible rfl))
              try simp only [Act.put, List.setIfInBounds_toArray, List.set_cons_zero, List.set_cons_succ]
              refine wpAnyH_take (i := 8) (oi := ⟨some 121, Op.move (Operand.tmp 9), 30, "islands.go:133", #[], none⟩) (v := ?_) rfl (by kernel_rfl) (by kernel_rfl) (by kernel_rfl) (fun _ _ _ h => h) (Or.inl ⟨by rfl, ?_⟩) hS ?_
              rotate_left 1
              · rintro wx ⟨s0, s1⟩
                (go_simp <;> (try with_reducible rfl))
              try simp only [Act.put, List.setIfInBounds_toArray, List.set_cons_zero, List.set_cons_succ]
              refine wpAnyH_take (i := 9) (oi := ⟨some 122, Op.move (Operand.tmp 5), 84, "islands.go:133", #[], none⟩) (v := ?_) rfl (by kernel_rfl) (by kernel_rfl) (by kernel_rfl) (fun _ _ _ h => h) (Or.inl ⟨by rfl, ?_⟩) hS ?_
              rotate_left 1
              · rintro wx ⟨s0, s1⟩
                (go_simp <;> (try with_reducible rfl))
              try simp only [Act.put, List.setIfInBounds_toArray, List.set_cons_zero, List.set_cons_succ]
              refine wpAnyH_take (i := 10) (oi := ⟨some 123, Op.nilCheck (Operand.tmp 122), 0, "islands.go:133", #[⟨9, .data⟩], none⟩) (v := ?_) rfl (by kernel_rfl) (by kernel_rfl) (by kernel_rfl) (fun _ _ _ h => h) (Or.inl ⟨by rfl, ?_⟩) hS ?_
              rotate_left 1
              · rintro wx ⟨s0, s1⟩
                (go_simp <;> (try with_reducible rfl))
              try simp only [Act.put, List.setIfInBounds_toArray, List.set_cons_zero, List.set_cons_succ]
              refine wpAnyH_take (i := 11) (oi := ⟨some 124, Op.fieldAddr 87 (Operand.tmp 123) 4, 0, "islands.go:133", #[⟨10, .data⟩], none⟩) (v := ?_) rfl (by kernel_rfl) (by kernel_rfl) (by kernel_rfl) (fun _ _ _ h => h) (Or.inl ⟨by rfl, ?_⟩) hS ?_
              rotate_left 1
              · rintro wx ⟨s0, s1⟩
                (go_simp <;> (try with_reducible rfl))
              try simp only [Act.put, List.setIfInBounds_toArray, List.set_cons_zero, List.set_cons_succ]
              refine wpAnyH_take (i := 12) (oi := ⟨some 125, Op.load 42 (Operand.tmp 124), 42, "islands.go:133", #[⟨11, .data⟩], none⟩) (v := ?_) rfl (by kernel_rfl) (by kernel_rfl) (by kernel_rfl) (fun _ _ _ h => h) (Or.inl ⟨by rfl, ?_⟩) hS ?_
              rotate_left 1
              · rintro wx ⟨s0, s1⟩
                (go_simp <;> (try with_reducible rfl))
              try simp only [Act.put, List.setIfInBounds_toArray, List.set_cons_zero, List.set_cons_succ]
              refine wpAnyH_take (i := 13) (oi := ⟨some 126, Op.move (Operand.tmp 14), 3, "islands.go:133", #[], none⟩) (v := ?_) rfl (by kernel_rfl) (by kernel_rfl) (by kernel_rfl) (fun _ _ _ h => h) (Or.inl ⟨by rfl, ?_⟩) hS ?_
              rotate_left 1
              · rintro wx ⟨s0, s1⟩
                (go_simp <;> (try with_reducible rfl))
              try simp only [Act.put, List.setIfInBounds_toArray, List.set_cons_zero, List.set_cons_succ]
              refine wpAnyH_take (i := 14) (oi := ⟨some 127, Op.indexAddr 42 (Operand.tmp 125) (Operand.tmp 126), 0, "islands.go:133", #[⟨12, .data⟩, ⟨13, .data⟩], none⟩) (v := ?_) rfl (by kernel_rfl) (by kernel_rfl) (by kernel_rfl) (fun _ _ _ h => h) (Or.inl ⟨by rfl, ?_⟩) hS ?_
              rotate_left 1
              · rintro wx ⟨s0, s1⟩
                (go_simp <;> (try with_reducible rfl))
              try simp only [Act.put, List.setIfInBounds_toArray, List.set_cons_zero, List.set_cons_succ]
              refine wpAnyH_take (i := 15) (oi := ⟨some 128, Op.load 3 (Operand.tmp 127), 3, "islands.go:133", #[⟨14, .data⟩], none⟩) (v := ?_) rfl (by kernel_rfl) (by kernel_rfl) (by kernel_rfl) (fun _ _ _ h => h) (Or.inl ⟨by rfl, ?_⟩) hS ?_
              rotate_left 1
              · rintro wx ⟨s0, s1⟩
                (go_simp <;> (try with_reducible rfl))
              try simp only [Act.put, List.setIfInBounds_toArray, List.set_cons_zero, List.set_cons_succ]
              refine wpAnyH_take (i := 16) (oi := ⟨some 129, Op.indexAddr 30 (Operand.tmp 121) (Operand.tmp 128), 0, "islands.go:133", #[⟨8, .data⟩, ⟨15, .data⟩], none⟩) (v := ?_) rfl (by kernel_rfl) (by kernel_rfl) (by kernel_rfl) (fun _ _ _ h => h) (Or.inl ⟨by rfl, ?_⟩) hS ?_
              rotate_left 1
              · rintro wx ⟨s0, s1⟩
                (go_simp <;> (try with_reducible rfl))
              try simp only [Act.put, List.setIfInBounds_toArray, List.set_cons_zero, List.set_cons_succ]
              refine wpAnyH_take (i := 18) (oi := ⟨some 131, Op.move (Operand.tmp 12), 3, "islands.go:133", #[], none⟩) (v := ?_) rfl (by kernel_rfl) (by kernel_rfl) (by kernel_rfl) (fun _ _ _ h => h) (Or.inl ⟨by rfl, ?_⟩) hS ?_
              rotate_left 1
              · rintro wx ⟨s0, s1⟩
                (go_simp <;> (try with_reducible rfl))
              try simp only [Act.put, List.setIfInBounds_toArray, List.set_cons_zero, List.set_cons_succ]
              refine wpAnyH_ready (rs := [17, 19]) (by kernel_rfl) (by simp) ?_
              refine AllReadyH.cons (o := ⟨some 130, Op.load 42 (Operand.tmp 129), 42, "islands.go:133", #[⟨16, .data⟩], none⟩) rfl (fun K hK => ?_) (AllReadyH.cons (o := ⟨some 132, Op.buildSlice 42 1 #[(0, Operand.tmp 131)], 42, "islands.go:133", #[⟨18, .data⟩], none⟩) rfl (fun K hK => ?_) AllReadyH.nil)
              · go_simp
                refine hK.out _ _ ⟨dz, gz⟩ (fun hS => ?_)
                clear hK K
                try simp only [Act.put, List.setIfInBounds_toArray, List.set_cons_zero, List.set_cons_succ]
                refine wpAnyH_ready (rs := [19]) (by kernel_rfl) (by simp) ?_
                refine AllReadyH.cons (o := ⟨some 132, Op.buildSlice 42 1 #[(0, Operand.tmp 131)], 42, "islands.go:133", #[⟨18, .data⟩], none⟩) rfl (fun K hK => ?_) AllReadyH.nil
                go_simp
                refine hK.out _ _ ⟨((Chg.refl [] z).alloc _).cell dz (by simp), ((Chg.refl [] z).alloc _).cell gz (by simp)⟩ (fun hS => ?_)
                clear hK K
                try simp only [Act.put, List.setIfInBounds_toArray, List.set_cons_zero, List.set_cons_succ]
                refine wpAnyH_ready (rs := [20]) (by kernel_rfl) (by simp) ?_
                refine AllReadyH.cons (o := ⟨some 133, Op.call { callee := Callee.builtin Builtin.append, args := #[Operand.tmp 130, Operand.tmp 132], argTypes := #[42, 42] }, 42, "islands.go:133", #[⟨17, .data⟩, ⟨19, .data⟩], none⟩) rfl (fun K hK => ?_) AllReadyH.nil
                refine step_append_run rfl (.tmp 130) (.tmp 132) 42 rfl _ _ (by simp [Act.eval]) (by simp [Act.eval]) happ1 ?_
                refine hK.out _ _ keep3 (fun hS => ?_)
                clear hK K
                try simp only [Act.put, List.setIfInBounds_toArray, List.set_cons_zero, List.set_cons_succ]
                refine wpAnyH_take (i := 21) (oi := ⟨some 134, Op.indexAddr 30 (Operand.tmp 113) (Operand.tmp 120), 0, "islands.go:133", #[⟨0, .data⟩, ⟨7, .data⟩, ⟨0, .phase⟩, ⟨1, .phase⟩, ⟨2, .phase⟩, ⟨3, .phase⟩, ⟨4, .phase⟩, ⟨5, .phase⟩, ⟨6, .phase⟩, ⟨7, .phase⟩, ⟨8, .phase⟩, ⟨9, .phase⟩, ⟨10, .phase⟩, ⟨11, .phase⟩, ⟨12, .phase⟩, ⟨13, .phase⟩, ⟨14, .phase⟩, ⟨15, .phase⟩, ⟨16, .phase⟩, ⟨17, .phase⟩, ⟨18, .phase⟩, ⟨19, .phase⟩, ⟨20, .phase⟩], none⟩) (v := ?_) rfl (by kernel_rfl) (by kernel_rfl) (by kernel_rfl) (fun _ _ _ h => h) (Or.inl ⟨by rfl, ?_⟩) hS ?_
                rotate_left 1
                · rintro wx ⟨s0, s1⟩
                  (go_simp <;> (try with_reducible rfl))
                try simp only [Act.put, List.setIfInBounds_toArray, List.set_cons_zero, List.set_cons_succ]
                refine wpAnyH_ready (rs := [22]) (by kernel_rfl) (by simp) ?_
                refine AllReadyH.cons (o := ⟨none, Op.store 42 (Operand.tmp 134) (Operand.tmp 133), 0, "islands.go:133", #[⟨21, .data⟩, ⟨20, .data⟩, ⟨20, .chain⟩, ⟨0, .phase⟩, ⟨1, .phase⟩, ⟨2, .phase⟩, ⟨3, .phase⟩, ⟨4, .phase⟩, ⟨5, .phase⟩, ⟨6, .phase⟩, ⟨7, .phase⟩, ⟨8, .phase⟩, ⟨9, .phase⟩, ⟨10, .phase⟩, ⟨11, .phase⟩, ⟨12, .phase⟩, ⟨13, .phase⟩, ⟨14, .phase⟩, ⟨15, .phase⟩, ⟨16, .phase⟩, ⟨17, .phase⟩, ⟨18, .phase⟩, ⟨19, .phase⟩, ⟨20, .phase⟩], none⟩) rfl (fun K hK => ?_) AllReadyH.nil
                go_simp
                refine hK.out _ _ keep4 (fun hS => ?_)
                clear hK K
                try simp only [Act.put, List.setIfInBounds_toArray, List.set_cons_zero, List.set_cons_succ]
                refine wpAnyH_done (by kernel_rfl) ?_ _
                go_wp2_with fail
                go_roundw
                case rel => exact RR.out
                case measure => simp [intOf]; omega
              · go_simp
                refine hK.out _ _ ⟨((Chg.refl [] z).alloc _).cell dz (by simp), ((Chg.refl [] z).alloc _).cell gz (by simp)⟩ (fun hS => ?_)
                clear hK K
                try simp only [Act.put, List.setIfInBounds_toArray, List.set_cons_zero, List.set_cons_succ]
                refine wpAnyH_ready (rs := [17]) (by kernel_rfl) (by simp) ?_
                refine AllReadyH.cons (o := ⟨some 130, Op.load 42 (Operand.tmp 129), 42, "islands.go:133", #[⟨16, .data⟩], none⟩) rfl (fun K hK => ?_) AllReadyH.nil
                go_simp
                refine hK.out _ _ ⟨((Chg.refl [] z).alloc _).cell dz (by simp), ((Chg.refl [] z).alloc _).cell gz (by simp)⟩ (fun hS => ?_)
                clear hK K
                try simp only [Act.put, List.setIfInBounds_toArray, List.set_cons_zero, List.set_cons_succ]
                refine wpAnyH_ready (rs := [20]) (by kernel_rfl) (by simp) ?_
                refine AllReadyH.cons (o := ⟨some 133, Op.call { callee := Callee.builtin Builtin.append, args := #[Operand.tmp 130, Operand.tmp 132], argTypes := #[42, 42] }, 42, "islands.go:133", #[⟨17, .data⟩, ⟨19, .data⟩], none⟩) rfl (fun K hK => ?_) AllReadyH.nil
                refine step_append_run rfl (.tmp 130) (.tmp 132) 42 rfl _ _ (by simp [Act.eval]) (by simp [Act.eval]) happ1 ?_
                refine hK.out _ _ keep3 (fun hS => ?_)
                clear hK K
                try simp only [Act.put, List.setIfInBounds_toArray, List.set_cons_zero, List.set_cons_succ]
                refine wpAnyH_take (i := 21) (oi := ⟨some 134, Op.indexAddr 30 (Operand.tmp 113) (Operand.tmp 120), 0, "islands.go:133", #[⟨0, .data⟩, ⟨7, .data⟩, ⟨0, .phase⟩, ⟨1, .phase⟩, ⟨2, .phase⟩, ⟨3, .phase⟩, ⟨4, .phase⟩, ⟨5, .phase⟩, ⟨6, .phase⟩, ⟨7, .phase⟩, ⟨8, .phase⟩, ⟨9, .phase⟩, ⟨10, .phase⟩, ⟨11, .phase⟩, ⟨12, .phase⟩, ⟨13, .phase⟩, ⟨14, .phase⟩, ⟨15, .phase⟩, ⟨16, .phase⟩, ⟨17, .phase⟩, ⟨18, .phase⟩, ⟨19, .phase⟩, ⟨20, .phase⟩], none⟩) (v := ?_) rfl (by kernel_rfl) (by kernel_rfl) (by kernel_rfl) (fun _ _ _ h => h) (Or.inl ⟨by rfl, ?_⟩) hS ?_
                rotate_left 1
                · rintro wx ⟨s0, s1⟩
                  (go_simp <;> (try with_reducible rfl))
                try simp only [Act.put, List.setIfInBounds_toArray, List.set_cons_zero, List.set_cons_succ]
                refine wpAnyH_ready (rs := [22]) (by kernel_rfl) (by simp) ?_
                refine AllReadyH.cons (o := ⟨none, Op.store 42 (Operand.tmp 134) (Operand.tmp 133), 0, "islands.go:133", #[⟨21, .data⟩, ⟨20, .data⟩, ⟨20, .chain⟩, ⟨0, .phase⟩, ⟨1, .phase⟩, ⟨2, .phase⟩, ⟨3, .phase⟩, ⟨4, .phase⟩, ⟨5, .phase⟩, ⟨6, .phase⟩, ⟨7, .phase⟩, ⟨8, .phase⟩, ⟨9, .phase⟩, ⟨10, .phase⟩, ⟨11, .phase⟩, ⟨12, .phase⟩, ⟨13, .phase⟩, ⟨14, .phase⟩, ⟨15, .phase⟩, ⟨16, .phase⟩, ⟨17, .phase⟩, ⟨18, .phase⟩, ⟨19, .phase⟩, ⟨20, .phase⟩], none⟩) rfl (fun K hK => ?_) AllReadyH.nil
                go_simp
                refine hK.out _ _ keep4 (fun hS => ?_)
                clear hK K
                try simp only [Act.put, List.setIfInBounds_toArray, List.set_cons_zero, List.set_cons_succ]
                refine wpAnyH_done (by kernel_rfl) ?_ _
                go_wp2_with fail
                go_roundw
                case rel => exact RR.out
                case measure => simp [intOf]; omega
          · have RR := hid (show TabRel w B wb (.slice (some ⟨eb, eo, none⟩) n ec) n bw bl bo g cf ov s m pbx pr nbx nr rr (.int .i64 ((j : Int) + 1)) wr from
              ⟨j + 1, vt, by simp, by omega, by
                have e2 : e = (edges g j).length := by rw [← HNE.out]; omega
                rw [e2, pairsAt_full] at T
                exact T, hby⟩)
            clear T hby
            go_wp2_with fail
            go_roundw
            case rel => exact RR.out
            case measure => simp [intOf]; omega
    · obtain rfl : j = n := by omega
      have e1 : partK cf j = partOf g cf := by
        funext p
        rw [HN.out]
        exact partK_all g cf p
      have e2 : pairsAt g cf j 0 = pairs g cf := by
        rw [HN.out]
        exact pairsAt_all g cf
      have hpl := pairsAt_length (c := cf) HM.out j 0
      rw [e1, e2] at T
      rw [e2] at hpl
      have HT := hid T
      have HPL := hid (show (pairs g cf).length ≤ 1000000 from by have := HM2.out; omega)
      have HBY := hid hby
      clear T hby hpl e1 e2
      go_wp2_with fail
      refine HK.out _ _ ?_
      have HP := @parts_ready w wr B wb j bw bl bo (.slice ao j ec) ov g cf s m pbx pr nbx nr rr vs
      simp only [rest13h, rest13t, rest13, sndSeq, Tryz.f7, Option.getD_some] at HP
      exact HP _ _ _ _ _ _ _ _ _ _ _ _ _ _ _ _ _ _ _ _ _ _ _ _ _ _ _ _ _ _ _ _ _ _ _ _ _ _ _ _ _ _ _ _ _ _ _ _ _ _ _ _ _ _ _ _ _ _ _ _ _ _ _ _ _ _ _ _ _ _ _ _ _ _ _ _ _ _ _ _ _ _ _ _ _ _ _ _ _ _ _ _ _ _ _ _ _ _ _ _ _ _ _ _ _ _ _ _ _ _ _ _ _ _ _ _ _ _ _ _ _ _ _ _ _ _ _ _ _ _ _ _ _ _ _ _ _ _ _ _ _ _ _ _ _ _ _ _ _ _ _ _ _ _ _ _ _ _ _ _ _ _ _ _ _ _ _ _ _ _ _ _ _ _ _ _ _ _ _ _ _ HN.out hn2 hm HB.out HR.out HCF.out HNUM.out HPL.out HT.out HBY.out

end Go.Proofs.YtpcjfgihglfdgaaGreatDoor.Isl
