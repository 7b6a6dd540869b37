/- islands.Parts: its last loop, which takes the islands out in their order. -/
import Derived.Test.YtagfgbmaibadjaaIsLastP
import Derived.Deep.RegionWith
import Derived.Deep.RegionLaw
import Derived.Outline
namespace Go.Proofs.Ytagfgbmaibadjaa
open Go.RowKit Go.Lib

def sndSeq : Code → Code
  | .seq _ b => b
  | c => c
/-- what stands behind the walker's making -/
noncomputable def rest13 : Code := sndSeq (sndSeq (sndSeq (sndSeq (Try.f13.body.getD .skip))))
/-- what stands behind the loop over the nodes, and the three tables' making -/
noncomputable def rest13t : Code := sndSeq (sndSeq (sndSeq (sndSeq rest13)))
/-- what stands behind the loop that fills the tables -/
noncomputable def rest13h : Code := sndSeq rest13t
/-- what stands behind the loop that asks each island -/
noncomputable def rest13c : Code := sndSeq (sndSeq (sndSeq rest13h))

def PartsPost (w : World) (g : Gr) (e : Ending) (w' : World) : Prop :=
  ∃ v out, e = .returned (.tuple #[v, .int .i64 0]) ∧ IsParts g out ∧ RowsIn w' v (castG out) ∧ Below w.heap.size w w'


def lenOfV : Value → Nat
  | .slice _ n _ => n
  | _ => 0

def LastRel (w : World) (B wb : Nat) (ev : Value) (n bw bl bo : Nat) (g : Gr) (cf : Nat → Nat) (ov : Value) (s : St) (m pbx pr nbx nr rr hb : Nat) (vs : Nat → Value) (L : Nat) (vo : Value) (x : World) : Prop :=
  ∃ P us h, LastAt w x B wb ev n bw bl bo g cf ov s m pbx pr nbx nr rr hb vs (wants (pairs g cf) P) h (SetOf g cf m P (wants (pairs g cf) P)) L vo us (P.map (partOf g cf)) ∧ Out g cf m P
def InnerRel (w : World) (B wb : Nat) (ev : Value) (n bw bl bo : Nat) (g : Gr) (cf : Nat → Nat) (ov : Value) (s : St) (m pbx pr nbx nr rr hb : Nat) (vs : Nat → Value) (L : Nat) (vo : Value) (us : List Value) (P : List Nat) (p : Nat) (jv : Value) (x : World) : Prop :=
  ∃ (j h : Nat) (nd : Nat → Nat), jv = .int .i64 (j : Int) ∧ j ≤ (readers (pairs g cf) p).length ∧ LastAt w x B wb ev n bw bl bo g cf ov s m pbx pr nbx nr rr hb vs nd h (SetOf g cf m (P ++ [p]) nd) L vo us ((P ++ [p]).map (partOf g cf)) ∧
    ∀ q, nd q = wants (pairs g cf) (P ++ [p]) q + ((readers (pairs g cf) p).drop j).count q

set_option maxRecDepth 20000 in
set_option maxHeartbeats 4000000 in
theorem parts_last {w x : World} {B wb n bw bl bo : Nat} {ev ov : Value} {g : Gr} {cf : Nat → Nat} {s : St} {m pbx pr nbx nr rr hb : Nat} {vs : Nat → Value} {h L : Nat} (v0 v1 v2 v3 v4 v6 v10 v11 v12 v13 v14 v17 v18 v19 v20 v21 v22 v23 v24 v25 v26 v27 v28 v29 v30 v31 v32 v33 v34 v35 v36 v37 v38 v39 v40 v41 v42 v43 v44 v45 v46 v47 v48 v49 v50 v51 v52 v53 v54 v55 v56 v57 v58 v59 v60 v61 v62 v63 v64 v65 v66 v67 v68 v69 v70 v71 v72 v73 v74 v75 v76 v77 v78 v79 v80 v81 v82 v83 v84 v85 v86 v87 v88 v89 v90 v91 v92 v93 v94 v95 v96 v97 v98 v99 v100 v101 v102 v103 v104 v105 v106 v107 v108 v109 v110 v111 v112 v113 v114 v115 v116 v117 v118 v119 v120 v121 v122 v123 v124 v125 v126 v127 v128 v129 v130 v131 v132 v133 v134 v135 v136 v137 v138 v139 v140 v141 v142 v143 v144 v145 v146 v147 v148 v149 v150 v151 v152 v153 v154 v155 v156 v157 v158 v159 v160 v161 v162 v163 v164 v165 v166 v167 v168 v169 v170 v171 v172 v173 v174 v175 v176 v177 v178 v179 v180 v181 v182 v183 v184 : Value)
    (hn : n = g.length) (hn2 : n ≤ 2000) (hm : m ≤ 2000) (hB : w.heap.size = B) (R : RightG g) (hcf : ∀ i, i < n → islI s.isl i = (cf i : Int)) (N : Num g cf m) (hM : (pairs g cf).length ≤ 1000000)
    (A : LastAt w x B wb ev n bw bl bo g cf ov s m pbx pr nbx nr rr hb vs (wants (pairs g cf) []) h (SetOf g cf m [] (wants (pairs g cf) [])) L (.slice none 0 0) [] []) :
    Code.wp Try.prog rest13c (bodyPost Try.prog Try.f13 (PartsPost w g)) { tmps := #[v0, v1, v2, v3, v4, .pointer (some ⟨wb, 0, none⟩), v6, .pointer (some ⟨pbx, 0, none⟩), .pointer (some ⟨nbx, 0, none⟩), .slice (some ⟨rr, 0, none⟩) m m, v10, v11, v12, v13, v14, .pointer (some ⟨hb, 0, none⟩), .func (.func 24) #[] #[.pointer (some ⟨nbx, 0, none⟩), .pointer (some ⟨hb, 0, none⟩), .pointer (some ⟨pbx, 0, none⟩)], v17, v18, v19, v20, v21, v22, v23, v24, v25, v26, v27, v28, v29, v30, v31, v32, v33, v34, v35, v36, v37, v38, v39, v40, v41, v42, v43, v44, v45, v46, v47, v48, v49, v50, v51, v52, v53, v54, v55, v56, v57, v58, v59, v60, v61, v62, v63, v64, v65, v66, v67, v68, v69, v70, v71, v72, v73, v74, v75, v76, v77, v78, v79, v80, v81, v82, v83, v84, v85, v86, v87, v88, v89, v90, v91, v92, v93, v94, v95, v96, v97, v98, v99, v100, v101, v102, v103, v104, v105, v106, v107, v108, v109, v110, v111, v112, v113, v114, v115, v116, v117, v118, v119, v120, v121, v122, v123, v124, v125, v126, v127, v128, v129, v130, v131, v132, v133, v134, v135, v136, v137, v138, v139, v140, v141, v142, v143, v144, v145, v146, v147, v148, v149, v150, v151, v152, v153, v154, v155, v156, v157, v158, v159, v160, v161, v162, v163, v164, v165, v166, v167, v168, v169, v170, v171, v172, v173, v174, v175, v176, v177, v178, v179, v180, v181, v182, v183, v184], defers := [] } x := by
  have HN := hid hn
  have HR := hid R
  have HA := hid A
  have HB := hid hB
  have HNUM := hid N
  have HCF := hid hcf
  have HM := hid hM
  clear hn R A hB N hcf hM
  simp only [rest13c, rest13h, rest13t, rest13, sndSeq, Try.f13, Option.getD_some]
  go_wp2_with fail
  go_loopw [18] (fun vo y => LastRel w B wb ev n bw bl bo g cf ov s m pbx pr nbx nr rr hb vs L vo y) (fun vo _ => m - lenOfV vo)
  case atStart => exact ⟨[], [], h, HA.out, out_nil _ _ _⟩
  case round =>
    clear HA
    obtain ⟨P, us, h, A, O⟩ := hrel
    obtain ⟨va, vc, rfl⟩ := A.out.view
    obtain ⟨lp, hlp⟩ : ∃ lp, lp = (P.map (partOf g cf)).length := ⟨_, rfl⟩
    rw [← hlp] at A ⊢
    have hlpm : lp ≤ m := by have := O.length; rw [hlp, List.length_map]; exact this
    have hlp2 : lp ≤ 2000 := by omega
    have HLP := hid hlp
    have HO := hid O
    have HA := hid A
    have HH := hid A.heap
    obtain ⟨f, hf, hh, ho⟩ := A.heap
    have cn := hf.num
    clear hlp O
    by_cases h0 : h = 0
    · have HP := hid (fun v => A.heap.none h0 v)
      subst h0
      clear A hf hh ho
      go_wp2_with fail
      go_ret2
      refine ⟨_, _, rfl, HO.out.parts HNUM.out HR.out (fun q hq hqP h0 => HP.out _ ⟨q, hq, hqP, h0, rfl⟩), HA.out.out.rows ?_, ?_⟩
      · intro l hl x hx
        obtain ⟨p, hp, rfl⟩ := List.mem_map.1 hl
        have := (mem_part.1 hx).1
        have := HN.out
        omega
      · have := HA.out.bel
        rw [← HB.out] at this
        exact this
    · obtain ⟨h', rfl⟩ : ∃ h', h = h' + 1 := ⟨h - 1, by omega⟩
      have HTK := hid (fun (y : World) (c : Chg [] wr y) => take_last A c HNUM.out HN.out hn2 (fun i hi => HCF.out i hi))
      have c4 := cell_of (i := 4) A.tab.wat.hd rfl
      clear A hf hh ho
      go_wp2_with fail
      go_region_with (first | (go_at_call 26; refine (HTK.out _ ?_).mono ?_; exact ((Chg.refl [] _).drew); rintro e w2 ⟨q, x0, rfl, hx0, hq, hqP, hnd0, hle, A2, d4, dq⟩))
      all_goals (
        clear c4 cn d4 dq HTK HH
        have pb1 := cell_of (i := 0) A2.tab.hpb rfl
        have rp1 := A2.tab.rp.get hq
        have hrow := A2.tab.rows.row q (by omega)
        rw [tabXs_part hq] at hrow
        have hf := HNUM.out.fst hq
        have hplen : (partOf g cf q).length ≤ 1000000 := by
          have := partK_length cf g.length q
          rw [partK_all] at this
          have := HN.out
          omega
        have HCL := hid (clone_any hrow (List.length_pos_of_mem (List.mem_of_getElem? hf.2.2.1)) hplen)
        have HA2 := hid A2
        have HLE := hid hle
        clear hrow hf hplen A2 hle
        go_wp2_with fail
        refine HCL.out.mono ?_
        rintro e w3 ⟨u, rfl, hu, hb3⟩
        obtain ⟨ua, uc, rfl, _⟩ := ownsRow_view hu
        obtain ⟨a2, c2, w4, happ, A4⟩ := HA2.out.outStep (by have := HLP.out; omega) hu hb3
        rw [← HLP.out] at happ A4
        have rq4 := A4.tab.rq.get hq
        have hrr := A4.tab.rows.row (m + q) (by omega)
        rw [tabXs_read] at hrr
        obtain ⟨ra, rc, hrv, hrl⟩ := ownsRow_view hrr
        obtain ⟨rn, hrn⟩ : ∃ rn, rn = (readers (pairs g cf) q).length := ⟨_, rfl⟩
        have hrn2 : rn ≤ 1000000 := by
          have := readers_le (pairs g cf) q
          have := HM.out
          omega
        rw [← hrn] at hrv
        rw [hrv] at rq4
        have HRV := hid hrv
        have HRN := hid hrn
        have HA4 := hid A4
        clear hu hb3 pb1 rp1 HCL hrr hrv hrl hrn A4
        go_wp2_with (at_builtin; refine wpList_append_run rfl (.tmp 157) (.tmp 163) 22 rfl _ _ rfl rfl happ ?_)
        clear happ rq4
        go_loopw [170] (fun jv y => InnerRel w B wb ev n bw bl bo g cf ov s m pbx pr nbx nr rr hb vs L (.slice a2 (lp + 1) c2) (us ++ [.slice ua (partOf g cf q).length uc]) P q jv y) (fun jv _ => rn - (intOf jv).toNat)
        case atStart =>
          refine ⟨0, h', wants (pairs g cf) P, rfl, by omega, ?_, fun q' => ?_⟩
          · rw [List.map_append]
            exact HA4.out
          · rw [List.drop_zero]
            exact wants_split _ _ _ _ hqP
        case round =>
          obtain ⟨j, hc, nd, rfl, hj, A5, hnd⟩ := hrel
          have HA5 := hid A5
          have HND := hid hnd
          rw [← HRN.out] at hj
          by_cases hjn : j < rn
          · obtain ⟨r, hr⟩ : ∃ r, (readers (pairs g cf) q)[j]? = some r := ⟨_, List.getElem?_eq_getElem (HRN.out ▸ hjn)⟩
            have hrm : (r, q) ∈ pairs g cf := by
              have := List.mem_of_getElem? hr
              unfold readers at this
              obtain ⟨⟨a, b⟩, h1, rfl⟩ := List.mem_map.1 this
              simp only [List.mem_filter, beq_iff_eq] at h1
              obtain ⟨h1, rfl⟩ := h1
              exact h1
            obtain ⟨k1, k2, he1, hk1, hk2, hne⟩ := mem_pairs.1 hrm
            have hrlt : r < m := by rw [← hk1]; exact HNUM.out.lt k1 (edge_lt he1)
            have hrP : r ∉ P ++ [q] := by
              simp only [List.mem_append, List.mem_singleton, not_or]
              exact ⟨fun hm' => hqP (HO.out.closed r hm' q hrm), hne⟩
            obtain ⟨y, hy⟩ : ∃ y, nd r = y + 1 := by
              have h1 := hnd r
              have h2 : (readers (pairs g cf) q).drop j = r :: (readers (pairs g cf) q).drop (j + 1) := by
                rw [← List.getElem_cons_drop (HRN.out ▸ hjn)]
                rw [List.getElem?_eq_getElem (HRN.out ▸ hjn)] at hr
                rw [Option.some.inj hr]
              rw [h2, List.count_cons_self] at h1
              exact ⟨nd r - 1, by omega⟩
            have hy2 : y ≤ 1000000 := by
              have h1 := hnd r
              have := wants_split (pairs g cf) P q r hqP
              have := wants_le (pairs g cf) P r
              have : ((readers (pairs g cf) q).drop j).count r ≤ (readers (pairs g cf) q).count r := (List.drop_sublist j _).count_le r
              have := HM.out
              omega
            have hrr := A5.tab.rows.row (m + q) (by omega)
            rw [tabXs_read, HRV.out] at hrr
            obtain ⟨gb, rfl⟩ : ∃ gb, ra = some ⟨gb, 0, none⟩ := by
              rcases hrr.2 with ⟨_, h0⟩ | ⟨gb, cap, cur, hv, _⟩
              · rw [← HRN.out] at h0; omega
              · injection hv with hv _ _
                exact ⟨gb, hv⟩
            have rc1 := hrr.cells (g := gb) rfl j (.int .i64 (r : Int)) (by simp [natCells, hr])
            rw [add_zero_off, Nat.zero_add] at rc1
            have nb1 := cell_of (i := 0) A5.tab.hnb rfl
            have nr1 := A5.tab.rn.get hrlt
            have nf1 := A5.tab.rn.free (i := r)
            have ny : natI nd r = (y : Int) + 1 := by simp [natI, hy]
            rw [ny] at nr1
            have A6 := A5.need r y
            have hry : upd nd r y r = y := upd_same _ _ _
            have hML := hid (may_last A6 HNUM.out HN.out hn2 hm hrlt (by
              rintro v ⟨q', hq', _, _, rfl⟩
              have := (HNUM.out.fst hq').1
              have := HN.out
              omega) (by
              rintro _ ⟨q', hq', _, h3, h4⟩
              have := HNUM.out.fst_inj hrlt hq' h4
              subst this
              omega) (by rw [hry]; omega))
            have hdrop : (readers (pairs g cf) q).drop j = r :: (readers (pairs g cf) q).drop (j + 1) := by
              rw [← List.getElem_cons_drop (HRN.out ▸ hjn)]
              rw [List.getElem?_eq_getElem (HRN.out ▸ hjn)] at hr
              rw [Option.some.inj hr]
            have fin := hid (fun (x' : World) (h2 : Nat) (A7 : LastAt w x' B wb ev n bw bl bo g cf ov s m pbx pr nbx nr rr hb vs (upd nd r y) h2 (fun v => (upd nd r y r = 0 ∧ v = fstOf g cf r) ∨ SetOf g cf m (P ++ [q]) nd v) L (.slice a2 (lp + 1) c2) (us ++ [.slice ua (partOf g cf q).length uc]) ((P ++ [q]).map (partOf g cf))) =>
              (show InnerRel w B wb ev n bw bl bo g cf ov s m pbx pr nbx nr rr hb vs L (.slice a2 (lp + 1) c2) (us ++ [.slice ua (partOf g cf q).length uc]) P q (.int .i64 ((j : Int) + 1)) x' from by
                refine ⟨j + 1, h2, upd nd r y, by simp, by rw [← HRN.out]; omega, ?_, fun q' => ?_⟩
                · have := A7.heapStep (Chg.refl _ _) (A7.heap.alike (S' := SetOf g cf m (P ++ [q]) (upd nd r y)) (fun v => by
                    constructor
                    · rintro (⟨h1, rfl⟩ | ⟨q', b1, b2, b3, rfl⟩)
                      · exact ⟨r, hrlt, hrP, h1, rfl⟩
                      · refine ⟨q', b1, b2, ?_, rfl⟩
                        rw [upd_far _ _ (fun e => by subst e; omega)]
                        exact b3
                    · rintro ⟨q', b1, b2, b3, rfl⟩
                      by_cases e : q' = r
                      · subst e
                        exact .inl ⟨b3, rfl⟩
                      · rw [upd_far _ _ e] at b3
                        exact .inr ⟨q', b1, b2, b3, rfl⟩))
                  exact this
                · have h1 := HND.out q'
                  rw [hdrop] at h1
                  by_cases e : q' = r
                  · subst e
                    rw [List.count_cons_self] at h1
                    rw [upd_same]
                    omega
                  · rw [List.count_cons_of_ne (fun e2 => e e2.symm)] at h1
                    rw [upd_far _ _ e]
                    exact h1))
            clear A5 A6 hnd hr hrm he1 hk1 hk2 hne hrP hy hrr ny hry hdrop
            go_wp2_with fail
            refine hML.out.mono ?_
            rintro e x' ⟨rfl, h2, A7⟩
            have RR := hid (fin.out x' h2 A7)
            clear A7 fin hML
            go_wp2_with fail
            go_roundw
            case rel => exact RR.out
            case measure => simp [intOf]; omega
          · have RR := hid (show LastRel w B wb ev n bw bl bo g cf ov s m pbx pr nbx nr rr hb vs L (.slice a2 (lp + 1) c2) wr from by
              refine ⟨P ++ [q], us ++ [.slice ua (partOf g cf q).length uc], hc, ?_, HO.out.more hq hqP hnd0 HLE.out⟩
              have e : nd = wants (pairs g cf) (P ++ [q]) := by
                funext q'
                rw [HND.out q', List.drop_eq_nil_of_le (by rw [← HRN.out]; omega)]
                simp
              rw [e] at A5
              exact A5)
            have hroom : lp < m := by
              have := HO.out.room hq hqP
              rw [HLP.out, List.length_map]
              exact this
            clear A5 hnd
            go_wp2_with fail
            go_roundw
            case rel => exact RR.out
            case measure => simp [lenOfV]; omega)

end Go.Proofs.Ytagfgbmaibadjaa
