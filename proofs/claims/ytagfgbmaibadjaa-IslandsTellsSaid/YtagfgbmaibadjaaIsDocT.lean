/- The document's own Parts: one is put out, and who reads it waits for one less. -/
import Derived.Test.YtagfgbmaibadjaaIsDocS
namespace Go.Proofs.Ytagfgbmaibadjaa
open Go.RowKit Go.Lib

theorem row_shape {w : World} {B : Nat} {v : Value} {l : List Nat} (h : w.ownsRow B 3 1 v l.length (natCells l)) : ∃ a cc, v = .slice a l.length cc ∧ l.length ≤ cc ∧ cc ≤ 9223372036854775807 ∧ ∀ (i x : Nat), l[i]? = some x → ∃ b, a = some ⟨b, 0, none⟩ := by
  rcases h.2 with ⟨rfl, h0⟩ | ⟨b, cap, cur, rfl, _, _, h3, h4, _⟩
  · refine ⟨none, 0, by rw [h0], by omega, by omega, fun i x hx => ?_⟩
    have := (List.getElem?_eq_some_iff.1 hx).1
    omega
  · unfold maxLen at h4
    exact ⟨_, cap, rfl, h3, h4, fun i x _ => ⟨b, rfl⟩⟩
theorem row_at {w : World} {B n cc b i x : Nat} {v : Value} {l : List Nat} (h : w.ownsRow B 3 1 v l.length (natCells l)) (hv : v = .slice (some ⟨b, 0, none⟩) n cc) (hx : l[i]? = some x) : w.cell? ⟨b, i, none⟩ = some (.int .i64 (x : Int)) := by
  have := h.cells (g := b) (by rw [hv]; rfl) i (.int .i64 (x : Int)) (by simp [natCells, hx])
  rw [add_zero_off, Nat.zero_add] at this
  exact this
theorem app_slice {w : World} {L k : Nat} {vo u : Value} {us : List Value} (O : w.ownsRow L 24 1 vo k us) (hL : L ≤ w.heap.size) (hk : k ≤ 1000000) (hu : ∃ a n c, u = .slice a n c) :
    ∃ a c w2, (Builtin.append_ #[22, 22] 22 #[vo, .slice (some ⟨w.heap.size, 0, none⟩) 1 1]).run Try.prog (w.alloc (.cells #[u] 24)) = .ok (.slice a (k + 1) c) w2 ∧ w2.ownsRow L 24 1 (.slice a (k + 1) c) (k + 1) (us ++ [u]) ∧ Chg (own vo) w w2 := by
  obtain ⟨ua, un, uc, rfl⟩ := hu
  obtain ⟨i0, hi, hz0, hz1, hz2⟩ := info_parts Try.info24
  obtain ⟨v', w2, h1, h2, h3, _, h5⟩ := run_append_own_at (P := Try.prog) (w.alloc (.cells #[.slice ua un uc] 24)) L 22 22 24 i0 (.slice none 0 0) 1 24 Try.underlying22 hi hz0 hz1 hz2 rfl (by decide) vo k us (O.alloc _)
    ⟨w.heap.size, 0, none⟩ 1 1 [.slice ua un uc] rfl (cell_one_new2 rfl _ _) (by intro u hu; simp at hu; subst hu; rfl) (by unfold maxLen; omega) (by omega) (by simp; omega)
  obtain ⟨a, c, rfl, _⟩ := ownsRow_view h2
  exact ⟨a, c, w2, h1, by simpa using h2, ((Chg.refl _ w).alloc _).grown h3 (fun k hk => .inl (by simp [own, hk]))⟩

/-- what stands while islands are put out -/
structure DocAt (w x : World) (B n m fb pb nb xb tb L : Nat) (vs vsb : Nat → Value) (g : Gr) (c nd : Nat → Nat) (f : Nat → Bool) (P : List Nat) (ov : Value) : Prop where
  rf : RowF x fb n (fun i => (c i : Int))
  rp : RowV x pb m vs
  rv : Rows3 x B m vs (partOf g c) [nb]
  rb : RowV x xb n vsb
  rvb : Rows3 x xb n vsb (backOf g) []
  rn : RowF x nb m (fun q => (nd q : Int))
  rt : RowB x tb m f
  fn : fb ≠ nb
  nx : nb < xb
  low : fb < L ∧ pb < L ∧ xb < L ∧ nb < L ∧ tb < L
  lowv : ∀ p, p < m → ∀ b, (vs p).ownBlock = some b → b < L
  lowb : ∀ i, i < n → ∀ b, (vsb i).ownBlock = some b → b < L
  hL : L ≤ x.heap.size
  hw : w.heap.size ≤ nb ∧ w.heap.size ≤ tb
  bel : Below w.heap.size w x
  out : x.ownsRow L 24 1 ov P.length (P.map vs)

theorem DocAt.step {w x x' : World} {B n m fb pb nb xb tb L : Nat} {vs vsb : Nat → Value} {g : Gr} {c nd nd' : Nat → Nat} {f f' : Nat → Bool} {P P' : List Nat} {ov ov' : Value} {F : List Nat} (T : DocAt w x B n m fb pb nb xb tb L vs vsb g c nd f P ov) (ch : Chg F x x') (hF : ∀ b ∈ F, b = nb ∨ b = tb ∨ L ≤ b)
    (rn : RowF x' nb m (fun q => (nd' q : Int))) (rt : RowB x' tb m f') (out : x'.ownsRow L 24 1 ov' P'.length (P'.map vs)) : DocAt w x' B n m fb pb nb xb tb L vs vsb g c nd' f' P' ov' := by
  obtain ⟨l1, l2, l3, l4, l5⟩ := T.low
  have hsz := T.hL
  have nF : ∀ (y : Nat) (cs : Array Value) (t : TypeId), y < L → y ≠ nb → x.heap[y]? = some (.cells cs t (0, 0)) → t ≠ 4 → y ∉ F := fun y cs t h1 h2 h3 h4 hm => by
    rcases hF y hm with rfl | rfl | h5
    · exact h2 rfl
    · exact heap_ne h3 T.rt h4 rfl
    · omega
  refine ⟨T.rf.chg ch (nF _ _ _ l1 T.fn T.rf (by decide)), T.rp.chg ch (nF _ _ _ l2 (heap_ne T.rp T.rn (by decide)) T.rp (by decide)), T.rv.chg ch (fun b hb => ?_), T.rb.chg ch (nF _ _ _ l3 (heap_ne T.rb T.rn (by decide)) T.rb (by decide)), T.rvb.chg ch (fun b hb => .inr (fun p hp e => ?_)), rn, rt, T.fn, T.nx, T.low, T.lowv, T.lowb, Nat.le_trans T.hL ch.size, T.hw, T.bel.trans (ch.below (fun b hb => ?_) ?_), out⟩
  · by_cases e : b = nb
    · exact .inl (by simp [e])
    · refine .inr (fun p hp e2 => ?_)
      obtain ⟨cur, hc⟩ := owns_cells (T.rv.row p hp) e2
      exact nF _ _ _ (T.lowv p hp b e2) e hc (by decide) hb
  · obtain ⟨cur, hc⟩ := owns_cells (T.rvb.row p hp) e
    have h1 := ((T.rvb.row p hp).lt b e).1
    have := T.nx
    exact nF _ _ _ (T.lowb p hp b e) (by omega) hc (by decide) hb
  · have := T.hw
    rcases hF b hb with rfl | rfl | h5 <;> omega
  · have := T.hw; omega
section
variable {w x : World} {B n m fb pb nb xb tb L : Nat} {vs vsb : Nat → Value} {g : Gr} {c nd nd' : Nat → Nat} {f : Nat → Bool} {P : List Nat} {ov : Value}
theorem DocAt.there (T : DocAt w x B n m fb pb nb xb tb L vs vsb g c nd f P ov) (q : Nat) : DocAt w (x.setCell ⟨tb, q, none⟩ (.bool true)) B n m fb pb nb xb tb L vs vsb g c nd (upd f q true) P ov := by
  have ch : Chg [tb] x (x.setCell ⟨tb, q, none⟩ (.bool true)) := (Chg.refl _ x).setCell (by simp) _
  refine T.step ch (by simp) (T.rn.chg ch (by simpa using heap_ne T.rn T.rt (by decide))) (T.rt.set true) (ch.owns T.out (fun b hb hm => ?_))
  have h1 := (T.out.lt b hb).1
  have := T.low
  simp only [List.mem_singleton] at hm
  omega
theorem DocAt.need (T : DocAt w x B n m fb pb nb xb tb L vs vsb g c nd f P ov) {q k : Nat} (h : upd nd q k = nd') : DocAt w (x.setCell ⟨nb, q, none⟩ (.int .i64 (k : Int))) B n m fb pb nb xb tb L vs vsb g c nd' f P ov := by
  have ch : Chg [nb] x (x.setCell ⟨nb, q, none⟩ (.int .i64 (k : Int))) := (Chg.refl _ x).setCell (by simp) _
  refine T.step ch (by simp) ?_ (T.rt.chg ch (by simpa using heap_ne T.rt T.rn (by decide))) (ch.owns T.out (fun b hb hm => ?_))
  · have h1 := T.rn.set (k := q) (k : Int)
    have e : upd (fun q => (nd q : Int)) q (k : Int) = fun q => (nd' q : Int) := by
      funext p
      rw [← h]
      unfold upd
      by_cases e : p = q
      · simp [e]
      · simp [e]
    rw [e] at h1
    exact h1
  · have h1 := (T.out.lt b hb).1
    have := T.low
    simp only [List.mem_singleton] at hm
    omega
end

theorem ndU_le {g : Gr} {c : Nat → Nat} {P : List Nat} {p y q : Nat} {rest : List Nat} : ndU g c P p rest q ≤ ndU g c P p (y :: rest) q := by
  unfold ndU
  rw [List.countP_cons]
  omega
def DocInn (w : World) (B n m fb pb nb xb tb L : Nat) (vs vsb : Nat → Value) (g : Gr) (c : Nat → Nat) (P : List Nat) (q : Nat) (ov : Value) (iv : Value) (wr : World) : Prop :=
  ∃ i : Nat, iv = .int .i64 (i : Int) ∧ i ≤ (partOf g c q).length ∧ DocAt w wr B n m fb pb nb xb tb L vs vsb g c (ndU g c P q (((partOf g c q).drop i).flatMap (backOf g))) (fun p => (P ++ [q]).contains p) (P ++ [q]) ov ∧ ∀ p, ndU g c P q (((partOf g c q).drop i).flatMap (backOf g)) p ≤ 1000000
def DocIn2 (w : World) (B n m fb pb nb xb tb L : Nat) (vs vsb : Nat → Value) (g : Gr) (c : Nat → Nat) (P : List Nat) (q i a : Nat) (ov : Value) (kv : Value) (wr : World) : Prop :=
  ∃ k : Nat, kv = .int .i64 (k : Int) ∧ k ≤ (backOf g a).length ∧ DocAt w wr B n m fb pb nb xb tb L vs vsb g c (ndU g c P q ((backOf g a).drop k ++ ((partOf g c q).drop (i + 1)).flatMap (backOf g))) (fun p => (P ++ [q]).contains p) (P ++ [q]) ov ∧ ∀ p, ndU g c P q ((backOf g a).drop k ++ ((partOf g c q).drop (i + 1)).flatMap (backOf g)) p ≤ 1000000

set_option maxRecDepth 20000 in
set_option maxHeartbeats 4000000 in
theorem doc_tail {w x : World} {B n m fb pb nb xb tb L q k0 oc ec : Nat} {ao oa : Option Addr} {vs vsb : Nat → Value} {g : Gr} {c : Nat → Nat} {P : List Nat} {Q : Exit → Act → World → Prop} (v1 v2 v3 v5 v8 v9 v14 v15 v16 v17 v18 v19 v20 v21 v22 v23 v24 v25 v26 v27 v28 v29 v30 v31 v32 v33 v34 v35 v36 v37 v38 v39 v40 v41 v42 v43 v44 v45 v46 v47 v48 v49 v50 v51 v52 v53 v54 v55 v56 v57 v58 v59 v60 v61 v62 v63 v64 v65 v66 v67 v68 v69 v70 v71 v72 v73 v74 v75 v76 v77 v78 v79 v80 v81 v82 v83 v84 v85 v86 v87 v88 v89 v90 v91 v92 v93 v94 v95 v96 v97 v98 v99 v100 v101 v102 v103 v104 v105 v106 v107 v108 v109 v110 v111 v112 v113 v114 v115 v116 v117 v118 v119 v120 v121 v122 v123 v124 v125 v126 v127 v128 v129 v130 v131 v132 v133 v134 v135 v136 v137 v138 v139 v140 v141 v142 v143 v144 v145 v146 v147 v148 v149 v150 v151 v152 v153 v154 v155 v156 v157 v158 v159 v160 v161 v162 v163 v164 v165 v166 v167 v168 v169 v170 v171 v172 v173 v174 v175 v176 v177 v178 v179 v180 v181 v182 v183 v184 v185 v186 v187 : Value) (hn : n = g.length) (_hn2 : n ≤ 2000) (_hmn : m ≤ n) (hq : q < m) (hqP : q ∉ P) (R : RightG g) (hk0 : k0 = P.length) (hk1 : k0 ≤ 2000) (hM : (pairs g c).length ≤ 1000000) (hc : ∀ i, i < n → c i < m)
    (T : DocAt w x B n m fb pb nb xb tb L vs vsb g c (wants (pairs g c) P) (fun p => P.contains p) P (.slice oa k0 oc))
    (hend : ∀ (oa2 : Option Addr) (oc2 : Nat) (y : World) (u15 u16 u17 u125 u126 u127 u128 u129 u130 u131 u132 u133 u134 u135 u136 u137 u138 u139 u140 u141 u142 u143 u144 u145 u146 u147 u148 u149 u150 u151 u152 u153 u154 u155 u156 u157 u158 u159 u160 u161 u162 u163 u164 u165 u166 u167 u168 u169 u170 u171 u172 u173 u174 u175 u176 u177 u178 u179 u180 u181 u182 u183 u184 u185 u186 : Value), DocAt w y B n m fb pb nb xb tb L vs vsb g c (wants (pairs g c) (P ++ [q])) (fun p => (P ++ [q]).contains p) (P ++ [q]) (.slice oa2 (k0 + 1) oc2) → Q .normal { tmps := #[.slice ao n ec, v1, v2, v3, .slice (some ⟨fb, 0, none⟩) n n, v5, .slice (some ⟨pb, 0, none⟩) m m, .slice (some ⟨nb, 0, none⟩) m m, v8, v9, .slice (some ⟨xb, 0, none⟩) n n, .slice (some ⟨tb, 0, none⟩) m m, .slice oa2 (k0 + 1) oc2, .int .i64 (q : Int), v14, u15, u16, u17, v18, v19, v20, v21, v22, v23, v24, v25, v26, v27, v28, v29, v30, v31, v32, v33, v34, v35, v36, v37, v38, v39, v40, v41, v42, v43, v44, v45, v46, v47, v48, v49, v50, v51, v52, v53, v54, v55, v56, v57, v58, v59, v60, v61, v62, v63, v64, v65, v66, v67, v68, v69, v70, v71, v72, v73, v74, v75, v76, v77, v78, v79, v80, v81, v82, v83, v84, v85, v86, v87, v88, v89, v90, v91, v92, v93, v94, v95, v96, v97, v98, v99, v100, v101, v102, v103, v104, v105, v106, v107, v108, v109, v110, v111, v112, v113, v114, v115, v116, v117, v118, v119, v120, v121, v122, v123, v124, u125, u126, u127, u128, u129, u130, u131, u132, u133, u134, u135, u136, u137, u138, u139, u140, u141, u142, u143, u144, u145, u146, u147, u148, u149, u150, u151, u152, u153, u154, u155, u156, u157, u158, u159, u160, u161, u162, u163, u164, u165, u166, u167, u168, u169, u170, u171, u172, u173, u174, u175, u176, u177, u178, u179, u180, u181, u182, u183, u184, u185, u186, v187], defers := [] } y) :
    Code.wp Try.prog tail14 Q { tmps := #[.slice ao n ec, v1, v2, v3, .slice (some ⟨fb, 0, none⟩) n n, v5, .slice (some ⟨pb, 0, none⟩) m m, .slice (some ⟨nb, 0, none⟩) m m, v8, v9, .slice (some ⟨xb, 0, none⟩) n n, .slice (some ⟨tb, 0, none⟩) m m, .slice oa k0 oc, .int .i64 (q : Int), v14, v15, v16, v17, v18, v19, v20, v21, v22, v23, v24, v25, v26, v27, v28, v29, v30, v31, v32, v33, v34, v35, v36, v37, v38, v39, v40, v41, v42, v43, v44, v45, v46, v47, v48, v49, v50, v51, v52, v53, v54, v55, v56, v57, v58, v59, v60, v61, v62, v63, v64, v65, v66, v67, v68, v69, v70, v71, v72, v73, v74, v75, v76, v77, v78, v79, v80, v81, v82, v83, v84, v85, v86, v87, v88, v89, v90, v91, v92, v93, v94, v95, v96, v97, v98, v99, v100, v101, v102, v103, v104, v105, v106, v107, v108, v109, v110, v111, v112, v113, v114, v115, v116, v117, v118, v119, v120, v121, v122, v123, v124, v125, v126, v127, v128, v129, v130, v131, v132, v133, v134, v135, v136, v137, v138, v139, v140, v141, v142, v143, v144, v145, v146, v147, v148, v149, v150, v151, v152, v153, v154, v155, v156, v157, v158, v159, v160, v161, v162, v163, v164, v165, v166, v167, v168, v169, v170, v171, v172, v173, v174, v175, v176, v177, v178, v179, v180, v181, v182, v183, v184, v185, v186, v187], defers := [] } x := by
  have HE := hid hend
  have HN := hid hn
  have HR := hid R
  have HC := hid hc
  have HP := hid hqP
  have hbd : ∀ p, wants (pairs g c) P p ≤ 1000000 := fun p => Nat.le_trans (wants_le _ _ _) hM
  obtain ⟨pa, pc, hvq, pl1, pl2, pl3⟩ := row_shape (T.rv.row q hq)
  obtain ⟨pl, hpl⟩ : ∃ pl, pl = (partOf g c q).length := ⟨_, rfl⟩
  rw [← hpl] at hvq pl1
  have hpln : pl ≤ n := by
    have h1 : (partOf g c q).length ≤ (List.range g.length).length := List.length_filter_le _ _
    rw [List.length_range] at h1
    omega
  have HPL := hid hpl
  have HVQ := hid hvq
  have HPL3 := hid pl3
  have T1 := T.there q
  have e1 : upd (fun p => P.contains p) q true = fun p => (P ++ [q]).contains p := by
    funext p
    unfold upd
    by_cases e : p = q
    · subst e; simp
    · rw [if_neg e, Bool.eq_iff_iff]; simp [e]
  rw [e1] at T1
  have f1 := T.rt.free (i := q)
  have g1 := T.rt.get hq
  have g2 := T1.rp.get hq
  rw [hvq] at g2
  have hOB := T1.out
  rw [← hk0] at hOB
  obtain ⟨oa2, oc2, w2, happ, O2, ch2⟩ := app_slice hOB T1.hL (by omega) ⟨pa, pl, pc, hvq⟩
  have T2 : DocAt w w2 B n m fb pb nb xb tb L vs vsb g c (wants (pairs g c) P) (fun p => (P ++ [q]).contains p) (P ++ [q]) (.slice oa2 (k0 + 1) oc2) := by
    have hF : ∀ b ∈ own (Value.slice oa k0 oc), L ≤ b := fun b hb => by
      simp only [own, Option.mem_toList] at hb
      exact (hOB.lt b hb).1
    have hlow := T1.low
    refine T1.step ch2 (fun b hb => .inr (.inr (hF b hb))) (T1.rn.chg ch2 (fun hm => ?_)) (T1.rt.chg ch2 (fun hm => ?_)) ?_
    · have := hF _ hm; omega
    · have := hF _ hm; omega
    · rw [List.length_append, List.map_append, ← hk0]
      exact O2
  rw [ndU_start HR.out hqP] at T2 hbd
  have RI := hid (show DocInn w B n m fb pb nb xb tb L vs vsb g c P q (.slice oa2 (k0 + 1) oc2) (.int .i64 0) w2 from ⟨0, rfl, Nat.zero_le _, T2, hbd⟩)
  rw [hvq] at happ
  have hsx : (x.setCell ⟨tb, q, none⟩ (.bool true)).heap.size = x.heap.size := by simp
  rw [hsx] at happ
  have HK0 := hid hk0
  clear hend hn R hc hqP hbd hk0 hvq pl3 hpl T T1 e1 hOB O2 ch2 T2 hsx
  simp only [tail14, round14, rest14, frontSeq, inBlk, inLp, sndSeq, Try.f14, Option.getD_some]
  go_wp2_with (at_builtin; refine wpList_append_run rfl (.tmp 128) (.tmp 133) 22 rfl _ _ rfl rfl happ ?_)
  clear g1 g2 f1 happ
  go_loopw [15] (fun iv y => DocInn w B n m fb pb nb xb tb L vs vsb g c P q (.slice oa2 (k0 + 1) oc2) iv y) (fun iv _ => pl - (intOf iv).toNat)
  case atStart => exact RI.out
  case round =>
    clear RI
    obtain ⟨i, rfl, hi, T, hbd⟩ := hrel
    rw [← HPL.out] at hi
    have g2 := T.rp.get hq
    rw [HVQ.out] at g2
    by_cases hgo : i < pl
    · obtain ⟨a, ha⟩ : ∃ a, (partOf g c q)[i]? = some a := ⟨_, List.getElem?_eq_getElem (by have := HPL.out; omega)⟩
      obtain ⟨bq, hbq⟩ := HPL3.out i a ha
      subst hbq
      have g3 := row_at (T.rv.row q hq) HVQ.out ha
      have han : a < n := by have := (mem_part.1 (List.mem_of_getElem? ha)).1; have := HN.out; omega
      have g4 := T.rb.get han
      obtain ⟨ba, bc, hva, bl1, bl2, bl3⟩ := row_shape (T.rvb.row a han)
      obtain ⟨bl, hbl⟩ : ∃ bl, bl = (backOf g a).length := ⟨_, rfl⟩
      rw [← hbl] at hva bl1
      rw [hva] at g4
      have hdrop : (partOf g c q).drop i = a :: (partOf g c q).drop (i + 1) := by
        obtain ⟨hl1, e⟩ := List.getElem?_eq_some_iff.1 ha
        rw [← List.getElem_cons_drop hl1, e]
      have RK := hid (show DocIn2 w B n m fb pb nb xb tb L vs vsb g c P q i a (.slice oa2 (k0 + 1) oc2) (.int .i64 0) wr from ⟨0, rfl, Nat.zero_le _, by
        rw [hdrop, List.flatMap_cons] at T
        exact T, by
        rw [hdrop, List.flatMap_cons] at hbd
        exact hbd⟩)
      have HBL := hid hbl
      have HVA := hid hva
      have HBL3 := hid bl3
      clear T ha hva hbl bl3 hdrop hbd
      go_wp2_with fail
      clear g2 g3 g4
      go_loopw [17] (fun kv y => DocIn2 w B n m fb pb nb xb tb L vs vsb g c P q i a (.slice oa2 (k0 + 1) oc2) kv y) (fun kv _ => bl - (intOf kv).toNat)
      case atStart => exact RK.out
      case round =>
        clear RK
        obtain ⟨k, rfl, hk, T, hbd⟩ := hrel
        rw [← HBL.out] at hk
        have g4 := T.rb.get han
        rw [HVA.out] at g4
        by_cases hkb : k < bl
        · obtain ⟨u, hu⟩ : ∃ u, (backOf g a)[k]? = some u := ⟨_, List.getElem?_eq_getElem (by have := HBL.out; omega)⟩
          obtain ⟨bb, hbb⟩ := HBL3.out k u hu
          subst hbb
          have g5 := row_at (T.rvb.row a han) HVA.out hu
          have hun : u < n := by have := edge_lt (mem_back.1 (List.mem_of_getElem? hu)); have := HN.out; omega
          have g6 := T.rf.get hun
          obtain ⟨cu, hcu⟩ : ∃ cu, cu = c u := ⟨_, rfl⟩
          rw [← hcu] at g6
          have hcm : cu < m := by rw [hcu]; exact HC.out u hun
          have hdrop : (backOf g a).drop k = u :: (backOf g a).drop (k + 1) := by
            obtain ⟨hl1, e⟩ := List.getElem?_eq_some_iff.1 hu
            rw [← List.getElem_cons_drop hl1, e]
          have hk2 : k + 1 ≤ (backOf g a).length := by have := HBL.out; omega
          rw [hdrop, List.cons_append] at T hbd
          have hbd2 := hbd cu
          have hbd3 := fun p => Nat.le_trans (ndU_le (y := u)) (hbd p)
          clear hbd
          by_cases he : cu = q
          · rw [ndU_skip (by rw [← hcu]; exact he)] at T
            have RR := hid (show DocIn2 w B n m fb pb nb xb tb L vs vsb g c P q i a (.slice oa2 (k0 + 1) oc2) (.int .i64 ((k : Int) + 1)) wr from ⟨k + 1, by simp, hk2, T, hbd3⟩)
            clear T hu hdrop hcu hbd2 hbd3
            rw [he] at g6
            go_wp2_with fail
            go_roundw
            case rel => exact RR.out
            case measure => simp [intOf]; omega
          · obtain ⟨z, hz, hup⟩ := ndU_take (g := g) (c := c) (P := P) (p := q) (y := u) (rest := (backOf g a).drop (k + 1) ++ ((partOf g c q).drop (i + 1)).flatMap (backOf g)) (by rw [← hcu]; exact he)
            rw [← hcu] at hz hup
            have g7 := T.rn.get hcm
            have f7 := T.rn.free (i := cu)
            simp only [hz] at g7
            have T' := T.need hup
            have hzb : z ≤ 1000000 := by rw [hz] at hbd2; omega
            have hA : ((z + 1 : Nat) : Int) - 1 = (z : Int) := by omega
            have RR := hid (show DocIn2 w B n m fb pb nb xb tb L vs vsb g c P q i a (.slice oa2 (k0 + 1) oc2) (.int .i64 ((k : Int) + 1)) (wr.setCell ⟨nb, cu, none⟩ (.int .i64 (z : Int))) from ⟨k + 1, by simp, hk2, T', hbd3⟩)
            have hne : ¬ ((cu : Int) = (q : Int)) := by omega
            clear T T' hu hdrop hcu hup hz hbd2 hbd3
            go_wp2_with fail
            go_roundw
            case rel => exact RR.out
            case measure => simp [intOf]; omega
        · have RR := hid (show DocInn w B n m fb pb nb xb tb L vs vsb g c P q (.slice oa2 (k0 + 1) oc2) (.int .i64 ((i : Int) + 1)) wr from ⟨i + 1, by simp, by have := HPL.out; omega, by
            rw [List.drop_eq_nil_of_le (by have := HBL.out; omega), List.nil_append] at T
            exact T, by
            rw [List.drop_eq_nil_of_le (by have := HBL.out; omega), List.nil_append] at hbd
            exact hbd⟩)
          clear T hbd
          go_wp2_with fail
          go_roundw
          case rel => exact RR.out
          case measure => simp [intOf]; omega
    · have RR := hid (show DocAt w wr B n m fb pb nb xb tb L vs vsb g c (wants (pairs g c) (P ++ [q])) (fun p => (P ++ [q]).contains p) (P ++ [q]) (.slice oa2 (k0 + 1) oc2) from by
        rw [List.drop_eq_nil_of_le (by have := HPL.out; omega), List.flatMap_nil, ndU_end] at T
        exact T)
      clear T hbd
      go_wp2_with fail
      exact HE.out _ _ _ _ _ _ _ _ _ _ _ _ _ _ _ _ _ _ _ _ _ _ _ _ _ _ _ _ _ _ _ _ _ _ _ _ _ _ _ _ _ _ _ _ _ _ _ _ _ _ _ _ _ _ _ _ _ _ _ _ _ _ _ _ _ _ _ _ RR.out

end Go.Proofs.Ytagfgbmaibadjaa
