/- Contracts of index.those and Meets. No condition. Contracts of ref.Area and of the finder's one, at references of the first column. No condition. Contract of the finder's one, at references of the first column. No condition. The finder's walk over a tree, at a reference or a range. No condition. -/
import Derived.Test.YtpcjfgihglfdgaaGreatDoorKChNear
import Derived.Test.YtpcjfgihglfdgaaGreatDoorKChExp2
import Derived.Test.YtpcjfgihglfdgaaGreatDoorKSpName
import Derived.Deep.MidRow

namespace Go.Proofs.YtpcjfgihglfdgaaGreatDoor
open Go.RowKit Go.Lib Go.Maps
attribute [local go_sem] Oper.semAt_some wide_fn

theorem ids_few (r R j : Nat) (hR : R = 1 ∨ R = 2) : idsOf r R j = [] ∨ (∃ x, idsOf r R j = [x]) ∨ ∃ x y, idsOf r R j = [x, y] ∧ x < y := by
  have e0 : idsOf r 0 j = [] := rfl
  rcases hR with rfl | rfl
  · by_cases h0 : r + 0 < j
    · rw [idsOf_yes h0, e0]; exact .inr (.inl ⟨_, rfl⟩)
    · rw [idsOf_no h0, e0]; exact .inl rfl
  · by_cases h1 : r + 1 < j
    · rw [idsOf_yes h1, idsOf_yes (show r + 0 < j by omega), e0]; exact .inr (.inr ⟨_, _, rfl, by omega⟩)
    · rw [idsOf_no h1]
      by_cases h0 : r + 0 < j
      · rw [idsOf_yes h0, e0]; exact .inr (.inl ⟨_, rfl⟩)
      · rw [idsOf_no h0, e0]; exact .inl rfl
theorem IntOwn.few {w : World} {B : Nat} {v : Value} {l : List Int} (h : IntOwn w B v l) (hl : l = [] ∨ (∃ x, l = [x]) ∨ ∃ x y, l = [x, y] ∧ x < y) : FewV w v l.length := by
  obtain ⟨ao, c, b, off, h1, h2, h3⟩ := h.read
  rw [List.length_map] at h1
  rcases hl with rfl | ⟨x, rfl⟩ | ⟨x, y, rfl, hxy⟩
  · exact ⟨ao, c, h1, .inl rfl, fun h => by cases h⟩
  · exact ⟨ao, c, h1, .inr (.inl rfl), fun h => by cases h⟩
  · refine ⟨ao, c, h1, .inr (.inr rfl), fun _ => ?_⟩
    have a0 := h3 0 [.int .i64 x] rfl
    have a1 := h3 1 [.int .i64 y] rfl
    exact ⟨b, off, x, y, a0.1, by simpa using a0.2 0 _ rfl, by simpa using a1.2 0 _ rfl, hxy⟩
theorem Other.cells {W : World} {x : Nat} {cs : Array Value} {t : TypeId} {fr : Nat × Nat} (h : W.heap[x]? = some (.cells cs t fr)) (ht : t ≠ 188) : Other W x := by
  constructor
  · intro es c he
    rw [h] at he
    cases he
  · intro cs' fr' he
    rw [h] at he
    simp only [Option.some.injEq, Obj.cells.injEq] at he
    exact ht he.2.1
theorem Other.loop {W : World} {x : Nat} {l : Loop} (h : W.heap[x]? = some (.loop l)) : Other W x := by
  constructor
  · intro es c he
    rw [h] at he
    cases he
  · intro cs' fr' he
    rw [h] at he
    cases he
section
variable {F : Fence} {m : Nat} {P : Program} {w : World} {ops : Array Oper} {rest : List Oper} {o : Oper} {a : Act} {Q : Exit → Act → World → Prop}
/-- append by a run equation, as one step of a fenced walk -/
theorem wpListIn_append_run (hgd : o.guard = none) (s x : Operand) (t : TypeId) (ho : o.op = .call { callee := .builtin .append, args := #[s, x], argTypes := #[t, t] }) (v u : Value) (hs : a.eval s = v) (hx : a.eval x = u) {v' : Value} {w' : World}
    (hr : (Builtin.append_ #[t, t] o.type #[v, u]).run P w = .ok v' w') (h : wpListIn F m P ops Q rest (a.put o.dst v') w') : wpListIn F m P ops Q (o :: rest) a w := by
  refine wpListIn_plain hgd fun K hK => ?_
  unfold Oper.wpIn
  refine ⟨?_, ?_⟩
  · simp [Oper.about, ho, resolve, Target.leads, Sem.run_pure]
  · rw [Oper.semAt_plain F _ _ (by rw [ho]; intro c hc'; cases hc')]
    simp [execOp, ho, resolve, invoke, builtin, hs, hx, hr, Result.andThen]
    exact hK _ _ h
end
def ThEnd (w : World) (l : List Int) (e : Ending) (w' : World) : Prop := ∃ v, e = .returned v ∧ IntOwn w' w.heap.size v l ∧ Below w.heap.size w w'
set_option maxRecDepth 20000 in
set_option maxHeartbeats 2000000 in
theorem those_any {w : World} {ib m1 m2 L j xb : Nat} {rs : Nat → Value} (X : Ix w ib m1 m2 L j rs) (r R : Nat) (hR : R = 1 ∨ R = 2) (hr : r + R ≤ 200) (hj : j ≤ 100) (hb : w.heap[xb]? = some (.cells (arCs r R) 62 (0, 0))) :
    Calls Tryz.prog 55 #[.pointer (some ⟨ib, 0, none⟩), arV (r : Int) (R : Int), .func (.func 56) #[] #[.pointer (some ⟨xb, 0, none⟩)]] w (ThEnd w (idsOf r R j)) := by
  have hsz := X.size
  have HX := hid X
  have HXB := hid hb
  obtain ⟨n, hn⟩ : ∃ n, n = w.heap.size := ⟨_, rfl⟩
  rw [← hn] at hsz
  have HN := hid hn
  have HW := hid (show ∀ rec : Loop, Ts w n ib m1 m2 L j rs r R xb rec [] (((((((w.alloc (.cells (arCs r R) 62)).alloc (.cells #[.func (.func 56) #[] #[.pointer (some ⟨xb, 0, none⟩)]] 129)).alloc (.cells #[sliceN] 42)).alloc (.cells #[.pointer (some ⟨ib, 0, none⟩)] 55)).alloc (.cells (arCs r R) 62)).alloc (.deferred (some []))).alloc (.loop rec)) sliceN from fun rec => by
    have nw : ∀ (z : World) (o : Obj) (k : Nat), z.heap.size = k → (z.alloc o).heap[k]? = some o := fun z o k h => by subst h; exact heap_alloc_new z o
    have bb : Below n w (((((((w.alloc (.cells (arCs r R) 62)).alloc (.cells #[.func (.func 56) #[] #[.pointer (some ⟨xb, 0, none⟩)]] 129)).alloc (.cells #[sliceN] 42)).alloc (.cells #[.pointer (some ⟨ib, 0, none⟩)] 55)).alloc (.cells (arCs r R) 62)).alloc (.deferred (some []))).alloc (.loop rec)) := by
      rw [hn]
      exact (((((((Chg.refl [] w).alloc _).alloc _).alloc _).alloc _).alloc _).alloc _).alloc _ |>.nil_below
    exact ⟨X.below ⟨bb.os, bb.tape, bb.output, bb.size, fun k hk => bb.block k (by omega)⟩, bb, heap_alloc_keep (heap_alloc_keep (heap_alloc_keep (heap_alloc_keep (heap_alloc_keep (nw _ _ _ (by simp; omega)) _) _) _) _) _,
      heap_alloc_keep (heap_alloc_keep (heap_alloc_keep (heap_alloc_keep (nw _ _ _ (by simp; omega)) _) _) _) _, heap_alloc_keep (heap_alloc_keep (heap_alloc_keep (nw _ _ _ (by simp; omega)) _) _) _,
      heap_alloc_keep (heap_alloc_keep (nw _ _ _ (by simp; omega)) _) _, heap_alloc_keep (nw _ _ _ (by simp; omega)) _, nw _ _ _ (by simp; omega), IntOwn.nil _ _⟩)
  clear X hb hn
  refine (callsIn_wide (n := 5)).1 ?_
  refine callsIn_of_wp_marks Tryz.func55 rfl trivial ?_ rfl
  simp only [Tryz.ntmps55, List.size_toArray, List.length_cons, List.length_nil, Nat.reduceAdd, Nat.reduceSub, Array.replicate_succ, Array.replicate_zero, List.push_toArray, List.append_toArray, List.nil_append, List.cons_append]
  gi_wp2_with (first | (gi_at_call 102; refine (callsIn_wide.2 (near_any _ _ _ _)).mono ?_; rintro e w' ⟨rfl, rfl⟩))
  rw [← HN.out]
  refine wpIn_rangeFunc_wide (gf := 159) (lb := #[.pointer (some ⟨n + 1 + 1 + 1 + 1, 0, none⟩), .pointer (some ⟨n + 1 + 1 + 1, 0, none⟩)]) (by rfl) (enters_of Tryz.func159 (by kernel_rfl) rfl) ?_
  intro rec D hD r1 r2 r3 r4 r5 r6
  have hD' : D = n + 5 := by rw [hD]; simp [HN.out]
  subst hD'
  clear hD
  have HW0 := HW.out rec
  generalize World.alloc (World.alloc _ _) _ = W1 at HW0 ⊢
  have HR4 := hid r4
  show CallsIn Fence.wide 4 Tryz.prog 159 #[.func (.yield (n + 6)) #[] #[], .pointer (some ⟨n + 1 + 1 + 1 + 1, 0, none⟩), .pointer (some ⟨n + 1 + 1 + 1, 0, none⟩)] W1 _
  refine CallsIn.mono (CallsIn.more (near1_in (ib := ib) (m1 := m1) (m2 := m2) (L := L) (rs := rs) (n + 6) (n + 7) r R hr hj (n + 1 + 1 + 1 + 1) (n + 1 + 1 + 1) (TsI w n ib m1 m2 L j rs r R xb rec) ?hs ?keep ?round W1 ⟨_, HW0⟩) (by omega)) ?behind
  case hs => exact fun pre W ⟨v, h⟩ => ⟨h.ix, heap_lt h.lp, h.xa, h.xi⟩
  case keep => exact fun pre W W' F ⟨v, h⟩ hc hF => ⟨v, h.maps hsz hc hF⟩
  case behind =>
    rintro e W2 ⟨hv, v, T2⟩
    refine ⟨hv, T2.lp, ?_⟩
    have T3 := T2.put hsz { rec with state := .exhausted }
    obtain ⟨va, vm, vc, rfl, hvm⟩ := T3.own.view
    have hfw := T3.own.few (ids_few r R j hR)
    have c0 := cell_of (i := 0) T3.out rfl
    have HT := hid T3
    have HF := hid hfw
    clear T2 T3 hfw r1 r2 r3 r4 r5 r6 HR4 HW0 hvm
    change Exit.inBlock 0 _ _ _ (W2.putObj (n + 6) _)
    generalize World.putObj _ _ _ = W3 at HT HF c0 ⊢
    gi_wp2_with fail
    refine (callsIn_wide.2 (sort_few HF.out)).mono ?_
    rintro e W4 ⟨⟨u, rfl⟩, m, rfl⟩
    have c0' : (W3.drewN m).cell? ⟨n + 1 + 1, 0, none⟩ = _ := c0
    have hK : (W3.drewN m).heap[n + 5]? = some (.deferred (some [])) := HT.out.df
    have FIN := hid (show ThEnd w (idsOf r R j) (.returned (.slice va vm vc)) ((W3.drewN m).putObj (n + 5) (.deferred none)) from by
      have hs := heap_lt HT.out.lp
      have c1 := put_chg (W3.drewN m) (n + 5) (.deferred none)
      have hl : Below n w ((W3.drewN m).putObj (n + 5) (.deferred none)) := (below_drewN HT.out.low m).trans (c1.below (B := n) (by simp) (by show n ≤ W3.heap.size; omega))
      refine ⟨_, rfl, ?_, HN.out ▸ hl⟩
      have ho : IntOwn (W3.drewN m) (n + 7) (.slice va vm vc) (idsOf r R j) := HT.out.own
      exact ownsRow_lower (ho.chg c1 (fun g hg hm => by
        simp only [List.mem_singleton] at hm
        subst hm
        have := (ho.low _ hg).1
        omega)) (by have := HN.out; omega))
    clear c0
    gi_wp2_with fail
    refine ⟨by simp, .inl ⟨_, _, rfl, run_takeDeferred hK, ?_⟩⟩
    exact ⟨_, results_tmp (t := 6) rfl _ _ _, FIN.out⟩
  case round =>
    rintro q W hq hqj ⟨v, T⟩
    refine yield_round T.lp r1 r2 (by rw [r4]; rfl) ?_
    intro rb
    rw [r3, r4, r5, r6]
    clear r1 r2 r3 r4 r5 r6 HR4 HW0
    obtain ⟨va, vm, vc, rfl, hvm⟩ := T.own.view
    have HT := hid T
    have HVM := hid hvm
    obtain ⟨i, hi⟩ : ∃ i : Int, i = ((r + q : Nat) : Int) := ⟨_, rfl⟩
    rw [← hi]
    have HI := hid hi
    clear T hvm hi
    gi_wp2_with fail
    refine ⟨heap_alloc_keep HT.out.lp _, ?_⟩
    have g0 := heap_alloc_new W (.cells (arCs i 1) 62)
    have TA := HT.out.below hsz ((Below.refl W.heap.size W).alloc (Nat.le_refl _) (.cells (arCs i 1) 62))
    have TP := TA.put hsz rb
    have hne : W.heap.size ≠ n + 6 := by have := heap_lt HT.out.lp; omega
    have g1 := (World.putObj_heap_other (w := W.alloc (.cells (arCs i 1) 62)) (o := .loop rb) hne).trans g0
    have cP : Chg [n + 6] W ((W.alloc (.cells (arCs i 1) 62)).putObj (n + 6) (.loop rb)) := ((Chg.refl _ W).alloc _).trans (put_chg _ _ _) (by simp)
    obtain ⟨g, hg⟩ : ∃ g, g = W.heap.size := ⟨_, rfl⟩
    rw [← hg] at g1 ⊢
    have HTP := hid TP
    have HCP := hid cP
    have HG := hid hg
    have c0 := cell_of (i := 0) TP.fb rfl
    have d0 := cell_of (i := 0) g1 rfl
    have d1 := cell_of (i := 1) g1 rfl
    have d2 := cell_of (i := 2) g1 rfl
    have d3 := cell_of (i := 3) g1 rfl
    have d4 := cell_of (i := 4) g1 rfl
    clear g0 TA TP hne g1 cP hg
    generalize World.putObj _ _ _ = W2 at HTP HCP c0 d0 d1 d2 d3 d4 ⊢
    gi_wp2_with fail
    have hb2 := (HTP.out.low.block xb (by have := heap_lt HXB.out; have := HN.out; omega)).trans HXB.out
    refine ⟨rfl, (CallsIn.inRound (n + 6) (callsIn_wide.2 (meets1_yes (i := i) hb2 (by unfold ArOk; omega) (by have := HI.out; omega)))).mono ?_⟩
    rintro e W3 ⟨rfl, b3⟩
    have T3 := HTP.out.below hsz b3
    have C3 : Chg [n + 6] W W3 := HCP.out.trans (Chg.of_below (F := []) b3) (by simp)
    have c0' := cell_of (i := 0) T3.out rfl
    have hsz3 : n + 7 ≤ W3.heap.size := heap_lt T3.lp
    obtain ⟨a', c', w4, happ, ho, hc, hob⟩ := T3.own.app hsz3 HVM.out rfl (by
      rw [HVM.out]
      have : (idsOf r q j).length ≤ q := by
        simp only [idsOf, List.length_map]
        exact Nat.le_trans (List.length_filter_le _ _) (by simp)
      omega) i
    have happ' : (Builtin.append_ #[42, 42] 42 #[.slice va vm vc, .slice (some ⟨W3.heap.size, 0, none⟩) 1 1]).run Tryz.prog (W3.alloc (.cells #[.int .i64 i] 3)) = .ok (.slice a' (vm + 1) c') w4 := happ
    have T5 := T3.app (v' := .slice a' (vm + 1) c') (i := i) hsz hc ho
    have hlow := T3.own.low
    have h4 : w4.heap[n + 1 + 1]? = some (.cells #[.slice va vm vc] 42 (0, 0)) := hc.heap T3.out (fun hm => by
      simp only [Go.Proofs.YtpcjfgihglfdgaaGreatDoor.own, Option.mem_toList] at hm
      have := (hlow _ hm).1
      omega)
    have e0 := cell_of (i := 0) h4 rfl
    have f0 := free_of (i := 0) h4
    have FIN := hid (show Ts w n ib m1 m2 L j rs r R xb rec (idsOf r (q + 1) j) ((w4.setCell ⟨n + 1 + 1, 0, none⟩ (.slice a' (vm + 1) c')).putObj (n + 6) (.loop rec)) (.slice a' (vm + 1) c') ∧ (w4.setCell ⟨n + 1 + 1, 0, none⟩ (.slice a' (vm + 1) c')).heap[n + 6]? = some (.loop rb) ∧ ∃ F, Chg F W ((w4.setCell ⟨n + 1 + 1, 0, none⟩ (.slice a' (vm + 1) c')).putObj (n + 6) (.loop rec)) ∧ ∀ x ∈ F, Other W x from by
      refine ⟨?_, T5.lp, (n + 6) :: (n + 1 + 1) :: own (.slice va vm vc), ?_, ?_⟩
      · rw [idsOf_yes hqj, ← HI.out]
        exact T5.put hsz rec
      · have k1 : Chg ((n + 6) :: (n + 1 + 1) :: own (.slice va vm vc)) W w4 := (C3.mono (by simp)).trans (hc.mono (G := own (.slice va vm vc)) (fun _ h => h)) (fun x hx => .inl (by simp [hx]))
        exact (k1.setCell (p := ⟨n + 1 + 1, 0, none⟩) (.inl (by simp)) _).trans (put_chg _ _ _) (by simp)
      · intro x hx
        simp only [List.mem_cons] at hx
        rcases hx with rfl | rfl | hx
        · exact Other.loop HT.out.lp
        · exact Other.cells HT.out.out (by decide)
        · simp only [own, Option.mem_toList] at hx
          obtain ⟨cs, hcs⟩ := int_cells_of HT.out.own hx
          exact Other.cells hcs (by decide))
    clear b3 T3 C3 ho hc hob happ T5 hlow h4 HTP HCP hb2 c0 d0 d1 d2 d3 d4
    gi_wp2_with (refine wpListIn_append_run rfl _ _ _ rfl _ _ rfl rfl happ' ?_)
    exact ⟨FIN.out.2.1, ⟨_, FIN.out.1⟩, FIN.out.2.2⟩

set_option maxRecDepth 20000 in
set_option maxHeartbeats 1000000 in
theorem meets_any {w : World} {ib m1 m2 L j : Nat} {rs : Nat → Value} (X : Ix w ib m1 m2 L j rs) (r R : Nat) (hR : R = 1 ∨ R = 2) (hr : r + R ≤ 200) (hj : j ≤ 100) :
    Calls Tryz.prog 18 #[.pointer (some ⟨ib, 0, none⟩), arV (r : Int) (R : Int)] w (ThEnd w (idsOf r R j)) := by
  have H2 := hid (fun w => isArea_yes (r : Int) (R : Int) (by unfold ArOk; omega) w)
  have ba := (Below.refl w.heap.size w).alloc (Nat.le_refl _) (.cells (arCs r R) 62)
  have g0 := heap_alloc_new w (.cells (arCs r R) 62)
  have X0 := hid (X.keep ba)
  have BA := hid ba
  obtain ⟨g, hg⟩ : ∃ g, g = w.heap.size := ⟨_, rfl⟩
  clear X ba
  go_enter Tryz.func18, Tryz.ntmps18
  go_wp2_with fail
  rw [← hg] at g0 ⊢
  have HG := hid hg
  clear hg
  generalize World.alloc _ _ = w0 at X0 BA g0 ⊢
  refine (H2.out _).mono ?_
  rintro e w1 ⟨rfl, b1⟩
  have g1 := (b1.block _ (heap_lt g0)).trans g0
  have X1 := X0.out.keep b1
  have BB := hid (BA.out.trans (b1.mono BA.out.size))
  have c0 := cell_of (i := 0) g1 rfl
  have c1 := cell_of (i := 1) g1 rfl
  have c2 := cell_of (i := 2) g1 rfl
  have c3 := cell_of (i := 3) g1 rfl
  have c4 := cell_of (i := 4) g1 rfl
  have HT := hid (those_any X1 r R hR hr hj g1)
  clear g0 g1 X1 b1 X0 BA
  go_wp2_with fail
  refine HT.out.mono ?_
  rintro e w2 ⟨v, rfl, ho, b2⟩
  have FIN := hid (show ThEnd w (idsOf r R j) (.returned v) w2 from ⟨v, rfl, ownsRow_lower ho BB.out.size, BB.out.trans (b2.mono BB.out.size)⟩)
  clear ho b2 c0 c1 c2 c3 c4
  go_wp2_with fail
  go_ret
  exact FIN.out
end Go.Proofs.YtpcjfgihglfdgaaGreatDoor

namespace Go.Proofs.YtpcjfgihglfdgaaGreatDoor
open Go.RowKit Go.Lib

abbrev refC (r : Int) : List Value := (rfZ r).cells
theorem ref_size6 : (Tryz.prog.info? 77).map (·.size) = some 6 := by kernel_rfl
theorem ar_info : (Tryz.prog.info? 62).map (·.size) = some 5 := by kernel_rfl
set_option maxRecDepth 20000 in
set_option maxHeartbeats 1000000 in
theorem refArea_ok (r t : Nat) (h : r ≤ t) (ht : t < 200) (w : World) : Calls Tryz.prog 101 #[.agg (refC r).toArray, .agg (refC t).toArray, .int .i64 0] w fun e w' => e = .returned (.tuple #[arV (r : Int) ((t : Int) - (r : Int) + 1), .int .i64 0]) ∧ Below w.heap.size w w' := by
  have H1 := hid (fun w => refRight_any r (by omega) w)
  have H2 := hid (fun w => refRight_any t (by omega) w)
  have b0 := (((Below.refl w.heap.size w).alloc (Nat.le_refl _) (.cells (refC r).toArray 77)).alloc (by simp) (.cells (refC t).toArray 77)).alloc (by simp; omega) (.cells #[.int .i64 0, .int .i64 0, .int .i64 0, .int .i64 0, .int .i64 0] 62)
  have nw : ∀ (z : World) (o : Obj) (k : Nat), z.heap.size = k → (z.alloc o).heap[k]? = some o := fun z o k h => by subst h; exact heap_alloc_new z o
  have N0 := hid (show (((w.alloc (.cells (refC r).toArray 77)).alloc (.cells (refC t).toArray 77)).alloc (.cells #[.int .i64 0, .int .i64 0, .int .i64 0, .int .i64 0, .int .i64 0] 62)).heap[w.heap.size]? = some (.cells (refC r).toArray 77 (0, 0)) from heap_alloc_keep (heap_alloc_keep (nw _ _ _ rfl) _) _)
  have N1 := hid (show (((w.alloc (.cells (refC r).toArray 77)).alloc (.cells (refC t).toArray 77)).alloc (.cells #[.int .i64 0, .int .i64 0, .int .i64 0, .int .i64 0, .int .i64 0] 62)).heap[w.heap.size + 1]? = some (.cells (refC t).toArray 77 (0, 0)) from heap_alloc_keep (nw _ _ _ (by simp)) _)
  have N2 := hid (show (((w.alloc (.cells (refC r).toArray 77)).alloc (.cells (refC t).toArray 77)).alloc (.cells #[.int .i64 0, .int .i64 0, .int .i64 0, .int .i64 0, .int .i64 0] 62)).heap[w.heap.size + 1 + 1]? = some (.cells #[.int .i64 0, .int .i64 0, .int .i64 0, .int .i64 0, .int .i64 0] 62 (0, 0)) from nw _ _ _ (by simp))
  have B0 := hid b0
  obtain ⟨g, hg⟩ : ∃ g, g = w.heap.size := ⟨_, rfl⟩
  clear nw b0
  go_enter Tryz.func101, Tryz.ntmps101
  go_wp2_with (refine stop_load 77 _ rfl ?_)
  rw [← hg] at N0 N1 N2 ⊢
  have HG := hid hg
  clear hg
  generalize World.alloc (World.alloc (World.alloc _ _) _) _ = w0 at N0 N1 N2 B0 ⊢
  refine Stop.mk ?_
  go_wp2_with (refine wpList_load_row rfl 77 _ rfl g rfl 77 _ (0, 0) _ N0.out Tryz.underlying77 rfl ref_size6 ?_)
  refine (H1.out _).mono ?_
  rintro e w1 ⟨rfl, b1⟩
  have M0 := hid ((b1.block _ (heap_lt N0.out)).trans N0.out)
  have M1 := hid ((b1.block _ (heap_lt N1.out)).trans N1.out)
  have M2 := hid ((b1.block _ (heap_lt N2.out)).trans N2.out)
  have B1 := hid (B0.out.trans (b1.mono B0.out.size))
  clear b1 N0 N1 N2 B0
  go_wp2_with (refine wpList_load_row_w rfl 77 _ rfl (g + 1) rfl 77 _ (0, 0) _ M1.out Tryz.underlying77 rfl ref_size6 ?_)
  refine (H2.out _).mono ?_
  rintro e w2 ⟨rfl, b2⟩
  have q0 := (b2.block _ (heap_lt M0.out)).trans M0.out
  have q1 := (b2.block _ (heap_lt M1.out)).trans M1.out
  have Q2 := hid ((b2.block _ (heap_lt M2.out)).trans M2.out)
  have B2 := hid (B1.out.trans (b2.mono B1.out.size))
  have a5 := cell_of (i := 5) q0 rfl
  have d5 := cell_of (i := 5) q1 rfl
  have k1 : ∀ m, (w2.drewN m).cell? ⟨g, 1, none⟩ = some (.int .i64 (r : Int)) := fun _ => cell_of (i := 1) q0 rfl
  have k2 : ∀ m, (w2.drewN m).cell? ⟨g, 2, none⟩ = some (.int .i64 0) := fun _ => cell_of (i := 2) q0 rfl
  have k3 : ∀ m, (w2.drewN m).cell? ⟨g + 1, 1, none⟩ = some (.int .i64 (t : Int)) := fun _ => cell_of (i := 1) q1 rfl
  have k4 : ∀ m, (w2.drewN m).cell? ⟨g + 1, 2, none⟩ = some (.int .i64 0) := fun _ => cell_of (i := 2) q1 rfl
  clear b2 M0 M1 M2 B1 q0 q1
  go_wp2_with fail
  go_quiet (fail)
  have er : min (r : Int) (t : Int) = (r : Int) := by omega
  have em : max (r : Int) (t : Int) = (t : Int) := by omega
  rw [er]
  have Q3 : (w2.drewN nq).heap[g + 1 + 1]? = some (.cells #[.int .i64 0, .int .i64 0, .int .i64 0, .int .i64 0, .int .i64 0] 62 (0, 0)) := Q2.out
  have B3 := hid (show Below w.heap.size w (w2.drewN nq) from below_drewN B2.out nq)
  have hrt : (r : Int) ≤ (t : Int) := by omega
  have ht2 : (t : Int) < 200 := by omega
  have hr2 : (0 : Int) ≤ (r : Int) := by omega
  have n1 := k1 nq
  have n2 := k2 nq
  have n3 := k3 nq
  have n4 := k4 nq
  clear k1 k2 k3 k4 a5 d5 Q2 B2 h ht er
  generalize World.drewN w2 nq = w3 at Q3 B3 n1 n2 n3 n4 ⊢
  have hss := heap_lt Q3
  have FIN := hid (show Below w.heap.size w (w3.setRow (g + 1 + 1) (arCs (r : Int) ((t : Int) - (r : Int) + 1))) ∧ (w3.setRow (g + 1 + 1) (arCs (r : Int) ((t : Int) - (r : Int) + 1))).heap[g + 1 + 1]? = some (.cells (arCs (r : Int) ((t : Int) - (r : Int) + 1)) 62 (0, 0)) from
    ⟨((Chg.of_below (F := []) B3.out).setRow (.inr (by have := HG.out; omega)) _).nil_below, heap_setRow_at Q3⟩)
  have Q4 := hid Q3
  clear Q3
  go_wp2_with (refine wpList_store_row rfl 62 _ _ rfl (g + 1 + 1) (arCs (r : Int) ((t : Int) - (r : Int) + 1)) rfl rfl 62 _ Q4.out ar_info (by rfl) (by simp [Value.oneCell']) ?_)
  refine bodyPost_ret (v := .tuple #[arV (r : Int) ((t : Int) - (r : Int) + 1), .int .i64 0]) (results_row_tmp rfl _ _ (g + 1 + 1) _ _ rfl rfl (run_loadVar_row (P := Tryz.prog) _ (g + 1 + 1) 62 62 (arCs (r : Int) ((t : Int) - (r : Int) + 1)) (0, 0) _ FIN.out.2 Tryz.underlying62 rfl ar_info)) rfl ?_
  exact ⟨rfl, FIN.out.1⟩
end Go.Proofs.YtpcjfgihglfdgaaGreatDoor

namespace Go.Proofs.YtpcjfgihglfdgaaGreatDoor
open Go.RowKit Go.Lib

abbrev fndC (b off bc : Nat) : Array Value := #[.slice (some ⟨b, off, none⟩) 1 bc, .slice none 0 0, .slice none 0 0, .slice none 0 0, .int .i64 0]
abbrev arZC : Array Value := #[.int .i64 0, .int .i64 0, .int .i64 0, .int .i64 0, .int .i64 0]
theorem fnd_info (b off bc : Nat) : (Tryz.prog.info? 72).map (·.size) = some (fndC b off bc).size := show _ = some 5 from by kernel_rfl
set_option maxRecDepth 20000 in
set_option maxHeartbeats 1000000 in
theorem one_ok (b off bc : Nat) (r t : Nat) (h : r ≤ t) (ht : t < 200) (w : World) : Calls Tryz.prog 53 #[.agg (fndC b off bc), .agg (refC r).toArray, .agg (refC t).toArray] w fun e w' => e = .returned (.tuple #[arV (r : Int) ((t : Int) - (r : Int) + 1), .bool true]) ∧ Below w.heap.size w w' := by
  have HA := hid (fun w => refArea_ok r t h ht w)
  have nw : ∀ (z : World) (o : Obj) (k : Nat), z.heap.size = k → (z.alloc o).heap[k]? = some o := fun z o k h => by subst h; exact heap_alloc_new z o
  obtain ⟨wz, hwz⟩ : ∃ wz, wz = (((w.alloc (.cells (fndC b off bc) 72)).alloc (.cells (refC r).toArray 77)).alloc (.cells (refC t).toArray 77)).alloc (.cells arZC 62) := ⟨_, rfl⟩
  have b0 : Below w.heap.size w wz := by
    rw [hwz]
    exact ((((Chg.refl [] w).alloc _).alloc _).alloc _).alloc _ |>.nil_below
  have N0 := hid (show wz.heap[w.heap.size]? = some (.cells (fndC b off bc) 72 (0, 0)) from by rw [hwz]; exact heap_alloc_keep (heap_alloc_keep (heap_alloc_keep (nw _ _ _ rfl) _) _) _)
  have N1 := hid (show wz.heap[w.heap.size + 1]? = some (.cells (refC r).toArray 77 (0, 0)) from by rw [hwz]; exact heap_alloc_keep (heap_alloc_keep (nw _ _ _ (by simp)) _) _)
  have N2 := hid (show wz.heap[w.heap.size + 1 + 1]? = some (.cells (refC t).toArray 77 (0, 0)) from by rw [hwz]; exact heap_alloc_keep (nw _ _ _ (by simp)) _)
  have N3 := hid (show wz.heap[w.heap.size + 1 + 1 + 1]? = some (.cells arZC 62 (0, 0)) from by rw [hwz]; exact nw _ _ _ (by simp))
  have B0 := hid b0
  obtain ⟨g, hg⟩ : ∃ g, g = w.heap.size := ⟨_, rfl⟩
  have HWZ := hid hwz
  clear nw b0 h ht hwz
  go_enter Tryz.func53, Tryz.ntmps53
  go_wp2_with (refine stop_load 4 _ rfl ?_)
  rw [← HWZ.out]
  rw [← hg] at N0 N1 N2 N3 ⊢
  have HG := hid hg
  clear hg HWZ
  refine Stop.mk ?_
  have a5 := cell_of (i := 5) N1.out rfl
  have d5 := cell_of (i := 5) N2.out rfl
  have a0 := cell_of (i := 0) N1.out rfl
  have f4 := cell_of (i := 4) N0.out rfl
  go_wp2_with (first | (refine wpList_load_row rfl 77 _ rfl (g + 1) rfl 77 _ (0, 0) _ N1.out Tryz.underlying77 rfl ref_size6 ?_) | (refine wpList_load_row rfl 77 _ rfl (g + 1 + 1) rfl 77 _ (0, 0) _ N2.out Tryz.underlying77 rfl ref_size6 ?_))
  refine (HA.out _).mono ?_
  rintro e w2 ⟨rfl, b2⟩
  have q3 := (b2.block _ (heap_lt N3.out)).trans N3.out
  have B2 := hid (B0.out.trans (b2.mono B0.out.size))
  clear b2 N0 N1 N2 N3 B0 a5 d5 a0 f4
  obtain ⟨x, hx⟩ : ∃ x : Int, x = (t : Int) - (r : Int) + 1 := ⟨_, rfl⟩
  rw [← hx]
  have HX := hid hx
  clear hx
  have q4 := heap_alloc_keep q3 (.cells (arCs (r : Int) x) 62)
  have q5 := heap_alloc_new w2 (.cells (arCs (r : Int) x) 62)
  have B3 := B2.out.alloc B2.out.size (.cells (arCs (r : Int) x) 62)
  have FIN := hid (show Below w.heap.size w ((w2.alloc (.cells (arCs (r : Int) x) 62)).setRow (g + 1 + 1 + 1) (arCs (r : Int) x)) ∧ ((w2.alloc (.cells (arCs (r : Int) x) 62)).setRow (g + 1 + 1 + 1) (arCs (r : Int) x)).heap[g + 1 + 1 + 1]? = some (.cells (arCs (r : Int) x) 62 (0, 0)) from
    ⟨((Chg.of_below (F := []) B3).setRow (.inr (by have := HG.out; omega)) _).nil_below, heap_setRow_at q4⟩)
  have Q4 := hid q4
  have Q5 := hid q5
  clear q3 q4 q5 B3 B2
  go_wp2_with (first | (refine wpList_load_row rfl 62 _ rfl w2.heap.size rfl 62 _ (0, 0) _ Q5.out Tryz.underlying62 rfl ar_info ?_) | (refine wpList_store_row rfl 62 _ _ rfl (g + 1 + 1 + 1) (arCs (r : Int) x) rfl rfl 62 _ Q4.out ar_info (by rfl) (by simp [Value.oneCell']) ?_))
  refine bodyPost_ret (v := .tuple #[arV (r : Int) x, .bool true]) (results_row_tmp rfl _ _ (g + 1 + 1 + 1) _ _ rfl rfl (run_loadVar_row (P := Tryz.prog) _ (g + 1 + 1 + 1) 62 62 (arCs (r : Int) x) (0, 0) _ FIN.out.2 Tryz.underlying62 rfl ar_info)) rfl ?_
  exact ⟨by rw [HX.out], FIN.out.1⟩
end Go.Proofs.YtpcjfgihglfdgaaGreatDoor

namespace Go.Proofs.YtpcjfgihglfdgaaGreatDoor
open Go.RowKit Go.Lib
attribute [local go_sem] Oper.semAt_some wide_fn

section
variable {F : Fence} {m : Nat} {P : Program} {w : World} {ops : Array Oper} {rest : List Oper} {o : Oper} {a : Act} {Q : Exit → Act → World → Prop}
theorem wpListIn_load_mid (hgd : o.guard = none) (ty : TypeId) (x : Operand) (ho : o.op = .load ty x) (b off : Nat) (hx : a.eval x = .pointer (some ⟨b, off, none⟩)) (cs : List Value) (d : TypeDesc) (hS : w.rangeAt b off cs)
    (hu : P.underlying ty = some d) (hd : d.isRow = true) (hi : (P.info? ty).map (·.size) = some cs.length) (h : wpListIn F m P ops Q rest (a.put o.dst (.agg cs.toArray)) w) : wpListIn F m P ops Q (o :: rest) a w := by
  refine wpListIn_plain hgd fun K hK => ?_
  unfold Oper.wpIn
  refine ⟨by simp [Oper.about, ho], ?_⟩
  rw [Oper.semAt_plain F _ _ (by rw [ho]; intro c hc'; cases hc')]
  unfold execOp
  simp only [ho, hx, Instr.loadAt, Instr.sureAddr, Sem.run_bind, Sem.run_pure, Result.andThen_ok, run_loadVar_mid w b off ty cs d hS hu hd hi]
  exact hK _ _ h
theorem wpListIn_store_row (hgd : o.guard = none) (ty : TypeId) (x y : Operand) (ho : o.op = .store ty x y) (g : Nat) (cells : Array Value) (hx : a.eval x = .pointer (some ⟨g, 0, none⟩)) (hy : a.eval y = .agg cells)
    (t : TypeId) (old : Array Value) (hg : w.heap[g]? = some (.cells old t (0, 0))) (hi : (P.info? ty).map (·.size) = some cells.size) (hold : old.size = cells.size) (h1 : cells.all (·.oneCell') = true)
    (h : wpListIn F m P ops Q rest (a.put o.dst undef) (w.setRow g cells)) : wpListIn F m P ops Q (o :: rest) a w := by
  refine wpListIn_plain hgd fun K hK => ?_
  unfold Oper.wpIn
  refine ⟨by simp [Oper.about, ho], ?_⟩
  rw [Oper.semAt_plain F _ _ (by rw [ho]; intro c hc'; cases hc')]
  unfold execOp
  simp only [ho, hx, hy, Instr.storeAt, Instr.sureAddr, Sem.run_bind, Sem.run_pure, Result.andThen_ok, run_storeVar_row w g t ty old cells hg hi hold h1]
  exact hK _ _ h
theorem stop_loadIn (ty : TypeId) (x : Operand) (_ : o.op = .load ty x) (h : Stop (wpListIn F m P ops Q (o :: rest) a w)) : wpListIn F m P ops Q (o :: rest) a w := h.out
end

/-- a block that a round may turn: ints, or a variable of ints, or none of cells -/
def OkF (W : World) (x : Nat) : Prop := ∀ cs t fr, W.heap[x]? = some (.cells cs t fr) → t = 3 ∨ t = 42
theorem OkF.not {W : World} {x : Nat} {cs : Array Value} {t : TypeId} {fr : Nat × Nat} (h : OkF W x) (hx : W.heap[x]? = some (.cells cs t fr)) (h1 : t ≠ 3) (h2 : t ≠ 42) : False := by
  rcases h _ _ _ hx with e | e
  · exact h1 e
  · exact h2 e
/-- what a step of the walk leaves: only such blocks, from nB on, have turned -/
def Soft (nB : Nat) (W W' : World) : Prop := ∃ F, Chg F W W' ∧ ∀ x ∈ F, nB ≤ x ∧ OkF W x
theorem Soft.of_below {nB : Nat} {W W' : World} (h : Below W.heap.size W W') : Soft nB W W' := ⟨[], Chg.of_below h, by simp⟩
theorem Soft.heap {nB : Nat} {W W' : World} (h : Soft nB W W') {x : Nat} {cs : Array Value} {t : TypeId} {fr : Nat × Nat} (hx : W.heap[x]? = some (.cells cs t fr)) (h1 : t ≠ 3) (h2 : t ≠ 42) : W'.heap[x]? = some (.cells cs t fr) := by
  obtain ⟨F, hc, hF⟩ := h
  exact hc.heap hx (fun hm => (hF x hm).2.not hx h1 h2)
theorem Soft.trans {nB : Nat} {a b c : World} (h : Soft nB a b) (k : Soft nB b c) : Soft nB a c := by
  obtain ⟨F, hc, hF⟩ := h
  obtain ⟨G, kc, hG⟩ := k
  refine ⟨F ++ G, (hc.mono (G := F ++ G) (fun x hx => List.mem_append.2 (.inl hx))).trans kc (fun x hx => .inl (List.mem_append.2 (.inr hx))), fun x hx => ?_⟩
  rcases List.mem_append.1 hx with hx | hx
  · exact hF x hx
  · refine ⟨(hG x hx).1, fun cs t fr hh => ?_⟩
    by_cases hm : x ∈ F
    · exact (hF x hm).2 cs t fr hh
    · exact (hG x hx).2 cs t fr (hc.heap hh hm)
/-- the boxes of the walk -/
structure WkE (b off bc fb yb wb lp : Nat) (W : World) : Prop where
  f : W.heap[fb]? = some (.cells (fndC b off bc) 72 (0, 0))
  y : W.heap[yb]? = some (.cells #[.func (.yield lp) #[] #[]] 129 (0, 0))
  k : W.heap[wb]? = some (.cells #[.func (.func 52) #[] #[.pointer (some ⟨fb, 0, none⟩), .pointer (some ⟨yb, 0, none⟩), .pointer (some ⟨wb, 0, none⟩)]] 130 (0, 0))
theorem WkE.soft {b off bc fb yb wb lp nB : Nat} {W W' : World} (h : WkE b off bc fb yb wb lp W) (hs : Soft nB W W') : WkE b off bc fb yb wb lp W' :=
  ⟨hs.heap h.f (by decide) (by decide), hs.heap h.y (by decide) (by decide), hs.heap h.k (by decide) (by decide)⟩
theorem row_mid {w : World} {g : Nat} {cs : List Value} {t : TypeId} (h : w.heap[g]? = some (.cells cs.toArray t (0, 0))) (off : Nat) (ds : List Value) (hd : ∀ j v, ds[j]? = some v → cs[off + j]? = some v) : w.rangeAt g off ds := by
  have h0 := row_at h
  intro j v hj
  have := h0 (off + j) v (hd j v hj)
  simpa using this
end Go.Proofs.YtpcjfgihglfdgaaGreatDoor
