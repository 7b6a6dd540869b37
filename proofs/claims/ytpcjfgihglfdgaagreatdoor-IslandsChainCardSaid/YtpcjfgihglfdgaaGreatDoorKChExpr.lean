/- Rule of the parser's expr: operators one behind the other. Condition: what the package-level variables hold lies as it was laid (at a call). -/
import Derived.Test.YtpcjfgihglfdgaaGreatDoorKChBareO

namespace Go.Proofs.YtpcjfgihglfdgaaGreatDoor
open Go.RowKit Go.Lib

def NextOk (T : List (Int × ByteArray × Nat)) (a : Nat) (s : ByteArray) (k : Int) : Prop := ∀ p tb tf tc w, Pz T p tb tf tc a w → Calls Tryz.prog 213 #[.pointer (some ⟨p, 0, none⟩)] w fun e w' => e = .returned (.tuple #[.string s, .int .i64 k]) ∧ Below w.heap.size w w'
abbrev owOp (s : ByteArray) : Ow := ⟨9, s, 0, 0, false, 0, rfZ 0, rfZ 0, 0⟩
/-- n operators behind a node that is there -/
inductive Ops (T : List (Int × ByteArray × Nat)) (least : Int) : Nat → Nat → Ow → Fo → Nat → Ow → Fo → Prop
  | stop {a : Nat} {o : Ow} {ks : Fo} {s : ByteArray} {k : Int} (hN : NextOk T a s k) (hk : k = 0 ∨ k < least) : Ops T least 0 a o ks a o ks
  | more {n a b c : Nat} {o o2 o' : Ow} {ks ks2 ks' : Fo} {s : ByteArray} {k : Int} (hN : NextOk T a s k) (h0 : 0 < k) (hk : least ≤ k) (h9 : k < 9) (ha : a < T.length) (hE : ExprOk T (a + 1) (k + 1) o2 ks2 b)
      (hr : Ops T least n b (owOp s) (.cons o ks (.cons o2 ks2 .nil)) c o' ks') : Ops T least (n + 1) a o ks c o' ks'
theorem Ops.inv0 {T : List (Int × ByteArray × Nat)} {least : Int} {a b : Nat} {o o' : Ow} {ks ks' : Fo} (h : Ops T least 0 a o ks b o' ks') : ∃ s k, NextOk T a s k ∧ (k = 0 ∨ k < least) ∧ a = b ∧ o = o' ∧ ks = ks' := by
  cases h with
  | stop hN hk => exact ⟨_, _, hN, hk, rfl, rfl, rfl⟩
theorem Ops.inv1 {T : List (Int × ByteArray × Nat)} {least : Int} {n a c : Nat} {o o' : Ow} {ks ks' : Fo} (h : Ops T least (n + 1) a o ks c o' ks') : ∃ b o2 ks2 s k, NextOk T a s k ∧ 0 < k ∧ least ≤ k ∧ k < 9 ∧ a < T.length ∧ ExprOk T (a + 1) (k + 1) o2 ks2 b ∧ Ops T least n b (owOp s) (.cons o ks (.cons o2 ks2 .nil)) c o' ks' := by
  cases h with
  | more hN h0 hk h9 ha hE hr => exact ⟨_, _, _, _, _, hN, h0, hk, h9, ha, hE, hr⟩
/-- a new row of two nodes -/
theorem two_kids {w : World} {B : Nat → Prop} {o o2 : Ow} {ks ks2 : Fo} {ao ao2 : Option Addr} {c c2 : Nat} (hB : B w.heap.size) (h : KidsV w B (.slice ao ks.len c) ks) (h2 : KidsV w B (.slice ao2 ks2.len c2) ks2) {w' : World}
    (hw : w' = w.alloc (.cells (o.cells (.slice ao ks.len c) ++ o2.cells (.slice ao2 ks2.len c2)).toArray 79)) :
    KidsV w' B (.slice (some ⟨w.heap.size, 0, none⟩) 2 2) (.cons o ks (.cons o2 ks2 .nil)) := by
  have hb : Below w.heap.size w w' := by rw [hw]; exact (Below.refl _ w).alloc (Nat.le_refl _) _
  have hn := heap_alloc_new w (.cells (o.cells (.slice ao ks.len c) ++ o2.cells (.slice ao2 ks2.len c2)).toArray 79)
  rw [← hw] at hn
  refine ⟨_, 2, rfl, .inr ⟨_, _, ⟨rfl, fun h => by cases h⟩, hB, ?_⟩⟩
  refine FoAt.cons_iff.2 ⟨⟨_, ⟨_, rfl, h.keep hb⟩, fun i x hx => ?_⟩, FoAt.cons_iff.2 ⟨⟨_, ⟨_, rfl, h2.keep hb⟩, fun i x hx => ?_⟩, trivial⟩⟩
  · refine cell_of hn ?_
    have hi := (List.getElem?_eq_some_iff.1 hx).1
    rw [List.getElem?_toArray, Nat.zero_add, List.getElem?_append_left hi]
    exact hx
  · refine cell_of hn ?_
    rw [List.getElem?_toArray, List.getElem?_append_right (by show 20 ≤ _; omega)]
    have e : 0 + 20 + i - (o.cells (.slice ao ks.len c)).length = i := by show 0 + 20 + i - 20 = i; omega
    rw [e]
    exact hx
/-- what stands while expr reads operators -/
structure Ex (T : List (Int × ByteArray × Nat)) (least : Int) (p tb tf tc : Nat) (w : World) (g2 g3 b : Nat) (o' : Ow) (ks' : Fo) (n : Nat) (y : World) (a : Nat) (o : Ow) (ks : Fo) (ao : Option Addr) (c : Nat) : Prop where
  ops : Ops T least n a o ks b o' ks'
  par : Pz T p tb tf tc a y
  res : NdV g2 (nodeL 0 0) y
  row : NdV g3 (o.cells (.slice ao ks.len c)) y
  kids : KidsV y (fun x => g2 < x ∧ x ≠ g3) (.slice ao ks.len c) ks
  chg : Chg [p] w y
theorem Ex.keep {T : List (Int × ByteArray × Nat)} {least : Int} {p tb tf tc : Nat} {w : World} {g2 g3 b : Nat} {o' : Ow} {ks' : Fo} {n : Nat} {y z : World} {a : Nat} {o : Ow} {ks : Fo} {ao : Option Addr} {c : Nat} (h : Ex T least p tb tf tc w g2 g3 b o' ks' n y a o ks ao c) (hb : Below y.heap.size y z) : Ex T least p tb tf tc w g2 g3 b o' ks' n z a o ks ao c :=
  ⟨h.ops, h.par.keep hb, (hb.block _ (heap_lt h.res)).trans h.res, (hb.block _ (heap_lt h.row)).trans h.row, h.kids.keep hb, h.chg.trans (Chg.of_below (F := []) hb) (by simp)⟩
theorem ex_more {T : List (Int × ByteArray × Nat)} {least : Int} {p tb tf tc : Nat} {w : World} {g2 g3 b : Nat} {o' : Ow} {ks' : Fo} {n1 b1 : Nat} {w4 w5 w6 w7 : World} {a1 : Nat} {o1 o2 : Ow} {ks1 ks2 : Fo} {ao1 ao2 : Option Addr} {c1 c2 : Nat} {s : ByteArray}
    (hx : Ex T least p tb tf tc w g2 g3 b o' ks' (n1 + 1) w4 a1 o1 ks1 ao1 c1) (h23 : g2 < g3) (hp : p < g2) (hw : w.heap.size ≤ g2) (hr : Ops T least n1 b1 (owOp s) (.cons o1 ks1 (.cons o2 ks2 .nil)) b o' ks')
    (h5 : Chg [p] w4 w5) (hk2 : KidsV w6 (w5.heap.size ≤ ·) (.slice ao2 ks2.len c2) ks2) (h6 : Pz T p tb tf tc b1 w6) (hc6 : Chg [p] w5 w6) (hw7 : w7 = w6.alloc (.cells (o1.cells (.slice ao1 ks1.len c1) ++ o2.cells (.slice ao2 ks2.len c2)).toArray 79)) :
    NdV g3 (o1.cells (.slice ao1 ks1.len c1)) w7 ∧ Ex T least p tb tf tc w g2 g3 b o' ks' n1 (w7.setRow g3 ((owOp s).cells (.slice (some ⟨w6.heap.size, 0, none⟩) 2 2)).toArray) b1 (owOp s) (.cons o1 ks1 (.cons o2 ks2 .nil)) (some ⟨w6.heap.size, 0, none⟩) 2 := by
  have hs3 : g3 < w4.heap.size := heap_lt hx.row
  have s45 := h5.size
  have s56 := hc6.size
  have b7 : Below w6.heap.size w6 w7 := by rw [hw7]; exact (Below.refl _ w6).alloc (Nat.le_refl _) _
  have r7 : NdV g3 (o1.cells (.slice ao1 ks1.len c1)) w7 := by
    have h1 : NdV g3 (o1.cells (.slice ao1 ks1.len c1)) w5 := h5.heap hx.row (by simp only [List.mem_singleton]; omega)
    have h2 : NdV g3 (o1.cells (.slice ao1 ks1.len c1)) w6 := hc6.heap h1 (by simp only [List.mem_singleton]; omega)
    exact (b7.block _ (heap_lt h2)).trans h2
  have f7 : NdV g2 (nodeL 0 0) w7 := by
    have h1 : NdV g2 (nodeL 0 0) w5 := h5.heap hx.res (by simp only [List.mem_singleton]; omega)
    have h2 : NdV g2 (nodeL 0 0) w6 := hc6.heap h1 (by simp only [List.mem_singleton]; omega)
    exact (b7.block _ (heap_lt h2)).trans h2
  have k1 : KidsV w6 (fun x => g2 < x ∧ x ≠ g3) (.slice ao1 ks1.len c1) ks1 := (hx.kids.chg h5 (by simp only [List.mem_singleton, forall_eq]; omega)).chg hc6 (by simp only [List.mem_singleton, forall_eq]; omega)
  have k2 : KidsV w6 (fun x => g2 < x ∧ x ≠ g3) (.slice ao2 ks2.len c2) ks2 := hk2.mono (fun x hx => ⟨by omega, by omega⟩)
  have kk := two_kids (B := fun x => g2 < x ∧ x ≠ g3) (o := o1) (o2 := o2) ⟨by omega, by omega⟩ k1 k2 hw7
  have c7 : Chg [p] w w7 := ((hx.chg.trans h5 (by simp)).trans hc6 (by simp)).trans (Chg.of_below (F := []) b7) (by simp)
  refine ⟨r7, hr, (h6.keep b7).row (by omega) _, heap_setRow_far f7 (by omega) _, heap_setRow_at r7, kk.put (by simp) _, c7.setRow (.inr (by omega)) _⟩
theorem step_load_row {P : Program} {ops : Array Oper} {o : Oper} {a : Act} {w : World} {K : Act → World → Prop} {Q : Exit → Act → World → Prop} {E : Prop} (hgd : o.guard = none) (ty : TypeId) (x : Operand) (ho : o.op = .load ty x)
    (g : Nat) (hx : a.eval x = .pointer (some ⟨g, 0, none⟩)) (t : TypeId) (cs : Array Value) (fr : Nat × Nat) (d : TypeDesc) (hg : w.heap[g]? = some (.cells cs t fr))
    (hu : P.underlying ty = some d) (hd : (match d with | .struct _ | .array _ _ => true | _ => false) = true) (hi : (P.info? ty).map (·.size) = some cs.size)
    (h : K (a.put o.dst (.agg cs)) w) : if Region.wanted o (yielded ops a.tmps) = true then Oper.wp P o a w K Q else E := by
  have hw : Region.wanted o (yielded ops a.tmps) = true := by simp [Region.wanted, hgd]
  rw [if_pos hw]
  exact wp_load_row ty x ho g hx t cs fr d hg hu hd hi h
theorem step_store_row {P : Program} {ops : Array Oper} {o : Oper} {a : Act} {w : World} {K : Act → World → Prop} {Q : Exit → Act → World → Prop} {E : Prop} (hgd : o.guard = none) (ty : TypeId) (x y : Operand) (ho : o.op = .store ty x y)
    (g : Nat) (cells : Array Value) (hx : a.eval x = .pointer (some ⟨g, 0, none⟩)) (hy : a.eval y = .agg cells)
    (t : TypeId) (old : Array Value) (hg : w.heap[g]? = some (.cells old t (0, 0))) (hi : (P.info? ty).map (·.size) = some cells.size)
    (hold : old.size = cells.size) (h1 : cells.all (·.oneCell') = true)
    (h : K (a.put o.dst undef) (w.setRow g cells)) : if Region.wanted o (yielded ops a.tmps) = true then Oper.wp P o a w K Q else E := by
  have hw : Region.wanted o (yielded ops a.tmps) = true := by simp [Region.wanted, hgd]
  rw [if_pos hw]
  exact wp_store_row ty x y ho g cells hx hy t old hg hi hold h1 h
section
variable {T : List (Int × ByteArray × Nat)}
set_option maxRecDepth 20000 in
set_option maxHeartbeats 2000000 in
/-- what is signed, and operators behind it -/
theorem expr_ops {a b c n : Nat} {least : Int} {o o' : Ow} {ks ks' : Fo} (hs : SignOk T a o ks b) (n37 : NoSign T b [37]) (hops : Ops T least n b o ks c o' ks') : ExprOk T a least o' ks' c := by
  intro p tb tf tc w h
  have hp := h.plt
  have bA := (Below.refl w.heap.size w).alloc (Nat.le_refl _) (.cells (nodeL 0 0).toArray 79)
  have H0 := hid (h.keep bA)
  have C0 := hid ((Chg.refl [p] w).alloc (.cells (nodeL 0 0).toArray 79))
  have N2 := hid (show NdV w.heap.size (nodeL 0 0) (w.alloc (.cells (nodeL 0 0).toArray 79)) from heap_alloc_new w _)
  obtain ⟨g2, hg2⟩ : ∃ g2, g2 = w.heap.size := ⟨_, rfl⟩
  have XS := hid hs
  have X37 := hid n37
  have XO := hid hops
  have hlen := h.py.len
  have XL := hid hlen
  clear h bA hs n37 hops hlen
  go_enter Tryz.func151, Tryz.ntmps151
  go_wp2_with fail
  generalize World.alloc _ _ = w0 at H0 C0 N2 ⊢
  rw [← hg2] at N2 ⊢
  have HG := hid (show g2 ≠ p ∧ p < g2 ∧ w.heap.size ≤ g2 by omega)
  clear hg2 hp
  refine (XS.out _ _ _ _ _ H0.out).mono ?_
  rintro e w1 ⟨ao, cc, rfl, hk, h1, hc1⟩
  have hl2 := heap_lt N2.out
  have N21 : NdV g2 (nodeL 0 0) w1 := hc1.heap N2.out (by simpa using HG.out.1)
  obtain ⟨g3, hg3⟩ : ∃ g3, g3 = w1.heap.size := ⟨_, rfl⟩
  obtain ⟨m, hm⟩ : ∃ m, m = ks.len := ⟨_, rfl⟩
  have hg23 : g2 < g3 := by rw [hg3]; exact heap_lt N21
  have hp3 : p < g3 := Nat.lt_trans HG.out.2.1 hg23
  have cR : Chg [] w1 ((w1.alloc (.cells (nodeL 0 0).toArray 79)).setRow w1.heap.size (o.cells (.slice ao m cc)).toArray) := ((Chg.refl [] w1).alloc _).setRow (.inr (Nat.le_refl _)) _
  have R3 : NdV g3 (o.cells (.slice ao m cc)) ((w1.alloc (.cells (nodeL 0 0).toArray 79)).setRow w1.heap.size (o.cells (.slice ao m cc)).toArray) := by rw [hg3]; exact heap_setRow_at (heap_alloc_new w1 _)
  have R2 : NdV g2 (nodeL 0 0) ((w1.alloc (.cells (nodeL 0 0).toArray 79)).setRow w1.heap.size (o.cells (.slice ao m cc)).toArray) := cR.heap N21 (by simp)
  have HE := hid (show Ex T least p tb tf tc w g2 g3 c o' ks' n ((w1.alloc (.cells (nodeL 0 0).toArray 79)).setRow w1.heap.size (o.cells (.slice ao m cc)).toArray) b o ks ao cc from
    ⟨XO.out, h1.chg cR (by simp), R2, by rw [← hm]; exact R3, (hk.lt.keep cR.nil_below).mono (fun x hx => ⟨by have := hx.1; omega, by have := hx.2; omega⟩), (C0.out.trans hc1 (by simp)).trans cR (by simp)⟩)
  have HI := hid (show g2 < g3 ∧ p < g3 from ⟨hg23, hp3⟩)
  rw [← hm]
  have HM := hid hm
  clear hk h1 hc1 hl2 N21 N2 H0 C0 cR R3 R2 hg23 hp3 hm
  go_wp2_with (refine wpList_store_row rfl 79 _ _ rfl w1.heap.size (o.cells (.slice ao m cc)).toArray rfl rfl 79 _ (heap_alloc_new w1 _) (node_info 0 0) (by rfl) (ow_one o ao m cc) ?_)
  generalize World.setRow _ _ _ = w2 at HE ⊢
  rw [← hg3]
  clear hg3
  refine wp_loop_rounds 1 ?_
  rw [rounds_succ]
  go_wp2_with fail
  refine (has_none HE.out.par 37 X37.out).mono ?_
  rintro e w3 ⟨rfl, rfl⟩
  go_wp2_with fail
  go_loopg [7] n (fun gk _ wr => ∃ a1 o1 ks1 ao1 c1, Ex T least p tb tf tc w g2 g3 c o' ks' gk wr a1 o1 ks1 ao1 c1)
  case atStart => exact ⟨_, _, _, _, _, HE.out⟩
  case round =>
    obtain ⟨a1, o1, ks1, ao1, c1, hex⟩ := hrel
    have HX := hid hex
    clear hex HE
    have hop := HX.out.ops
    cases gk with
    | zero =>
      obtain ⟨s, k, hN, hk, rfl, rfl, rfl⟩ := hop.inv0
      have XN := hid hN
      have hk' : (k == 0) = true ∨ ((k == 0) = false ∧ (k < least) = True) := by
        rcases hk with h | h
        · exact .inl (by simp [h])
        · by_cases h0 : k = 0
          · exact .inl (by simp [h0])
          · exact .inr ⟨ne_beq h0, by rw [eq_iff_iff, iff_true]; exact h⟩
      clear hN hk hop
      go_wp2_with fail
      refine (XN.out _ _ _ _ _ HX.out.par).mono ?_
      rintro e w4 ⟨rfl, b4⟩
      have HX4 := hid (HX.out.keep b4)
      clear b4 HX
      obtain ⟨m1, hm1⟩ : ∃ m1, m1 = ks1.len := ⟨_, rfl⟩
      have XM := hid hm1
      have HR := hid (show NdV g3 (o1.cells (.slice ao1 m1 c1)) w4 from by rw [hm1]; exact HX4.out.row)
      clear hm1
      have F2 := hid HX4.out.res
      have fin : RetV T p tb tf tc a1 o1 ks1 w (.returned (.agg (o1.cells (.slice ao1 m1 c1)).toArray)) (w4.setRow g2 (o1.cells (.slice ao1 m1 c1)).toArray) := by
        rw [XM.out]
        exact ⟨ao1, c1, rfl, (HX4.out.kids.put (by omega) _).mono (fun x hx => by have := hx.1; have := HG.out.2.2; omega), HX4.out.par.row HG.out.2.1 _, HX4.out.chg.setRow (.inr HG.out.2.2) _⟩
      have FIN := hid fin
      clear fin
      rcases hk' with h0 | ⟨h0, h1⟩
      · go_wp2_with (first | (refine wpList_load_row rfl 79 _ rfl g3 rfl 79 _ (0, 0) _ HR.out Tryz.underlying79 rfl (ow_info o1 (.slice ao1 m1 c1)) ?_) | (refine wpList_store_row rfl 79 _ _ rfl g2 (o1.cells (.slice ao1 m1 c1)).toArray rfl rfl 79 _ F2.out (node_info 0 0) (by rfl) (ow_one o1 ao1 m1 c1) ?_))
        refine bodyPost_ret (v := .agg (o1.cells (.slice ao1 m1 c1)).toArray) (results_cell_row rfl _ _ g2 79 (o1.cells (.slice ao1 m1 c1)).toArray (0, 0) _ rfl (heap_setRow_at F2.out) Tryz.underlying79 rfl (ow_info o1 (.slice ao1 m1 c1))) rfl ?_
        exact FIN.out
      · go_wp2_with (first | (refine wpList_load_row rfl 79 _ rfl g3 rfl 79 _ (0, 0) _ HR.out Tryz.underlying79 rfl (ow_info o1 (.slice ao1 m1 c1)) ?_) | (refine wpList_store_row rfl 79 _ _ rfl g2 (o1.cells (.slice ao1 m1 c1)).toArray rfl rfl 79 _ F2.out (node_info 0 0) (by rfl) (ow_one o1 ao1 m1 c1) ?_))
        refine bodyPost_ret (v := .agg (o1.cells (.slice ao1 m1 c1)).toArray) (results_cell_row rfl _ _ g2 79 (o1.cells (.slice ao1 m1 c1)).toArray (0, 0) _ rfl (heap_setRow_at F2.out) Tryz.underlying79 rfl (ow_info o1 (.slice ao1 m1 c1))) rfl ?_
        exact FIN.out
    | succ n1 =>
      obtain ⟨b1, o2, ks2, s, k, hN, h0, hk, h9, ha, hE, hr⟩ := hop.inv1
      have XN := hid hN
      have XE := hid hE
      have XR := hid hr
      have e0 : (k == 0) = false := ne_beq (by omega)
      have e1 : (k < least) = False := by rw [eq_iff_iff, iff_false]; omega
      have w1k : IntKind.i64.wrap (k + 1) = k + 1 := IntWalk.i64_in _ (by omega)
      have hpl := XL.out
      have ha1 : a1 < 1000 := by omega
      clear hN hE hr hk h0 h9 ha hpl hop
      go_wp2_with fail
      refine (XN.out _ _ _ _ _ HX.out.par).mono ?_
      rintro e w4 ⟨rfl, b4⟩
      have HX4 := hid (HX.out.keep b4)
      clear b4 HX
      have q1 := cell_of (i := 1) HX4.out.par.py.par rfl
      have f1 := free_of (i := 1) HX4.out.par.py.par
      go_wp2_with fail
      obtain ⟨m1, hm1⟩ : ∃ m1, m1 = ks1.len := ⟨_, rfl⟩
      obtain ⟨m2, hm2⟩ : ∃ m2, m2 = ks2.len := ⟨_, rfl⟩
      have XM := hid (And.intro hm1 hm2)
      have HP5 := hid (show Pz T p tb tf tc (a1 + 1) (w4.setCell ⟨p, 1, none⟩ (.int .i64 ((a1 : Int) + 1))).drew from (HX4.out.par.step (a1 + 1)).keep (Below.refl _ _).drew)
      have HR5 := hid (show NdV g3 (o1.cells (.slice ao1 m1 c1)) (w4.setCell ⟨p, 1, none⟩ (.int .i64 ((a1 : Int) + 1))).drew from by rw [hm1]; exact heap_setCell_far HX4.out.row (Nat.ne_of_gt HI.out.2) _)
      have HF5 := hid (show NdV g2 (nodeL 0 0) (w4.setCell ⟨p, 1, none⟩ (.int .i64 ((a1 : Int) + 1))).drew from heap_setCell_far HX4.out.res HG.out.1 _)
      have HC5 := hid (show Chg [p] w4 (w4.setCell ⟨p, 1, none⟩ (.int .i64 ((a1 : Int) + 1))).drew from ((Chg.refl [p] w4).setCell (.inl (by simp)) _).drew)
      clear q1 f1 hm1 hm2
      refine wp_region_held_drew (S := fun _ => True) (by kernel_rfl) trivial (fun hS => ?_)
      generalize World.drew _ = w5 at HP5 HR5 HF5 HC5 ⊢
      refine wpAnyH_take (i := 0) (oi := ⟨some 35, Op.move (Operand.tmp 6), 9, "tree.go:559", #[], none⟩) (v := ?_) rfl (by kernel_rfl) (by kernel_rfl) (by kernel_rfl) (fun _ _ _ h => h) (Or.inl ⟨by rfl, ?_⟩) hS ?_
      rotate_left 1
      · rintro wx -
        (go_simp <;> (try with_reducible rfl))
      try simp only [Act.put, List.setIfInBounds_toArray, List.set_cons_zero, List.set_cons_succ]
      refine wpAnyH_take (i := 2) (oi := ⟨some 37, Op.move (Operand.tmp 0), 243, "tree.go:559", #[], none⟩) (v := ?_) rfl (by kernel_rfl) (by kernel_rfl) (by kernel_rfl) (fun _ _ _ h => h) (Or.inl ⟨by rfl, ?_⟩) hS ?_
      rotate_left 1
      · rintro wx -
        (go_simp <;> (try with_reducible rfl))
      try simp only [Act.put, List.setIfInBounds_toArray, List.set_cons_zero, List.set_cons_succ]
      refine wpAnyH_take (i := 3) (oi := ⟨some 38, Op.move (Operand.tmp 7), 3, "tree.go:559", #[], none⟩) (v := ?_) rfl (by kernel_rfl) (by kernel_rfl) (by kernel_rfl) (fun _ _ _ h => h) (Or.inl ⟨by rfl, ?_⟩) hS ?_
      rotate_left 1
      · rintro wx -
        (go_simp <;> (try with_reducible rfl))
      try simp only [Act.put, List.setIfInBounds_toArray, List.set_cons_zero, List.set_cons_succ]
      refine wpAnyH_take (i := 4) (oi := ⟨some 39, Op.binOp BinOp.add 3 (Operand.tmp 38) (Operand.const (Value.int IntKind.i64 1)) 3, 3, "tree.go:559", #[⟨3, .data⟩], none⟩) (v := ?_) rfl (by kernel_rfl) (by kernel_rfl) (by kernel_rfl) (fun _ _ _ h => h) (Or.inl ⟨by rfl, ?_⟩) hS ?_
      rotate_left 1
      · rintro wx -
        (go_simp <;> (try with_reducible rfl))
      try simp only [Act.put, List.setIfInBounds_toArray, List.set_cons_zero, List.set_cons_succ]
      refine wpAnyH_ready (rs := [1, 5]) (by kernel_rfl) (by simp) ?_
      refine AllReadyH.cons (o := ⟨some 36, Op.load 79 (Operand.tmp 5), 79, "tree.go:559", #[], none⟩) rfl (fun K hK => ?_) ?_
      rotate_left 1
      refine AllReadyH.cons (o := ⟨some 40, Op.call { callee := Callee.value (Operand.func 151), args := #[Operand.tmp 37, Operand.tmp 39], argTypes := #[243, 3] }, 79, "tree.go:559", #[⟨2, .data⟩, ⟨4, .data⟩], none⟩) rfl (fun K hK => ?_) AllReadyH.nil
      · go_simp; refine (XE.out _ _ _ _ _ HP5.out).mono ?_; rintro e w6 ⟨ao2, c2, rfl, hk2, h6, hc6⟩; have H6 := hid (And.intro hk2 (And.intro h6 hc6)); rw [← XM.out.2]; clear hk2 h6 hc6; have hR6 : NdV g3 (o1.cells (.slice ao1 m1 c1)) w6 := H6.out.2.2.heap HR5.out (by simp only [List.mem_singleton]; have := HI.out.2; omega); have HR6 := hid hR6; clear hR6
        refine hK.out _ _ trivial (fun hS2 => ?_)
        clear hK K hS
        revert hS2; intro hS
        try simp only [Act.put, List.setIfInBounds_toArray, List.set_cons_zero, List.set_cons_succ]
        refine wpAnyH_ready (rs := [1]) (by kernel_rfl) (by simp) ?_
        refine AllReadyH.cons (o := ⟨some 36, Op.load 79 (Operand.tmp 5), 79, "tree.go:559", #[], none⟩) rfl (fun K hK => ?_) AllReadyH.nil
        refine step_load_row rfl 79 _ rfl g3 rfl 79 _ (0, 0) _ HR6.out Tryz.underlying79 rfl (ow_info o1 (.slice ao1 m1 c1)) ?_
        refine hK.out _ _ trivial (fun hS2 => ?_)
        clear hK K hS
        revert hS2; intro hS
        try simp only [Act.put, List.setIfInBounds_toArray, List.set_cons_zero, List.set_cons_succ]
        refine wpAnyH_ready (rs := [6]) (by kernel_rfl) (by simp) ?_
        refine AllReadyH.cons (o := ⟨some 41, Op.buildSlice 57 2 #[(0, Operand.tmp 36), (1, Operand.tmp 40)], 57, "tree.go:559", #[⟨1, .data⟩, ⟨5, .data⟩], none⟩) rfl (fun K hK => ?_) AllReadyH.nil
        go_simp
        refine hK.out _ _ trivial (fun hS2 => ?_)
        clear hK K hS
        revert hS2; intro hS
        try simp only [Act.put, List.setIfInBounds_toArray, List.set_cons_zero, List.set_cons_succ]
        generalize hw7 : World.alloc w6 _ = w7
        obtain ⟨r7, e7⟩ := ex_more HX4.out HI.out.1 HG.out.2.1 HG.out.2.2 XR.out HC5.out H6.out.1 H6.out.2.1 H6.out.2.2 (w7 := w7) (by rw [← XM.out.1, ← XM.out.2]; exact hw7.symm)
        rw [← XM.out.1] at r7
        have R7 := hid r7
        have E7 := hid e7
        clear r7 e7 hw7
        refine wpAnyH_take (i := 7) (oi := ⟨some 42, Op.build 79 #[(0, Operand.const (Value.int IntKind.i64 9)), (1, Operand.tmp 35), (8, Operand.tmp 41)], 79, "tree.go:559", #[⟨0, .data⟩, ⟨6, .data⟩], none⟩) (v := ?_) rfl (by kernel_rfl) (by kernel_rfl) (by kernel_rfl) (fun _ _ _ h => h) (Or.inl ⟨by rfl, ?_⟩) hS ?_
        rotate_left 1
        · rintro wx -
          (go_simp <;> (try with_reducible rfl))
        try simp only [Act.put, List.setIfInBounds_toArray, List.set_cons_zero, List.set_cons_succ]
        refine wpAnyH_ready (rs := [8]) (by kernel_rfl) (by simp) ?_
        refine AllReadyH.cons (o := ⟨none, Op.store 79 (Operand.tmp 5) (Operand.tmp 42), 0, "tree.go:559", #[⟨7, .data⟩, ⟨5, .chain⟩, ⟨0, .phase⟩, ⟨1, .phase⟩, ⟨2, .phase⟩, ⟨3, .phase⟩, ⟨4, .phase⟩, ⟨5, .phase⟩, ⟨6, .phase⟩, ⟨7, .phase⟩], none⟩) rfl (fun K hK => ?_) AllReadyH.nil
        refine step_store_row rfl 79 _ _ rfl g3 ((owOp s).cells (.slice (some ⟨w6.heap.size, 0, none⟩) 2 2)).toArray rfl rfl 79 _ R7.out (ow_info (owOp s) (.slice (some ⟨w6.heap.size, 0, none⟩) 2 2)) rfl (ow_one (owOp s) (some ⟨w6.heap.size, 0, none⟩) 2 2) ?_
        refine hK.out _ _ trivial (fun hS2 => ?_)
        clear hK K hS
        revert hS2; intro hS
        try simp only [Act.put]
        refine wpAnyH_done (by kernel_rfl) ?_ _
        go_wp2_with fail
        go_roundg n1
        case measure => omega
        case rel => exact ⟨_, _, _, _, _, E7.out⟩
      · refine step_load_row rfl 79 _ rfl g3 rfl 79 _ (0, 0) _ HR5.out Tryz.underlying79 rfl (ow_info o1 (.slice ao1 m1 c1)) ?_
        refine hK.out _ _ trivial (fun hS2 => ?_)
        clear hK K hS
        revert hS2; intro hS
        try simp only [Act.put, List.setIfInBounds_toArray, List.set_cons_zero, List.set_cons_succ]
        refine wpAnyH_ready (rs := [5]) (by kernel_rfl) (by simp) ?_
        refine AllReadyH.cons (o := ⟨some 40, Op.call { callee := Callee.value (Operand.func 151), args := #[Operand.tmp 37, Operand.tmp 39], argTypes := #[243, 3] }, 79, "tree.go:559", #[⟨2, .data⟩, ⟨4, .data⟩], none⟩) rfl (fun K hK => ?_) AllReadyH.nil
        go_simp; refine (XE.out _ _ _ _ _ HP5.out).mono ?_; rintro e w6 ⟨ao2, c2, rfl, hk2, h6, hc6⟩; have H6 := hid (And.intro hk2 (And.intro h6 hc6)); rw [← XM.out.2]; clear hk2 h6 hc6
        refine hK.out _ _ trivial (fun hS2 => ?_)
        clear hK K hS
        revert hS2; intro hS
        try simp only [Act.put, List.setIfInBounds_toArray, List.set_cons_zero, List.set_cons_succ]
        refine wpAnyH_ready (rs := [6]) (by kernel_rfl) (by simp) ?_
        refine AllReadyH.cons (o := ⟨some 41, Op.buildSlice 57 2 #[(0, Operand.tmp 36), (1, Operand.tmp 40)], 57, "tree.go:559", #[⟨1, .data⟩, ⟨5, .data⟩], none⟩) rfl (fun K hK => ?_) AllReadyH.nil
        go_simp
        refine hK.out _ _ trivial (fun hS2 => ?_)
        clear hK K hS
        revert hS2; intro hS
        try simp only [Act.put, List.setIfInBounds_toArray, List.set_cons_zero, List.set_cons_succ]
        generalize hw7 : World.alloc w6 _ = w7
        obtain ⟨r7, e7⟩ := ex_more HX4.out HI.out.1 HG.out.2.1 HG.out.2.2 XR.out HC5.out H6.out.1 H6.out.2.1 H6.out.2.2 (w7 := w7) (by rw [← XM.out.1, ← XM.out.2]; exact hw7.symm)
        rw [← XM.out.1] at r7
        have R7 := hid r7
        have E7 := hid e7
        clear r7 e7 hw7
        refine wpAnyH_take (i := 7) (oi := ⟨some 42, Op.build 79 #[(0, Operand.const (Value.int IntKind.i64 9)), (1, Operand.tmp 35), (8, Operand.tmp 41)], 79, "tree.go:559", #[⟨0, .data⟩, ⟨6, .data⟩], none⟩) (v := ?_) rfl (by kernel_rfl) (by kernel_rfl) (by kernel_rfl) (fun _ _ _ h => h) (Or.inl ⟨by rfl, ?_⟩) hS ?_
        rotate_left 1
        · rintro wx -
          (go_simp <;> (try with_reducible rfl))
        try simp only [Act.put, List.setIfInBounds_toArray, List.set_cons_zero, List.set_cons_succ]
        refine wpAnyH_ready (rs := [8]) (by kernel_rfl) (by simp) ?_
        refine AllReadyH.cons (o := ⟨none, Op.store 79 (Operand.tmp 5) (Operand.tmp 42), 0, "tree.go:559", #[⟨7, .data⟩, ⟨5, .chain⟩, ⟨0, .phase⟩, ⟨1, .phase⟩, ⟨2, .phase⟩, ⟨3, .phase⟩, ⟨4, .phase⟩, ⟨5, .phase⟩, ⟨6, .phase⟩, ⟨7, .phase⟩], none⟩) rfl (fun K hK => ?_) AllReadyH.nil
        refine step_store_row rfl 79 _ _ rfl g3 ((owOp s).cells (.slice (some ⟨w6.heap.size, 0, none⟩) 2 2)).toArray rfl rfl 79 _ R7.out (ow_info (owOp s) (.slice (some ⟨w6.heap.size, 0, none⟩) 2 2)) rfl (ow_one (owOp s) (some ⟨w6.heap.size, 0, none⟩) 2 2) ?_
        refine hK.out _ _ trivial (fun hS2 => ?_)
        clear hK K hS
        revert hS2; intro hS
        try simp only [Act.put]
        refine wpAnyH_done (by kernel_rfl) ?_ _
        go_wp2_with fail
        go_roundg n1
        case measure => omega
        case rel => exact ⟨_, _, _, _, _, E7.out⟩
end
end Go.Proofs.YtpcjfgihglfdgaaGreatDoor
